/-
  A part of the proofs that calipertop.TopBack, TopFloats and TopNearest return true for every input and leave it as it was: part 42 of 47.
-/
import Derived.Test.YtnlpkehllihllaaGreatDoorGt19
/-
  Plain law of calipertop.TopNearest: no number of a form is nearer than the one that is told.
-/
namespace Go.Proofs.YtnlpkehllihllaaGreatDoor
open Go.RowKit Go.Sort

/-- Each boundary is the middle of its neighbours: asked of each magnitude of the six forms. -/
def midsB : Bool := (List.range 6).all fun i => (List.range (formAt (i + 5)).top).all fun k =>
  decide (2 * BV (formAt (i + 5)) k = VV (formAt (i + 5)) k + VV (formAt (i + 5)) (k + 1)) && decide (VV (formAt (i + 5)) k < VV (formAt (i + 5)) (k + 1))
set_option maxRecDepth 100000 in
theorem mids_all : midsB = true := by decide +kernel
theorem mids {n k : Nat} (h1 : 5 ≤ n) (h2 : n ≤ 10) (hk : k < (formAt n).top) : 2 * BV (formAt n) k = VV (formAt n) k + VV (formAt n) (k + 1) ∧ VV (formAt n) k < VV (formAt n) (k + 1) := by
  have h := mids_all
  unfold midsB at h
  rw [List.all_eq_true] at h
  have h3 := h (n - 5) (List.mem_range.2 (by omega))
  rw [show n - 5 + 5 = n by omega, List.all_eq_true] at h3
  have h4 := h3 k (List.mem_range.2 hk)
  simpa using h4
theorem vv_le {n : Nat} (h1 : 5 ≤ n) (h2 : n ≤ 10) : ∀ {i j : Nat}, i ≤ j → j ≤ (formAt n).top → VV (formAt n) i ≤ VV (formAt n) j := by
  intro i j
  induction j with
  | zero => intro h _; obtain rfl : i = 0 := by omega
            exact Nat.le_refl _
  | succ j ih =>
    intro h hj
    rcases Nat.lt_or_ge i (j + 1) with q | q
    · exact Nat.le_of_lt (Nat.lt_of_le_of_lt (ih (by omega) (by omega)) (mids h1 h2 (by omega)).2)
    · obtain rfl : i = j + 1 := by omega
      exact Nat.le_refl _
theorem vv_lt {n i j : Nat} (h1 : 5 ≤ n) (h2 : n ≤ 10) (h : i < j) (hj : j ≤ (formAt n).top) : VV (formAt n) i < VV (formAt n) j :=
  Nat.lt_of_lt_of_le (mids h1 h2 (k := i) (by omega)).2 (vv_le h1 h2 (by omega) hj)
/-- No number is nearer than the one that is told; of two that are as near the even one is told. -/
theorem near_law {n k key X : Nat} (h1 : 5 ≤ n) (h2 : n ≤ 10) (h : NearIs (formAt n) (formAt n).top X k false) (hk : key ≤ (formAt n).top) :
    k ≤ (formAt n).top ∧ (k < key → 2 * X < VV (formAt n) k + VV (formAt n) key ∨ (2 * X = VV (formAt n) k + VV (formAt n) key ∧ k % 2 = 0)) ∧
    (key < k → VV (formAt n) k + VV (formAt n) key < 2 * X ∨ (2 * X = VV (formAt n) k + VV (formAt n) key ∧ k % 2 = 0)) := by
  rcases h with ⟨h, _⟩ | ⟨_, hw, k0, hs, rfl⟩
  · cases h
  have hkind : (formAt n).kind ≠ 1 := by
    obtain rfl | rfl | rfl | rfl | rfl | rfl : n = 5 ∨ n = 6 ∨ n = 7 ∨ n = 8 ∨ n = 9 ∨ n = 10 := by omega
    all_goals decide
  have e : lifted (formAt n) X k0 = k0 := by unfold lifted; rw [if_neg (fun q => hkind q.1)]
  rw [e]
  refine ⟨hs.le, fun q => ?_, fun q => ?_⟩
  · have hh := hs.high
    unfold wth at hh
    simp only [Bool.or_eq_true, Bool.and_eq_true, decide_eq_true_eq] at hh
    have hm := (mids h1 h2 (k := k0) (by omega)).1
    have hv := vv_le h1 h2 (i := k0 + 1) (j := key) (by omega) hk
    omega
  · have hl := hs.low
    rcases hl with hl | hl
    · omega
    · unfold wth at hl
      simp only [Bool.or_eq_false_iff, Bool.and_eq_false_iff, decide_eq_false_iff_not] at hl
      have hle := hs.le
      have hm := (mids h1 h2 (k := k0 - 1) (by omega)).1
      rw [show k0 - 1 + 1 = k0 by omega] at hm
      have hv := vv_le h1 h2 (i := key) (j := k0 - 1) (by omega) (by omega)
      omega
end Go.Proofs.YtnlpkehllihllaaGreatDoor
