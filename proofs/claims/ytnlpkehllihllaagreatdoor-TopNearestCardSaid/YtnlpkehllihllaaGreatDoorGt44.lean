/-
  A part of the proofs that calipertop.TopBack, TopFloats and TopNearest return true for every input and leave it as it was: part 44 of 47.
-/
import Derived.Test.YtnlpkehllihllaaGreatDoorGt43
import Derived.Test.YtnlpkehllihllaaGreatDoorGt18
/-
  What TopNearest leans on beside the contracts: the middle of two numbers; words without noughts at the end; the form's number.
-/
namespace Go.Proofs.YtnlpkehllihllaaGreatDoor
open Go.RowKit Go.Sort

/-- The low sixteen bits of a whole number. -/
theorem low_sixteen (n : Int) : ∃ a : Nat, a < 65536 ∧ bits .and .i64 n 65535 = (a : Int) := by
  refine ⟨(BitVec.ofInt 64 n &&& BitVec.ofInt 64 65535).toNat, ?_, ?_⟩
  · rw [BitVec.toNat_and]
    exact Nat.lt_of_le_of_lt Nat.and_le_right (by decide)
  · have h : (BitVec.ofInt 64 n &&& BitVec.ofInt 64 65535).toNat < 65536 := by
      rw [BitVec.toNat_and]
      exact Nat.lt_of_le_of_lt Nat.and_le_right (by decide)
    show IntKind.i64.wrap ((BitVec.ofInt 64 n &&& BitVec.ofInt 64 65535).toNat : Int) = _
    rw [IntKind.wrap_i64]
    omega

theorem num_of_rw {w : World} {A : Option Addr} {n c : Nat} {o : List Nat} (h : RW w A o) (hl : o.length = n) (ho : okw o) (hc : n ≤ c) (hm : c ≤ maxLen) : Num w (.slice A (tl o n) c) (val o) := by
  subst hl
  have e := tl_len ho
  refine ⟨A, c, by rw [e]; rfl, ?_, hm, ?_⟩
  · have := tl_le o o.length
    rw [e] at this
    exact Nat.le_trans this hc
  · rw [← take_tl ho]; exact h.take _

theorem ex_up {a k : Nat} {t : Int} (ht : -2500 ≤ t) : ex (a * 2 ^ k) t 0 = ex a (t + k) 0 := by
  unfold ex
  rw [show (t + (k : Int) + 2500).toNat = k + (t + 2500).toNat by omega, Nat.pow_add, Nat.mul_assoc a]
theorem ex_sum (a b : Nat) (t : Int) : ex (a + b) t 0 = ex a t 0 + ex b t 0 := by
  unfold ex
  rw [Nat.add_mul, Nat.add_mul]
/-- The middle of two numbers, as the law makes it. -/
theorem mid_ex {a b : Nat} {d g : Int} (d1 : -1100 ≤ d) (d2 : d ≤ 1170) (g1 : -1100 ≤ g) (g2 : g ≤ 1170) :
    2 * ex (a * 2 ^ shN (d - (min d g - 1) - 1) + b * 2 ^ shN (g - (min d g - 1) - 1)) (min d g - 1) 0 = ex a d 0 + ex b g 0 := by
  have e1 : shN (d - (min d g - 1) - 1) = (d - min d g).toNat := by unfold shN; omega
  have e2 : shN (g - (min d g - 1) - 1) = (g - min d g).toNat := by unfold shN; omega
  have e3 : ∀ x, 2 * ex x (min d g - 1) 0 = ex x (min d g) 0 := by
    intro x
    have := ex_up (a := x) (k := 1) (t := min d g - 1) (by omega)
    rw [show min d g - 1 + ((1 : Nat) : Int) = min d g by omega] at this
    rw [← this]
    unfold ex
    rw [Nat.pow_one]
    generalize 2 ^ (min d g - 1 + 2500).toNat = p
    generalize 5 ^ ((0 : Int) + 2500).toNat = q
    rw [Nat.mul_right_comm x 2 p, Nat.mul_right_comm (x * p) 2 q, Nat.mul_comm 2]
  rw [e3, e1, e2, ex_sum, ex_up (by omega), ex_up (by omega)]
  rw [show min d g + ((d - min d g).toNat : Int) = d by omega, show min d g + ((g - min d g).toNat : Int) = g by omega]
theorem lw_shift {a s K : Nat} (ha : a < 18446744073709551616) (h : 64 + s ≤ 64 * K) : lw (a * 2 ^ s) ≤ K := by
  refine lw_le ?_
  rw [bp_two]
  have h3 : a * 2 ^ s < 2 ^ 64 * 2 ^ s := Nat.mul_lt_mul_of_pos_right (by simpa using ha) (Nat.two_pow_pos _)
  rw [← Nat.pow_add] at h3
  exact Nat.lt_of_lt_of_le h3 (Nat.pow_le_pow_right (by omega) h)
theorem mid_lw {a : Nat} {d m : Int} (ha : a < 18446744073709551616) (h1 : m ≤ d) (h2 : d ≤ m + 2300) : lw (a * 2 ^ shN (d - (m - 1) - 1)) ≤ 64 := by
  have e : shN (d - (m - 1) - 1) ≤ 2300 := by unfold shN; omega
  exact lw_shift ha (by omega)

/-- How the law ends: the number stands to the middle as it must. -/
theorem near_end {n k key X S : Nat} (h1 : 5 ≤ n) (h2 : n ≤ 10) (h : NearIs (formAt n) (formAt n).top X k false) (hk : key ≤ (formAt n).top) (hS : 2 * S = VV (formAt n) k + VV (formAt n) key) :
    (k < key → cmpI (X : Int) (S : Int) < 0 ∨ (cmpI (X : Int) (S : Int) = 0 ∧ k % 2 = 0)) ∧ (key < k → 0 < cmpI (X : Int) (S : Int) ∨ (cmpI (X : Int) (S : Int) = 0 ∧ k % 2 = 0)) := by
  obtain ⟨_, p, q⟩ := near_law h1 h2 h hk
  unfold cmpI
  refine ⟨fun hh => ?_, fun hh => ?_⟩
  · rcases p hh with h3 | ⟨h3, h4⟩
    · left
      rw [if_pos (by omega)]
      omega
    · right
      rw [if_neg (by omega), if_neg (by omega)]
      exact ⟨rfl, h4⟩
  · rcases q hh with h3 | ⟨h3, h4⟩
    · left
      rw [if_neg (by omega), if_pos (by omega)]
      omega
    · right
      rw [if_neg (by omega), if_neg (by omega)]
      exact ⟨rfl, h4⟩
end Go.Proofs.YtnlpkehllihllaaGreatDoor
