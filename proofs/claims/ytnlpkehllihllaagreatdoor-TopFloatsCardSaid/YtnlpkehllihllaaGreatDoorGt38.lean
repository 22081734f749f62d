/-
  A part of the proofs that calipertop.TopBack, TopFloats and TopNearest return true for every input and leave it as it was: part 38 of 47.
-/
import Derived.Test.YtnlpkehllihllaaGreatDoorGt25
import Derived.Laws.FloatArith
/-
  Plain laws of doubles: what a pattern of Binary64 is, as the model's floats have it.
-/
namespace Go.Proofs.YtnlpkehllihllaaGreatDoor
open Go.RowKit Go.Sort

abbrev flK (b : Nat) : Nat := b % 9223372036854775808
abbrev flN (b : Nat) : Bool := decide (9223372036854775808 ≤ b)
theorem fl_read {b : Nat} (hb : b < 18446744073709551616) : Ieee.double.read b =
    if flK b < 4503599627370496 then .number (flN b) (flK b) (-1074)
    else if flK b < 9218868437227405312 then .number (flN b) (4503599627370496 + flK b % 4503599627370496) (-1074 + ((flK b / 4503599627370496 - 1 : Nat) : Int))
    else if flK b = 9218868437227405312 then .infinity (flN b) else .nan (flN b) (flK b - 9218868437227405312) := by
  have e1 : Ieee.double.signWeight = 9223372036854775808 := rfl
  have e2 : Ieee.double.binade = 4503599627370496 := rfl
  have e3 : Ieee.double.infRung = 9218868437227405312 := rfl
  have e4 : Ieee.double.leastPlace = -1074 := rfl
  have e5 : (b / 9223372036854775808 % 2 == 1) = flN b := by
    unfold flN
    by_cases h : 9223372036854775808 ≤ b
    · rw [decide_eq_true h, beq_iff_eq]; omega
    · rw [decide_eq_false h, beq_eq_false_iff_ne]; omega
  unfold Ieee.Format.read
  simp only [e1, e2, e3, e4, e5]
theorem fl_form : formAt 14 = ⟨2, 64, 52, 1023, 9218868437227405311, 9218868437227405312, 9221120237041090560⟩ := rfl
theorem fl_neg (b : Nat) : pNeg (formAt 14) b = flN b := by
  rw [fl_form]
  unfold pNeg flN
  rw [decide_eq_decide]
  constructor
  · rintro ⟨_, h⟩; exact h
  · intro h; exact ⟨by decide, h⟩
theorem fl_key {b : Nat} (hb : b < 18446744073709551616) : pKey (formAt 14) b = flK b := by
  unfold pKey
  rw [fl_neg, fl_form]
  unfold flN flK
  by_cases h : 9223372036854775808 ≤ b
  · rw [decide_eq_true h, if_neg (by decide), if_pos rfl]
    show b - 9223372036854775808 = _
    omega
  · rw [decide_eq_false h, if_pos rfl]
    omega
theorem fl_cls {b : Nat} (hb : b < 18446744073709551616) : clsI (formAt 14) b (pKey (formAt 14) b) = if flK b = 9218868437227405312 then 3 else if 9218868437227405312 < flK b then 4 else if flK b = 0 then 1 else 2 := by
  rw [fl_key hb, fl_form]
  unfold clsI
  simp only
  by_cases h1 : flK b = 9218868437227405312
  · rw [if_pos ⟨trivial, h1, by decide⟩, if_pos h1]
  · rw [if_neg (fun q => h1 q.2.1), if_neg h1]
    by_cases h2 : 9218868437227405312 < flK b
    · rw [if_pos (.inl ⟨trivial, by omega⟩), if_pos h2]
    · rw [if_neg, if_neg h2]
      · by_cases h3 : flK b = 0
        · rw [if_pos ⟨h3, by decide⟩, if_pos h3]
        · rw [if_neg (fun q => h3 q.1), if_neg h3]
      · rintro (⟨_, q⟩ | ⟨q, _⟩)
        · omega
        · exact q rfl

/-- A double, as its pattern's class has it. -/
inductive FlIs (b : Nat) : Prop
  | nan (c : clsI (formAt 14) b (pKey (formAt 14) b) = 4) (s : Bool) (t : Nat) (r : Ieee.double.read b = .nan s t)
  | inf (c : clsI (formAt 14) b (pKey (formAt 14) b) = 3) (r : Ieee.double.read b = .infinity (pNeg (formAt 14) b))
  | zero (c : clsI (formAt 14) b (pKey (formAt 14) b) = 1) (r : Ieee.double.read b = .number (pNeg (formAt 14) b) 0 (-1074))
  | fin (c : clsI (formAt 14) b (pKey (formAt 14) b) = 2) (m : Nat) (i : Int) (h : m ≠ 0) (r : Ieee.double.read b = .number (pNeg (formAt 14) b) m i)
theorem fl_is {b : Nat} (hb : b < 18446744073709551616) : FlIs b := by
  have hc := fl_cls hb
  have hr := fl_read hb
  have hn := fl_neg b
  by_cases h1 : flK b = 9218868437227405312
  · rw [if_pos h1] at hc
    rw [if_neg (by omega), if_neg (by omega), if_pos h1, ← hn] at hr
    exact .inf hc hr
  · rw [if_neg h1] at hc
    by_cases h2 : 9218868437227405312 < flK b
    · rw [if_pos h2] at hc
      rw [if_neg (by omega), if_neg (by omega), if_neg h1] at hr
      exact .nan hc _ _ hr
    · rw [if_neg h2] at hc
      by_cases h3 : flK b = 0
      · rw [if_pos h3] at hc
        rw [if_pos (by omega), h3, ← hn] at hr
        exact .zero hc hr
      · rw [if_neg h3] at hc
        by_cases h4 : flK b < 4503599627370496
        · rw [if_pos h4, ← hn] at hr
          exact .fin hc _ _ h3 hr
        · rw [if_neg h4, if_pos (by omega), ← hn] at hr
          exact .fin hc _ _ (by omega) hr

theorem fl_zero : Ieee.double.read 0 = .number false 0 (-1074) := by
  rw [fl_read (by decide)]
  rfl
theorem signed_zero (s : Bool) (k : Nat) : Ieee.signed s 0 k = 0 := by
  unfold Ieee.signed
  rw [Nat.zero_shiftLeft]
  cases s <;> rfl
theorem icmp_lt {a b : Int} (h : a < b) : compare a b = .lt := by
  show compareOfLessAndEq a b = _
  unfold compareOfLessAndEq
  rw [if_pos h]
theorem icmp_gt {a b : Int} (h : b < a) : compare a b = .gt := by
  show compareOfLessAndEq a b = _
  unfold compareOfLessAndEq
  rw [if_neg (by omega), if_neg (by omega)]
theorem icmp_eq (a : Int) : compare a a = .eq := by
  show compareOfLessAndEq a a = _
  unfold compareOfLessAndEq
  rw [if_neg (by omega), if_pos rfl]
theorem signed_sign {s : Bool} {m : Nat} (k : Nat) (h : m ≠ 0) : compare (Ieee.signed s m k) 0 = if s = true then .lt else .gt := by
  have hp : 0 < m <<< k := by
    rw [Nat.shiftLeft_eq]
    exact Nat.mul_pos (by omega) (Nat.two_pow_pos k)
  unfold Ieee.signed
  generalize m <<< k = x at hp
  cases s
  · rw [if_neg (by decide), if_neg (by decide)]
    exact icmp_gt (by omega)
  · rw [if_pos rfl, if_pos rfl]
    exact icmp_lt (by omega)
theorem signed_back (s : Bool) (m k : Nat) : Ieee.signed s m k + Ieee.signed (!s) m k = 0 := by
  unfold Ieee.signed
  generalize m <<< k = x
  cases s
  · show (x : Int) + -(x : Int) = 0
    omega
  · show -(x : Int) + (x : Int) = 0
    omega
theorem ord_num (s t : Bool) (m n : Nat) (i j : Int) : Ieee.Datum.order (.number s m i) (.number t n j) = some (compare (Ieee.signed s m (i - min i j).toNat) (Ieee.signed t n (j - min i j).toNat)) := rfl
theorem ord_nan {b : Nat} {s : Bool} {t : Nat} (h : Ieee.double.read b = .nan s t) (y : Nat) : Ieee.double.order b y = none := by
  unfold Ieee.Format.order
  rw [h]
  rfl
theorem ord_self {b : Nat} (h : (∃ s, Ieee.double.read b = .infinity s) ∨ (∃ s m i, Ieee.double.read b = .number s m i)) : Ieee.double.order b b = some .eq := by
  unfold Ieee.Format.order
  rcases h with ⟨s, h⟩ | ⟨s, m, i, h⟩
  · rw [h]
    cases s <;> rfl
  · rw [h, ord_num, icmp_eq]
theorem ord_zero {b : Nat} {s : Bool} {i : Int} (h : Ieee.double.read b = .number s 0 i) : Ieee.double.order b 0 = some .eq := by
  unfold Ieee.Format.order
  rw [h, fl_zero, ord_num, signed_zero, signed_zero, icmp_eq]
theorem ord_sign {b : Nat} {s : Bool} (h : Ieee.double.read b = .infinity s ∨ (∃ m i, m ≠ 0 ∧ Ieee.double.read b = .number s m i)) : Ieee.double.order b 0 = some (if s = true then .lt else .gt) := by
  unfold Ieee.Format.order
  rw [fl_zero]
  rcases h with h | ⟨m, i, hm, h⟩
  · rw [h]
    rfl
  · rw [h, ord_num, signed_zero, signed_sign _ hm]
theorem sub_inf {b : Nat} {s : Bool} (h : Ieee.double.read b = .infinity s) : Ieee.double.sub b b = none := by
  unfold Ieee.Format.sub
  rw [h]
  cases s <;> rfl
theorem sub_fin {b : Nat} {s : Bool} {m : Nat} {i : Int} (h : Ieee.double.read b = .number s m i) : Ieee.double.sub b b = some 0 := by
  have h3 : ∀ T : Int, T = Ieee.signed s m (i - min i i).toNat + Ieee.signed (!s) m (i - min i i).toNat → (Ieee.Datum.number s m i).sum (Ieee.Datum.number (!s) m i) = some (.number (if T = 0 then s && !s else decide (T < 0)) T.natAbs (min i i)) := by
    rintro T rfl
    rfl
  have h4 := h3 0 (signed_back s m _).symm
  rw [if_pos rfl, show (s && !s) = false by cases s <;> rfl] at h4
  unfold Ieee.Format.sub
  rw [h]
  show ((Ieee.Datum.number s m i).sum (Ieee.Datum.number (!s) m i)).map Ieee.double.write = some 0
  rw [h4]
  rfl
/-- A NaN that is drawn. -/
theorem nan_cut (x y t : Nat) : Ieee.double.order (Question.cut (.nanBits .f64 x y) t) 0 = none := by
  have h : ∃ s u, Ieee.double.read (Question.cut (.nanBits .f64 x y) t) = .nan s u := by
    obtain ⟨z, hz⟩ : ∃ z, z = (t / 2) % 4503599627370495 := ⟨_, rfl⟩
    have hz1 : z < 4503599627370495 := by rw [hz]; exact Nat.mod_lt _ (by decide)
    have e : Question.cut (.nanBits .f64 x y) t = (t % 2) * 9223372036854775808 + 9218868437227405312 + 1 + z := by rw [hz]; rfl
    rw [e]
    have h2 : t % 2 < 2 := Nat.mod_lt _ (by decide)
    obtain ⟨g, hg⟩ : ∃ g, g = t % 2 := ⟨_, rfl⟩
    rw [← hg] at h2 ⊢
    have hk : flK (g * 9223372036854775808 + 9218868437227405312 + 1 + z) = 9218868437227405312 + 1 + z := by unfold flK; omega
    rw [fl_read (by omega), hk, if_neg (by omega), if_neg (by omega), if_neg (by omega)]
    exact ⟨_, _, rfl⟩
  obtain ⟨s, u, h⟩ := h
  exact ord_nan h 0
theorem run_sub_nan {P : Program} (t : TypeId) {x y : Nat} (h : Ieee.double.sub x y = none) (w : World) :
    (binOp .sub t (.float .f64 x) (.float .f64 y)).run P w = .ok (.float .f64 (Question.cut (.nanBits .f64 x y) (w.tape w.drawn (.nanBits .f64 x y)))) w.drew := by
  have h' : FloatKind.f64.format.sub x y = none := h
  simp [binOp, Op.floatArith, h', choose]
  rfl
end Go.Proofs.YtnlpkehllihllaaGreatDoor
