/-
  The plain arithmetic of a product of words, word by word.
-/
import Derived.Test.YtfciahfdmnnejaaDoorL1
namespace Go.Proofs.YtfciahfdmnnejaaDoor

theorem mul_bound {x y : Nat} (hx : x < 18446744073709551616) (hy : y < 18446744073709551616) : x * y ≤ 18446744073709551615 * 18446744073709551615 := Nat.mul_le_mul (by omega) (by omega)

/-- What a step of the inner loop leaves: the new word, the new carry. -/
theorem mul_word (x y c o : Nat) (hx : x < 18446744073709551616) (hy : y < 18446744073709551616) (hc : c < 18446744073709551616) (ho : o < 18446744073709551616) :
    ∃ t d : Nat, t < 18446744073709551616 ∧ d < 18446744073709551616 ∧ t + 18446744073709551616 * d = x * y + c + o ∧
      (sumI (o : Int) (sumI (mullI x y) c 0) 0 = (t : Int)) ∧ (mulhI x y + carI (mullI x y) c 0 + carI (o : Int) (sumI (mullI x y) c 0) 0 = (d : Int)) ∧
      0 ≤ mullI x y ∧ 0 ≤ sumI (mullI x y) c 0 ∧ sumI (mullI x y) c 0 ≤ 18446744073709551615 ∧
      0 ≤ mulhI x y + carI (mullI x y) c 0 ∧ mulhI x y + carI (mullI x y) c 0 ≤ 18446744073709551615 := by
  have hb := mul_bound hx hy
  rw [mulhI_nat, mullI_nat]
  generalize x * y = p at *
  have e1 : sumI ((p % 18446744073709551616 : Nat) : Int) c 0 = (((p % 18446744073709551616 + c) % 18446744073709551616 : Nat) : Int) := sumI_nat (p % 18446744073709551616) c 0
  have e2 : carI ((p % 18446744073709551616 : Nat) : Int) c 0 = (((p % 18446744073709551616 + c) / 18446744073709551616 : Nat) : Int) := carI_nat (p % 18446744073709551616) c 0
  rw [e1, e2]
  have e3 : sumI (o : Int) (((p % 18446744073709551616 + c) % 18446744073709551616 : Nat) : Int) 0 = (((o + (p % 18446744073709551616 + c) % 18446744073709551616) % 18446744073709551616 : Nat) : Int) := sumI_nat o _ 0
  have e4 : carI (o : Int) (((p % 18446744073709551616 + c) % 18446744073709551616 : Nat) : Int) 0 = (((o + (p % 18446744073709551616 + c) % 18446744073709551616) / 18446744073709551616 : Nat) : Int) := carI_nat o _ 0
  rw [e3, e4]
  refine ⟨(o + (p % 18446744073709551616 + c) % 18446744073709551616) % 18446744073709551616,
    p / 18446744073709551616 + (p % 18446744073709551616 + c) / 18446744073709551616 + (o + (p % 18446744073709551616 + c) % 18446744073709551616) / 18446744073709551616, ?_, ?_, ?_, rfl, ?_, ?_, ?_, ?_, ?_, ?_⟩ <;> omega

/-- A step of the inner loop. -/
theorem mul_inner (o : List Nat) (i m x c v t d : Nat) (wy : List Nat) (hm : m < wy.length) (hi : i + m < o.length)
    (hv : val o + c * bp (i + m) = v + x * val (wy.take m) * bp i) (ht : t + 18446744073709551616 * d = x * wy.getD m 0 + c + o.getD (i + m) 0) :
    val (o.set (i + m) t) + d * bp (i + (m + 1)) = v + x * val (wy.take (m + 1)) * bp i := by
  have h1 := val_set o (i + m) t hi
  rw [val_take_succ wy m hm, Nat.mul_add, Nat.add_mul]
  have e1 : d * bp (i + (m + 1)) = 18446744073709551616 * d * bp (i + m) := by rw [← Nat.add_assoc, bp_succ, ← Nat.mul_assoc, Nat.mul_comm d]
  have e2 : x * (bp m * wy.getD m 0) * bp i = x * wy.getD m 0 * bp (i + m) := by
    rw [bp_add, Nat.mul_comm (bp m), ← Nat.mul_assoc, Nat.mul_assoc, Nat.mul_comm (bp m)]
  rw [e1, e2]
  have e3 : (t + 18446744073709551616 * d) * bp (i + m) = (x * wy.getD m 0 + c + o.getD (i + m) 0) * bp (i + m) := by rw [ht]
  rw [Nat.add_mul, Nat.add_mul, Nat.add_mul] at e3
  omega

theorem val_small (o : List Nat) (m : Nat) (h : val o < bp m) : ∀ j, m ≤ j → o.getD j 0 = 0 := by
  induction o generalizing m with
  | nil => intro j _; simp
  | cons x xs ih =>
    intro j hj
    cases j with
    | zero =>
      have : m = 0 := by omega
      subst this
      rw [val_cons, bp_zero] at h
      simp; omega
    | succ j =>
      rw [List.getD_cons_succ]
      cases m with
      | zero =>
        rw [val_cons, bp_zero] at h
        exact ih 0 (by rw [bp_zero]; omega) j (by omega)
      | succ m =>
        rw [val_cons, bp_succ] at h
        exact ih m (by
          rcases Nat.lt_or_ge (val xs) (bp m) with h' | h'
          · exact h'
          · have := Nat.mul_le_mul_left 18446744073709551616 h'; omega) j (by omega)

/-- The outer loop's round, behind the inner loop: the carry is put in its place. -/
theorem mul_outer (o o' : List Nat) (i ly x y c : Nat) (hl : i + ly < o'.length) (ho : o'.getD (i + ly) 0 = 0)
    (hv : val o' + c * bp (i + ly) = val o + x * y * bp i) : val (o'.set (i + ly) c) = val o + x * bp i * y := by
  have h1 := val_set o' (i + ly) c hl
  rw [ho, Nat.zero_mul, Nat.add_zero, hv] at h1
  rw [h1, Nat.mul_assoc, Nat.mul_comm y, Nat.mul_assoc]
end Go.Proofs.YtfciahfdmnnejaaDoor
