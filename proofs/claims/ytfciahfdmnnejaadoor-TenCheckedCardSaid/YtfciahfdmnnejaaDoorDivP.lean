/-
  The plain arithmetic of the division of two words by one.
-/
import Derived.Test.YtfciahfdmnnejaaDoorBits
namespace Go.Proofs.YtfciahfdmnnejaaDoor

/-- The digit that is guessed is not too small; where the test says no, it is right. -/
theorem est_start {Y u v yn1 yn0 : Nat} (hY : Y = yn1 * 4294967296 + yn0) (h1 : 2147483648 ≤ yn1) (h0 : yn0 < 4294967296) (hu : u < Y) (hv : v < 4294967296) :
    (u * 4294967296 + v) / Y ≤ u / yn1 ∧ u / yn1 ≤ 4294967297 ∧ u % yn1 < 4294967296 + yn1 := by
  have hp : 0 < yn1 := by omega
  have hYp : 0 < Y := by omega
  have hm := Nat.mod_lt u hp
  have hd := Nat.div_add_mod u yn1
  refine ⟨?_, ?_, by omega⟩
  · rw [Nat.div_le_iff_le_mul_add_pred hYp]
    have e1 : Y * (u / yn1) = yn1 * (u / yn1) * 4294967296 + yn0 * (u / yn1) := by rw [hY, Nat.add_mul, Nat.mul_assoc, Nat.mul_comm 4294967296, ← Nat.mul_assoc]
    rw [e1]
    omega
  · have h2 : u / yn1 < 4294967298 := by
      rw [Nat.div_lt_iff_lt_mul hp]
      omega
    omega
theorem est_high {Y u v : Nat} (hu : u < Y) (hv : v < 4294967296) : (u * 4294967296 + v) / Y < 4294967296 := by
  rw [Nat.div_lt_iff_lt_mul (by omega)]
  have : (u + 1) * 4294967296 ≤ Y * 4294967296 := Nat.mul_le_mul_right _ hu
  rw [Nat.mul_comm 4294967296]
  omega
/-- The test: q times the low half is above what is left: then q is too large. -/
theorem est_over {Y u v yn1 yn0 q r : Nat} (hY : Y = yn1 * 4294967296 + yn0) (hYp : 0 < Y) (hr : q * yn1 + r = u) (h : 4294967296 * r + v < q * yn0) : (u * 4294967296 + v) / Y ≤ q - 1 := by
  have h0 : 0 < q := by
    rcases Nat.eq_zero_or_pos q with h' | h'
    · subst h'; omega
    · exact h'
  have : (u * 4294967296 + v) / Y < q := by
    rw [Nat.div_lt_iff_lt_mul hYp, hY, ← hr, Nat.mul_add, Nat.add_mul, ← Nat.mul_assoc]
    omega
  omega
theorem est_under {Y u v yn1 yn0 q r : Nat} (hY : Y = yn1 * 4294967296 + yn0) (hYp : 0 < Y) (hr : q * yn1 + r = u) (h : q * yn0 ≤ 4294967296 * r + v) : q ≤ (u * 4294967296 + v) / Y := by
  rw [Nat.le_div_iff_mul_le hYp, hY, ← hr, Nat.mul_add, Nat.add_mul, ← Nat.mul_assoc]
  omega
theorem est_step {yn1 q r u : Nat} (hq : 0 < q) (hr : q * yn1 + r = u) : (q - 1) * yn1 + (r + yn1) = u := by
  obtain ⟨k, rfl⟩ : ∃ k, q = k + 1 := ⟨q - 1, by omega⟩
  rw [Nat.add_mul] at hr
  simp only [Nat.add_sub_cancel]
  omega
/-- The digits of the two halves are the digit of the whole. -/
theorem div_two (N Y : Nat) (hY : 0 < Y) (u v w : Nat) (hN : N = (u * 4294967296 + v) * 4294967296 + w) :
    N / Y = (u * 4294967296 + v) / Y * 4294967296 + ((u * 4294967296 + v) % Y * 4294967296 + w) / Y ∧ N % Y = ((u * 4294967296 + v) % Y * 4294967296 + w) % Y := by
  have hd := Nat.div_add_mod (u * 4294967296 + v) Y
  have e : N = ((u * 4294967296 + v) % Y * 4294967296 + w) + Y * ((u * 4294967296 + v) / Y * 4294967296) := by
    rw [hN]
    generalize (u * 4294967296 + v) / Y = Q at *
    generalize (u * 4294967296 + v) % Y = R at *
    rw [← hd, Nat.add_mul, Nat.mul_assoc]
    omega
  constructor
  · rw [e, Nat.add_mul_div_left _ _ hY]; omega
  · rw [e, Nat.add_mul_mod_self_left]

/-- The shift that puts the highest bit at its place. -/
theorem norm_shift {y : Nat} (h0 : y ≠ 0) (hy : y < 18446744073709551616) : blen y ≤ 64 ∧ y * 2 ^ (64 - blen y) < 18446744073709551616 ∧ 9223372036854775808 ≤ y * 2 ^ (64 - blen y) := by
  have h1 := blen_le64 hy
  have h2 := blen_lt y
  have h3 := blen_ge h0
  have h4 : 0 < blen y := by rw [blen_pos h0]; omega
  have hp := Nat.two_pow_pos (64 - blen y)
  refine ⟨h1, ?_, ?_⟩
  · have : y * 2 ^ (64 - blen y) < 2 ^ blen y * 2 ^ (64 - blen y) := Nat.mul_lt_mul_of_pos_right h2 hp
    rwa [← Nat.pow_add, show blen y + (64 - blen y) = 64 by omega, two64] at this
  · have : 2 ^ (blen y - 1) * 2 ^ (64 - blen y) ≤ y * 2 ^ (64 - blen y) := Nat.mul_le_mul_right _ h3
    rwa [← Nat.pow_add, show blen y - 1 + (64 - blen y) = 63 by omega] at this
end Go.Proofs.YtfciahfdmnnejaaDoor
namespace Go.Proofs.YtfciahfdmnnejaaDoor
theorem est_break {k yn0 r v : Nat} (hk : k ≤ 4294967296) (h0 : yn0 < 4294967296) (hr : 4294967296 ≤ r) : k * yn0 ≤ 4294967296 * r + v := by
  have h1 := Nat.mul_le_mul hk (Nat.le_of_lt h0)
  omega
theorem prod32 {q yn0 : Nat} (hq : q < 4294967296) (h0 : yn0 < 4294967296) : q * yn0 ≤ 18446744065119617025 := by
  have h1 : q * yn0 ≤ 4294967295 * 4294967295 := Nat.mul_le_mul (by omega) (by omega)
  omega
end Go.Proofs.YtfciahfdmnnejaaDoor
