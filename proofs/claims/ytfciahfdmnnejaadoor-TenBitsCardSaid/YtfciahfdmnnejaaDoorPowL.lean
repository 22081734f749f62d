/-
  The plain laws on powers of ten: how many bits, how many noughts at the end, how many digits.
-/
import Derived.Test.YtfciahfdmnnejaaDoorGoes
namespace Go.Proofs.YtfciahfdmnnejaaDoor
open Go.RowKit Go.Sort

/-- One power: its bits are what the logarithm says. -/
def tenBitsAt (k : Nat) : Bool := decide (2 ^ (k * 913124641741 / 274877906944) ≤ 10 ^ k) && decide (10 ^ k < 2 ^ (k * 913124641741 / 274877906944 + 1))
def tenBitsTo : Nat → Bool
  | 0 => true
  | n + 1 => tenBitsAt n && tenBitsTo n
theorem tenBitsTo_all : tenBitsTo 1501 = true := by decide +kernel
theorem tenBitsTo_at : ∀ (n k : Nat), tenBitsTo n = true → k < n → tenBitsAt k = true
  | n + 1, k, h, hk => by
    rw [tenBitsTo, Bool.and_eq_true] at h
    rcases Nat.lt_or_ge k n with h1 | h1
    · exact tenBitsTo_at n k h.2 h1
    · obtain rfl : k = n := by omega
      exact h.1
theorem blen_ten_pow {k : Nat} (hk : k ≤ 1500) : (blen (10 ^ k) : Int) = lo2 k + 1 := by
  have h := tenBitsTo_at 1501 k tenBitsTo_all (by omega)
  rw [tenBitsAt, Bool.and_eq_true, decide_eq_true_eq, decide_eq_true_eq] at h
  rw [blen_eq h.1 h.2]
  unfold lo2 cutI
  rw [show min (max (k : Int) (-5000)) 5000 = (k : Int) by omega]
  omega
theorem blen_five_pow (k : Nat) : blen (10 ^ k) = blen (5 ^ k) + k := by
  have h1 := blen_lt (5 ^ k)
  have h0 : 5 ^ k ≠ 0 := by have := Nat.pow_pos (n := k) (show 0 < 5 by omega); omega
  have h2 := blen_ge h0
  obtain ⟨m, hm⟩ : ∃ m, blen (5 ^ k) = m + 1 := ⟨blen (5 ^ k) - 1, by rw [blen_pos h0]; omega⟩
  rw [hm] at h1 h2 ⊢
  rw [show m + 1 - 1 = m by omega] at h2
  have e : (10 : Nat) ^ k = 5 ^ k * 2 ^ k := by rw [← Nat.mul_pow]
  rw [show m + 1 + k = (m + k) + 1 by omega]
  refine blen_eq ?_ ?_
  · rw [e, Nat.pow_add]
    exact Nat.mul_le_mul_right _ h2
  · rw [e, show m + k + 1 = (m + 1) + k by omega, Nat.pow_add]
    exact Nat.mul_lt_mul_of_pos_right h1 (Nat.two_pow_pos k)
theorem five_odd (k : Nat) : 5 ^ k % 2 = 1 := by
  induction k with
  | zero => rfl
  | succ k ih => rw [Nat.pow_succ, Nat.mul_mod, ih]
theorem bit_ten_low {k i : Nat} (h : i < k) : (10 ^ k).testBit i = false := by
  rw [show (10 : Nat) ^ k = 2 ^ k * 5 ^ k by rw [← Nat.mul_pow], Nat.testBit_two_pow_mul]
  simp; omega
theorem bit_ten_at (k : Nat) : (10 ^ k).testBit k = true := by
  rw [show (10 : Nat) ^ k = 2 ^ k * 5 ^ k by rw [← Nat.mul_pow], Nat.testBit_two_pow_mul]
  simp [five_odd]
theorem padL_length {r : Nat} (h : r < 10000000000000000000) : (padL r).length = 19 := by
  have h1 := (decDigits_le h).2
  rw [padL, List.length_append, List.length_replicate]
  rw [Lib.decDigits_length] at h1 ⊢
  omega
theorem textL_ten : ∀ k : Nat, (textL (10 ^ k)).length = k + 1
  | k => by
    by_cases h : k < 19
    · have e : 10 ^ k < 10000000000000000000 := by
        have := Nat.pow_lt_pow_right (show 1 < 10 by omega) h
        exact Nat.lt_of_lt_of_eq this (by decide)
      rw [textL_small e, Lib.decDigits_length]
      exact Lib.nDigits_unique k _ (Nat.le_refl _) (Nat.pow_lt_pow_right (by omega) (by omega))
    · obtain ⟨j, rfl⟩ : ∃ j, k = j + 19 := ⟨k - 19, by omega⟩
      have e : ¬ 10 ^ (j + 19) < 10000000000000000000 := by
        have := Nat.pow_le_pow_right (show 0 < 10 by omega) (show 19 ≤ j + 19 by omega)
        have h2 : (10 : Nat) ^ 19 = 10000000000000000000 := by decide
        omega
      have h2 : (10 : Nat) ^ 19 = 10000000000000000000 := by decide
      rw [textL_big e, List.length_append, padL_length (Nat.mod_lt _ (by omega)), Nat.pow_add, h2, Nat.mul_div_cancel _ (by omega), textL_ten j]
termination_by k => k
end Go.Proofs.YtfciahfdmnnejaaDoor
