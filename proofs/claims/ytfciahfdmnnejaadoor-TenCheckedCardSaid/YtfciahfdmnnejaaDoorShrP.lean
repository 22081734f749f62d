/-
  The plain arithmetic of a shift down, word by word.
-/
import Derived.Test.YtfciahfdmnnejaaDoorShlP
namespace Go.Proofs.YtfciahfdmnnejaaDoor

/-- A word of what is left of a number that is shifted down by some bits: out of two neighbours. -/
theorem shr_split (z r : Nat) (hr : r ≤ 64) : z / 2 ^ r % 18446744073709551616 = (z % 18446744073709551616 / 2 ^ r + (z / 18446744073709551616 % 18446744073709551616) * 2 ^ (64 - r)) % 18446744073709551616 := by
  have hp := pow_split hr
  have hp0 : 0 < 2 ^ r := Nat.two_pow_pos r
  obtain ⟨a, ha⟩ : ∃ a, a = z % 18446744073709551616 := ⟨_, rfl⟩
  obtain ⟨z1, hz1⟩ : ∃ z1, z1 = z / 18446744073709551616 := ⟨_, rfl⟩
  obtain ⟨y, hy⟩ : ∃ y, y = z1 % 18446744073709551616 := ⟨_, rfl⟩
  obtain ⟨z2, hz2⟩ : ∃ z2, z2 = z1 / 18446744073709551616 := ⟨_, rfl⟩
  have e1 : z = a + 2 ^ r * (2 ^ (64 - r) * z1) := by rw [← Nat.mul_assoc, hp]; omega
  have e2 : z / 2 ^ r = a / 2 ^ r + 2 ^ (64 - r) * z1 := by
    rw [e1]
    exact Nat.add_mul_div_left a (2 ^ (64 - r) * z1) hp0
  have e3 : z1 = y + 18446744073709551616 * z2 := by omega
  rw [← ha, ← hz1, ← hy, e2, e3, Nat.mul_add, ← Nat.add_assoc, Nat.mul_comm (2 ^ (64 - r)) y]
  rw [show 2 ^ (64 - r) * (18446744073709551616 * z2) = 18446744073709551616 * (2 ^ (64 - r) * z2) from Nat.mul_left_comm ..]
  exact Nat.add_mul_mod_self_left ..
/-- The two parts joined are their sum. -/
theorem shr_word (x y r : Nat) (hx : x < 18446744073709551616) (hy : y < 18446744073709551616) (hr0 : 0 < r) (hr : r < 64) :
    ∃ t : Nat, t < 18446744073709551616 ∧ bits .or .u64 ((x / 2 ^ r : Nat) : Int) (IntKind.u64.wrap ((y : Int) * 2 ^ (64 - r))) = (t : Int) ∧ t = (x / 2 ^ r + y * 2 ^ (64 - r)) % 18446744073709551616 := by
  have hp := pow_split (r := r) (by omega)
  have ho : x / 2 ^ r < 2 ^ (64 - r) := by
    rw [Nat.div_lt_iff_lt_mul (Nat.two_pow_pos r), Nat.mul_comm, hp]
    exact hx
  obtain ⟨t, h, h1, _, h3, _, h5⟩ := shl_word y (64 - r) (x / 2 ^ r) hy (by omega) ho
  exact ⟨t, h1, h3, by omega⟩
theorem shr_at {x n q r i K a b t : Nat} (hn : n = 64 * q + r) (hK : K = i + q) (hr : r < 64) (ha : a = (wds x).getD K 0) (hb : b = (wds x).getD (K + 1) 0) (ht : t = (a / 2 ^ r + b * 2 ^ (64 - r)) % 18446744073709551616) :
    t = x / 2 ^ n / bp i % 18446744073709551616 := by
  have e1 : x / 2 ^ n / bp i = x / bp K / 2 ^ r := by
    rw [Nat.div_div_eq_div_mul, Nat.div_div_eq_div_mul]
    congr 1
    rw [hn, hK, bp_two, bp_two, ← Nat.pow_add, ← Nat.pow_add]
    congr 1
    omega
  have e2 : x / bp (K + 1) = x / bp K / 18446744073709551616 := by rw [bp_succ, Nat.mul_comm, ← Nat.div_div_eq_div_mul]
  rw [e1, shr_split _ r (by omega), ht, ha, hb, wds_at, wds_at, e2]
/-- Words that are a number's words, one by one, are worth it. -/
theorem val_words {o : List Nat} {X m : Nat} (hl : o.length = m) (h : ∀ j, j < m → o.getD j 0 = X / bp j % 18446744073709551616) : ∀ j, j ≤ m → val (o.take j) = X % bp j
  | 0, _ => by rw [List.take_zero, val_nil, bp_zero, Nat.mod_one]
  | j + 1, hj => by
    rw [val_take_succ o j (by omega), val_words hl h j (by omega), h j (by omega), bp_succ, Nat.mul_comm 18446744073709551616, Nat.mod_mul]
theorem shr_end {o : List Nat} {x n q r m : Nat} (hn : n = 64 * q + r) (hm : m + q = lw x) (hl : o.length = m) (h : ∀ j, j < m → o.getD j 0 = x / 2 ^ n / bp j % 18446744073709551616) : val o = x / 2 ^ n := by
  have h1 := val_words hl h m (Nat.le_refl _)
  rw [List.take_of_length_le (by omega)] at h1
  rw [h1]
  refine Nat.mod_eq_of_lt ?_
  rw [Nat.div_lt_iff_lt_mul (Nat.two_pow_pos n)]
  refine Nat.lt_of_lt_of_le (lw_lt x) ?_
  rw [← hm, bp_add]
  refine Nat.mul_le_mul_left _ ?_
  rw [bp_two]
  exact Nat.pow_le_pow_right (by omega) (by omega)
end Go.Proofs.YtfciahfdmnnejaaDoor
