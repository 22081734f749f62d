/-
  The plain arithmetic of shifts, word by word.
-/
import Derived.Test.YtfciahfdmnnejaaDoorL1
namespace Go.Proofs.YtfciahfdmnnejaaDoor

theorem two64 : (2 : Nat) ^ 64 = 18446744073709551616 := rfl
theorem pow_split {r : Nat} (hr : r ≤ 64) : (2 : Nat) ^ r * 2 ^ (64 - r) = 18446744073709551616 := by
  rw [← Nat.pow_add, show r + (64 - r) = 64 by omega]
theorem pow_lt64 {r : Nat} (hr : r < 64) : (2 : Nat) ^ r < 18446744073709551616 := by
  rw [← two64]; exact Nat.pow_lt_pow_right (by omega) hr

/-- A word shifted up: what stays in its place, joined to what lies there, and what goes on to the next. -/
theorem shl_word (x r o : Nat) (hx : x < 18446744073709551616) (hr : r < 64) (ho : o < 2 ^ r) :
    ∃ t h : Nat, t < 18446744073709551616 ∧ h < 2 ^ r ∧ bits .or .u64 (o : Int) (IntKind.u64.wrap ((x : Int) * 2 ^ r)) = (t : Int) ∧ (x : Int) / 2 ^ (64 - r) = (h : Int) ∧ t + 18446744073709551616 * h = o + x * 2 ^ r := by
  have hp := pow_split (r := r) (by omega)
  have hp0 : 0 < 2 ^ r := Nat.two_pow_pos r
  have hq0 : 0 < 2 ^ (64 - r) := Nat.two_pow_pos _
  have hl := pow_lt64 hr
  have e0 : (x : Int) * 2 ^ r = ((x * 2 ^ r : Nat) : Int) := by rw [Int.natCast_mul, Int.natCast_pow]; rfl
  have e1 : x * 2 ^ r % 18446744073709551616 = 2 ^ r * (x % 2 ^ (64 - r)) := by
    rw [← hp, Nat.mul_comm x, Nat.mul_mod_mul_left]
  have hm : x % 2 ^ (64 - r) < 2 ^ (64 - r) := Nat.mod_lt _ hq0
  have hb : 2 ^ r * (x % 2 ^ (64 - r)) + o < 18446744073709551616 := by
    have h1 : x % 2 ^ (64 - r) + 1 ≤ 2 ^ (64 - r) := hm
    have h2 := Nat.mul_le_mul_left (2 ^ r) h1
    rw [hp, Nat.mul_add, Nat.mul_one] at h2
    omega
  refine ⟨2 ^ r * (x % 2 ^ (64 - r)) + o, x / 2 ^ (64 - r), hb, ?_, ?_, ?_, ?_⟩
  · rw [Nat.div_lt_iff_lt_mul hq0, hp]; exact hx
  · rw [e0, Mul64.wrapM, e1, u64_or_nat o _ (by omega) (by omega), Nat.or_comm, ← Nat.two_pow_add_eq_or_of_lt ho]
  · rw [show ((2 : Int) ^ (64 - r)) = ((2 ^ (64 - r) : Nat) : Int) from by rw [Int.natCast_pow]; rfl]; exact (Int.natCast_ediv _ _).symm
  · have e2 := Nat.div_add_mod x (2 ^ (64 - r))
    have e3 : 18446744073709551616 * (x / 2 ^ (64 - r)) = 2 ^ r * (2 ^ (64 - r) * (x / 2 ^ (64 - r))) := by rw [← Nat.mul_assoc, hp]
    rw [e3]
    have e4 : x * 2 ^ r = 2 ^ r * (2 ^ (64 - r) * (x / 2 ^ (64 - r))) + 2 ^ r * (x % 2 ^ (64 - r)) := by rw [← Nat.mul_add, e2, Nat.mul_comm]
    omega

/-- A round of the loop of Shl. -/
theorem shl_round (o wx : List Nat) (k q r t h x : Nat) (hk : k < wx.length) (hl : k + q + 1 < o.length) (hx : x = wx.getD k 0)
    (hz : o.getD (k + q + 1) 0 = 0) (hv : val o = val (wx.take k) * 2 ^ r * bp q) (ht : t + 18446744073709551616 * h = o.getD (k + q) 0 + x * 2 ^ r) :
    val ((o.set (k + q) t).set (k + q + 1) h) = val (wx.take (k + 1)) * 2 ^ r * bp q := by
  have h1 := val_set o (k + q) t (by omega)
  have h2 := val_set (o.set (k + q) t) (k + q + 1) h (by rw [List.length_set]; exact hl)
  have e0 : (o.set (k + q) t).getD (k + q + 1) 0 = 0 := by
    rw [List.getD_eq_getElem?_getD, List.getElem?_set_ne (by omega), ← List.getD_eq_getElem?_getD]; exact hz
  rw [e0, Nat.zero_mul, Nat.add_zero] at h2
  rw [h2, val_take_succ wx k hk, ← hx, Nat.add_mul, Nat.add_mul, ← hv, bp_succ]
  have e1 : (t + 18446744073709551616 * h) * bp (k + q) = (o.getD (k + q) 0 + x * 2 ^ r) * bp (k + q) := by rw [ht]
  rw [Nat.add_mul, Nat.add_mul] at e1
  have e2 : h * (18446744073709551616 * bp (k + q)) = 18446744073709551616 * h * bp (k + q) := by rw [Nat.mul_comm 18446744073709551616 h, Nat.mul_assoc]
  have e3 : bp k * x * 2 ^ r * bp q = x * 2 ^ r * bp (k + q) := by
    rw [bp_add, Nat.mul_assoc, Nat.mul_comm (bp k) x, Nat.mul_assoc, Nat.mul_assoc, Nat.mul_left_comm (bp k)]
  rw [e2, e3]
  omega
end Go.Proofs.YtfciahfdmnnejaaDoor
