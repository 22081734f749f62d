/-
  The walk of ten.Significand for every power from -400 to 400.
-/
import Derived.Test.YtfciahfdmnnejaaDoorDivM
import Derived.Test.YtfciahfdmnnejaaDoorSig
namespace Go.Proofs.YtfciahfdmnnejaaDoor
open Go.RowKit

/-- nat.Div by whatever number but 0. -/
theorem div_any (va vb : Value) (x y : Nat) (w : World) (ha : Num w va x) (hb : Num w vb y) (hs : lw x ≤ 1000000) (hy : y ≠ 0) :
    Calls Tryd.prog 42 #[va, vb] w fun e w' => ∃ vq vr, e = .returned (.tuple #[vq, vr, .bool true]) ∧ Num w' vq (x / y) ∧ Num w' vr (x % y) ∧ Below w.heap.size w w' := by
  rcases Nat.lt_or_ge x y with h | h
  · refine (div_less va vb x y w ha hb (by omega) h).mono ?_
    rintro e w' ⟨v, rfl, h1, h2⟩
    exact ⟨_, v, rfl, by rw [Nat.div_eq_of_lt h]; exact num_nil _, by rw [Nat.mod_eq_of_lt h]; exact h1, h2⟩
  · have h0 := lw_pos hy
    by_cases h1 : lw y = 1
    · exact div_word va vb x y w ha hb (by omega) h h1
    · exact div_many va vb x y w ha hb hs h (by omega)

theorem up_two {x n : Nat} (hn : n = blen x) (hx : x ≠ 0) (hb : 128 ≤ n) : lw (x / 2 ^ (n - 128)) = 2 := by
  have h1 := blen_ge hx
  have h2 := blen_lt x
  rw [← hn] at h1 h2
  refine lw_two ?_ ?_
  · rw [Nat.le_div_iff_mul_le (Nat.two_pow_pos _), ← Nat.pow_add, show 127 + (n - 128) = n - 1 by omega]
    exact h1
  · rw [Nat.div_lt_iff_lt_mul (Nat.two_pow_pos _), ← Nat.pow_add, show 128 + (n - 128) = n by omega]
    exact h2
set_option maxHeartbeats 1600000 in
set_option maxRecDepth 100000 in
/-- ten.Significand where the power has more than 128 bits. -/
theorem sig_long (k : Nat) (w : World) (hk : k ≤ 400) (hb : 128 < blen (10 ^ k)) :
    Calls Tryd.prog 22 #[.int .i64 k] w fun e w' => e = .returned (.tuple #[U (10 ^ k / 2 ^ (blen (10 ^ k) - 128) / 18446744073709551616), U (10 ^ k / 2 ^ (blen (10 ^ k) - 128) % 18446744073709551616), .int .i64 ((blen (10 ^ k) : Int) - 128)]) ∧ Below w.heap.size w w' := by
  have e1 : (cutI (max (k : Int) (-(k : Int)))).toNat = k := by rw [show max (k : Int) (-(k : Int)) = k by omega]; exact cutI_nat (by omega)
  have hl : lw (10 ^ k) ≤ k + 1 := lw_pow (by omega) (by omega)
  obtain ⟨x, hx⟩ : ∃ x, x = 10 ^ k := ⟨_, rfl⟩
  rw [← hx] at hb hl ⊢
  have hx0 : x ≠ 0 := by rw [hx]; exact Nat.ne_of_gt (Nat.pow_pos (by omega))
  obtain ⟨n, hn⟩ : ∃ n, n = blen x := ⟨_, rfl⟩
  have hnl := blen_le_lw x
  have hwd := blen_words hx0
  rw [← hn] at hb hnl hwd ⊢
  have h2 := up_two hn hx0 (by omega)
  obtain ⟨s, hs⟩ : ∃ s, s = n - 128 := ⟨_, rfl⟩
  have es : (n : Int) - 128 = (s : Int) := by omega
  have hs1 : 1 ≤ s := by omega
  have hs2 : s ≤ 131072 := by omega
  have hs3 : s / 64 < lw x := by omega
  have t1 : decide ((k : Int) < 0) = false := by simp
  rw [← hs] at h2 ⊢
  rw [es]
  have H2 := Lib.hid h2
  have Hn := Lib.hid hn
  have Hx := Lib.hid hx
  have E1 := Lib.hid e1
  clear hx hn h2 e1 hs hwd
  go_enter Tryd.func22, Tryd.ntmps22
  go_wp2_with fail
  refine (pow10_any _ _).mono ?_
  rintro e w1 ⟨v1, rfl, g1, g2⟩
  rw [E1.out, ← Hx.out] at g1
  go_wp2_with fail
  refine (bits_any _ x _ g1 (by omega)).mono ?_
  rintro e w' ⟨rfl, rfl⟩
  rw [← Hn.out]
  go_wp2_with fail
  refine (shr_any _ x _ _ g1 (by omega) hs2 hs3).mono ?_
  rintro e w2 ⟨v2, rfl, g3, g4⟩
  obtain ⟨b, off, c, rfl, c1, c0⟩ := num_two g3 H2.out
  have hbe := g2.trans (g4.mono g2.size)
  go_wp2_with fail
  go_quiet (fail)
  go_wp2_with fail
  go_ret3
  exact ⟨rfl, below_drewN hbe _⟩

/-- The two words that Significand tells, as one number; the power of 2 behind them. -/
def sigS (k : Int) : Nat :=
  if k < 0 then 2 ^ (blen (10 ^ k.natAbs) + 127) / 10 ^ k.natAbs
  else if blen (10 ^ k.natAbs) ≤ 128 then 10 ^ k.natAbs * 2 ^ (128 - blen (10 ^ k.natAbs))
  else 10 ^ k.natAbs / 2 ^ (blen (10 ^ k.natAbs) - 128)
def sigE (k : Int) : Int := if k < 0 then -((blen (10 ^ k.natAbs) : Int) + 127) else (blen (10 ^ k.natAbs) : Int) - 128
theorem sigS_neg {k : Int} (h : k < 0) : sigS k = 2 ^ (blen (10 ^ k.natAbs) + 127) / 10 ^ k.natAbs := if_pos h
theorem sigE_neg {k : Int} (h : k < 0) : sigE k = -((blen (10 ^ k.natAbs) : Int) + 127) := if_pos h
theorem sigS_up {n : Nat} (h : blen (10 ^ n) ≤ 128) : sigS n = 10 ^ n * 2 ^ (128 - blen (10 ^ n)) := by
  unfold sigS
  rw [if_neg (by omega), Int.natAbs_natCast, if_pos h]
theorem sigS_long {n : Nat} (h : 128 < blen (10 ^ n)) : sigS n = 10 ^ n / 2 ^ (blen (10 ^ n) - 128) := by
  unfold sigS
  rw [if_neg (by omega), Int.natAbs_natCast, if_neg (by omega)]
theorem sigE_pos (n : Nat) : sigE n = (blen (10 ^ n) : Int) - 128 := by
  unfold sigE
  rw [if_neg (by omega), Int.natAbs_natCast]
/-- ten.Significand. -/
theorem sig_any (k : Int) (w : World) (h1 : -400 ≤ k) (h2 : k ≤ 400) :
    Calls Tryd.prog 22 #[.int .i64 k] w fun e w' => e = .returned (.tuple #[U (sigS k / 18446744073709551616), U (sigS k % 18446744073709551616), .int .i64 (sigE k)]) ∧ Below w.heap.size w w' := by
  rcases Int.lt_or_le k 0 with h | h
  · have hp : 10 ^ k.natAbs ≠ 0 := Nat.ne_of_gt (Nat.pow_pos (by omega))
    have hl : lw (2 ^ (blen (10 ^ k.natAbs) + 127)) ≤ 1000000 := by
      have h3 := blen_le_lw (10 ^ k.natAbs)
      have h4 : lw (10 ^ k.natAbs) ≤ k.natAbs + 1 := lw_pow (by omega) (by omega)
      obtain ⟨M, hM⟩ : ∃ M, M = 1000000 := ⟨_, rfl⟩
      rw [← hM]
      refine lw_le ?_
      rw [bp_two]
      exact Nat.pow_lt_pow_right (by omega) (by omega)
    have h5 := sig_down k k.natAbs w (by omega) (by omega) (by omega) (fun W va vb ha hb => div_any va vb _ _ W ha hb hl hp)
    rw [sigS_neg h, sigE_neg h]
    rw [show -((blen (10 ^ k.natAbs) : Int) + 128 - 1) = -((blen (10 ^ k.natAbs) : Int) + 127) by omega] at h5
    exact h5
  · obtain ⟨n, rfl⟩ := Int.eq_ofNat_of_zero_le h
    rw [sigE_pos]
    by_cases hb : blen (10 ^ n) ≤ 128
    · rw [sigS_up hb]; exact sig_up n w (by omega) hb
    · rw [sigS_long (by omega)]; exact sig_long n w (by omega) (by omega)
end Go.Proofs.YtfciahfdmnnejaaDoor
