/-
  The walks of ten.Significand: the powers from 0 to 38, the power -1, and those beyond the reach.
-/
import Derived.Test.YtfciahfdmnnejaaDoorDiv1
import Derived.Deep.DeepCutAuto
namespace Go.Proofs.YtfciahfdmnnejaaDoor
open Go.RowKit

/-- A number of two words, in memory. -/
theorem num_two {w : World} {v : Value} {x : Nat} (h : Num w v x) (hx : lw x = 2) : ∃ b off c, v = .slice (some ⟨b, off, none⟩) 2 c ∧ w.cell? ⟨b, off + 1, none⟩ = some (U (x / 18446744073709551616)) ∧ w.cell? ⟨b, off, none⟩ = some (U (x % 18446744073709551616)) := by
  obtain ⟨A, c, rfl, hc, hm, hr⟩ := h
  obtain ⟨b, off, rfl, hb, hcell⟩ := hr.at_ (k := 0) (by rw [wds_length]; omega)
  have h0 := hcell 0 (by rw [wds_length]; omega)
  have h1 := hcell 1 (by rw [wds_length]; omega)
  have hl := lw_lt x
  rw [hx] at hl
  have e1 : (wds x).getD 1 0 = x / 18446744073709551616 := by
    rw [wds_at]
    have : bp 1 = 18446744073709551616 := rfl
    rw [this]
    have hb2 : bp 2 = 18446744073709551616 * 18446744073709551616 := rfl
    rw [hb2] at hl
    exact Nat.mod_eq_of_lt (Nat.div_lt_of_lt_mul hl)
  have e0 : (wds x).getD 0 0 = x % 18446744073709551616 := by rw [wds_at, bp_zero, Nat.div_one]
  rw [e1] at h1
  rw [e0] at h0
  rw [hx]
  exact ⟨b, off, c, rfl, h1, by simpa using h0⟩

theorem lw_two {x : Nat} (h1 : 2 ^ 127 ≤ x) (h2 : x < 2 ^ 128) : lw x = 2 := by
  have h3 : lw x ≤ 2 := lw_le (by rw [bp_two]; exact h2)
  have h4 : ¬ lw x ≤ 1 := fun h => by
    have := lw_lt x
    have := bp_mono h
    have e : bp 1 = 2 ^ 64 := rfl
    rw [e] at this
    have : (2 : Nat) ^ 64 ≤ 2 ^ 127 := Nat.pow_le_pow_right (by omega) (by omega)
    omega
  omega

theorem cutI_nat {n : Nat} (h : n ≤ 5000) : (cutI n).toNat = n := by unfold cutI; omega
theorem lw_pow {b N : Nat} (h1 : 1 ≤ b) (h2 : b < 18446744073709551616) : lw (b ^ N) ≤ N + 1 := lw_le (pow_lt_bp h1 h2)

set_option maxHeartbeats 1600000 in
set_option maxRecDepth 100000 in
/-- ten.Significand beyond the reach. -/
theorem sig_far (k : Int) (w : World) (h : k < -400 ∨ 400 < k) : Calls Tryd.prog 22 #[.int .i64 k] w fun e w' => e = .returned (.tuple #[.int .u64 0, .int .u64 0, .int .i64 0]) ∧ w = w' := by
  rcases h with h | h
  · go_enter Tryd.func22, Tryd.ntmps22
    go_wp2
    go_ret3
    exact ⟨rfl, rfl⟩
  · have h' : ¬ k < -400 := by omega
    go_enter Tryd.func22, Tryd.ntmps22
    go_wp2
    go_ret3
    exact ⟨rfl, rfl⟩

set_option maxHeartbeats 1600000 in
set_option maxRecDepth 100000 in
/-- ten.Significand where the power has at most 128 bits. -/
theorem sig_up (k : Nat) (w : World) (hk : k ≤ 400) (hb : blen (10 ^ k) ≤ 128) :
    Calls Tryd.prog 22 #[.int .i64 k] w fun e w' => e = .returned (.tuple #[U (10 ^ k * 2 ^ (128 - blen (10 ^ k)) / 18446744073709551616), U (10 ^ k * 2 ^ (128 - blen (10 ^ k)) % 18446744073709551616), .int .i64 ((blen (10 ^ k) : Int) - 128)]) ∧ Below w.heap.size w w' := by
  have e1 : (cutI (max (k : Int) (-(k : Int)))).toNat = k := by rw [show max (k : Int) (-(k : Int)) = k by omega]; exact cutI_nat (by omega)
  have hl : lw (10 ^ k) ≤ k + 1 := lw_pow (by omega) (by omega)
  obtain ⟨x, hx⟩ : ∃ x, x = 10 ^ k := ⟨_, rfl⟩
  rw [← hx] at hb hl ⊢
  have hx0 : x ≠ 0 := by rw [hx]; exact Nat.ne_of_gt (Nat.pow_pos (by omega))
  obtain ⟨n, hn⟩ : ∃ n, n = blen x := ⟨_, rfl⟩
  have hs : shN (-((n : Int) - 128)) = 128 - n := by unfold shN; omega
  have hn1 := blen_ge hx0
  have hn2 := blen_lt x
  have hn0 : 0 < blen x := by rw [blen_pos hx0]; omega
  rw [← hn] at hb hn1 hn2 hn0 ⊢
  have h2 : lw (x * 2 ^ (128 - n)) = 2 := lw_two (by
    have : 2 ^ (n - 1) * 2 ^ (128 - n) ≤ x * 2 ^ (128 - n) := Nat.mul_le_mul_right _ hn1
    rwa [← Nat.pow_add, show n - 1 + (128 - n) = 127 by omega] at this) (by
    have : x * 2 ^ (128 - n) < 2 ^ n * 2 ^ (128 - n) := Nat.mul_lt_mul_of_pos_right hn2 (Nat.two_pow_pos _)
    rwa [← Nat.pow_add, show n + (128 - n) = 128 by omega] at this)
  have H2 := Lib.hid h2
  have Hs := Lib.hid hs
  have Hn := Lib.hid hn
  have Hx := Lib.hid hx
  have E1 := Lib.hid e1
  clear hx hn hs h2 e1 hn1 hn2
  go_enter Tryd.func22, Tryd.ntmps22
  go_wp2_with fail
  refine (pow10_any _ _).mono ?_
  rintro e w1 ⟨v1, rfl, g1, g2⟩
  rw [E1.out, ← Hx.out] at g1
  go_wp2_with fail
  refine (bits_any _ x _ g1 (by omega)).mono ?_
  rintro e w' ⟨rfl, rfl⟩
  rw [← Hn.out]
  go_wp2_with fail
  refine (shl_any _ x _ _ g1 (by omega)).mono ?_
  rintro e w2 ⟨v2, rfl, g3, g4⟩
  rw [Hs.out] at g3
  obtain ⟨b, off, c, rfl, c1, c0⟩ := num_two g3 H2.out
  have hbe := g2.trans (g4.mono g2.size)
  go_wp2_with fail
  go_quiet (fail)
  go_wp2_with fail
  go_ret3
  exact ⟨rfl, below_drewN hbe _⟩
theorem blen_le_lw (x : Nat) : blen x ≤ 64 * lw x := by
  by_cases h : x = 0
  · subst h; rw [blen_zero]; omega
  · have h1 := blen_words h
    have h2 := blen_le64 (wds_get x (lw x - 1))
    have h3 := lw_pos h
    omega
theorem two_mod5 (m : Nat) : 2 ^ m % 5 ≠ 0 := by
  induction m with
  | zero => decide
  | succ m ih => rw [Nat.pow_succ]; omega
theorem ten_not_two {k m : Nat} (hk : 1 ≤ k) : 10 ^ k ≠ 2 ^ m := fun h => by
  obtain ⟨j, rfl⟩ : ∃ j, k = j + 1 := ⟨k - 1, by omega⟩
  have h1 := two_mod5 m
  rw [← h, Nat.pow_succ] at h1
  omega

/-- The two words of a negative power of ten. -/
theorem down_two {x n : Nat} (hn : n = blen x) (hx : x ≠ 0) (hne : x ≠ 2 ^ (n - 1)) : lw (2 ^ (n + 127) / x) = 2 := by
  have h1 := blen_ge hx
  have h2 := blen_lt x
  rw [← hn] at h1 h2
  have h0 : 0 < n := by rw [hn, blen_pos hx]; omega
  have hp : 0 < x := by omega
  refine lw_two ?_ ?_
  · rw [Nat.le_div_iff_mul_le hp]
    have : 2 ^ 127 * x ≤ 2 ^ 127 * 2 ^ n := Nat.mul_le_mul_left _ (Nat.le_of_lt h2)
    rwa [← Nat.pow_add, show 127 + n = n + 127 by omega] at this
  · rw [Nat.div_lt_iff_lt_mul hp]
    have : 2 ^ 128 * 2 ^ (n - 1) < 2 ^ 128 * x := Nat.mul_lt_mul_of_pos_left (by omega) (Nat.two_pow_pos _)
    rwa [← Nat.pow_add, show 128 + (n - 1) = n + 127 by omega] at this

set_option maxHeartbeats 1600000 in
set_option maxRecDepth 100000 in
/-- ten.Significand of a negative power. -/
theorem sig_down (j : Int) (k : Nat) (w : World) (hj : j = -(k : Int)) (hk1 : 1 ≤ k) (hk : k ≤ 400)
    (hdiv : ∀ (w : World) (va vb : Value), Num w va (2 ^ (blen (10 ^ k) + 127)) → Num w vb (10 ^ k) →
      Calls Tryd.prog 42 #[va, vb] w fun e w' => ∃ vq vr, e = .returned (.tuple #[vq, vr, .bool true]) ∧ Num w' vq (2 ^ (blen (10 ^ k) + 127) / 10 ^ k) ∧ Num w' vr (2 ^ (blen (10 ^ k) + 127) % 10 ^ k) ∧ Below w.heap.size w w') :
    Calls Tryd.prog 22 #[.int .i64 j] w fun e w' => e = .returned (.tuple #[U (2 ^ (blen (10 ^ k) + 127) / 10 ^ k / 18446744073709551616), U (2 ^ (blen (10 ^ k) + 127) / 10 ^ k % 18446744073709551616), .int .i64 (-((blen (10 ^ k) : Int) + 128 - 1))]) ∧ Below w.heap.size w w' := by
  have e1 : (cutI (max j (-j))).toNat = k := by rw [show max j (-j) = k by omega]; exact cutI_nat (by omega)
  have j1 : j < 0 := by omega
  have j2 : -400 ≤ j := by omega
  have t1 : decide (j < -400) = false := by simp; omega
  have t2 : decide (400 < j) = false := by simp; omega
  have t3 : decide (j < 0) = true := by simp; omega
  clear hj
  have hl : lw (10 ^ k) ≤ k + 1 := lw_pow (by omega) (by omega)
  have hne := fun m => ten_not_two (m := m) hk1
  obtain ⟨x, hx⟩ : ∃ x, x = 10 ^ k := ⟨_, rfl⟩
  rw [← hx] at hl hdiv ⊢
  have hx0 : x ≠ 0 := by rw [hx]; exact Nat.ne_of_gt (Nat.pow_pos (by omega))
  obtain ⟨n, hn⟩ : ∃ n, n = blen x := ⟨_, rfl⟩
  have h2 := down_two hn hx0 (by rw [hx]; exact hne _)
  have hnb : n ≤ 64 * 401 := by
    have := blen_le_lw x
    omega
  have hs : shN ((n : Int) + 128 - 1) = n + 127 := by unfold shN; omega
  rw [← hn] at hdiv ⊢
  obtain ⟨S, hS⟩ : ∃ S, S = 2 ^ (n + 127) / x := ⟨_, rfl⟩
  rw [← hS] at h2 hdiv ⊢
  clear hS
  have H2 := Lib.hid h2
  have Hs := Lib.hid hs
  have Hn := Lib.hid hn
  have Hx := Lib.hid hx
  have E1 := Lib.hid e1
  have Hdiv := Lib.hid hdiv
  clear hx hn hs h2 e1 hdiv hne hx0
  go_enter Tryd.func22, Tryd.ntmps22
  go_wp2_with fail
  refine (pow10_any _ _).mono ?_
  rintro e w1 ⟨v1, rfl, g1, g2⟩
  rw [E1.out, ← Hx.out] at g1
  go_wp2_with fail
  refine (bits_any _ x _ g1 (by omega)).mono ?_
  rintro e w' ⟨rfl, rfl⟩
  rw [← Hn.out]
  go_wp2_with fail
  refine (of_one _).mono ?_
  rintro e w2 ⟨v2, rfl, g3, g4⟩
  replace g1 := g1.below g4
  have g5 := g2.trans (g4.mono g2.size)
  clear g2 g4
  go_wp2_with fail
  refine (shl_any _ 1 _ _ g3 (by rw [lw_word (by omega) (by omega)]; omega)).mono ?_
  rintro e w3 ⟨v3, rfl, g6, g7⟩
  rw [Hs.out, Nat.one_mul] at g6
  replace g1 := g1.below g7
  have g8 := g5.trans (g7.mono g5.size)
  clear g3 g5 g7
  have G6 := Lib.hid g6
  clear g6
  go_wp2_with fail
  refine (Hdiv.out _ _ _ G6.out g1).mono ?_
  rintro e w4 ⟨v4, v5, rfl, k1, k2, k3⟩
  obtain ⟨b, off, c, rfl, c1, c0⟩ := num_two k1 H2.out
  have hbe := g8.trans (k3.mono g8.size)
  clear g8 k3 k2 G6
  go_wp2_with fail
  go_quiet (fail)
  go_wp2_with fail
  go_ret3
  exact ⟨rfl, below_drewN hbe _⟩
end Go.Proofs.YtfciahfdmnnejaaDoor
