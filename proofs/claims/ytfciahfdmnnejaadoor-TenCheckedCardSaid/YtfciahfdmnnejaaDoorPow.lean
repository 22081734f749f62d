/-
  The walks of nat.Pow, ten.Pow10, ten.Pow5.
-/
import Derived.Test.YtfciahfdmnnejaaDoorShl
namespace Go.Proofs.YtfciahfdmnnejaaDoor
open Go.RowKit

/-- Which power. -/
def powN (n : Int) : Nat := (min (max n 0) 10000).toNat
theorem powN_le (n : Int) : powN n ≤ 10000 := by unfold powN; omega

theorem pow_lt_bp {b N : Nat} (hb1 : 1 ≤ b) (hb : b < 18446744073709551616) : b ^ N < bp (N + 1) := by
  have h1 : b ^ (N + 1) < bp (N + 1) := Nat.pow_lt_pow_left hb (by omega)
  have h2 : b ^ N ≤ b ^ (N + 1) := Nat.pow_le_pow_right hb1 (by omega)
  omega
theorem pow_sizes {b N xo xs m : Nat} (hb1 : 1 ≤ b) (hb : b < 18446744073709551616) (ho : 1 ≤ xo) (hs : 1 ≤ xs) (h : xo * xs ^ m = b ^ N) (hm : 1 ≤ m) : lw xo ≤ N + 1 ∧ lw xs ≤ N + 1 := by
  have hp := pow_lt_bp (N := N) hb1 hb
  have h1 : xs ≤ xs ^ m := by
    have := Nat.pow_le_pow_right hs hm
    rwa [Nat.pow_one] at this
  have h0 : 1 ≤ xs ^ m := Nat.pow_pos hs
  have h2 : xo ≤ xo * xs ^ m := Nat.le_mul_of_pos_right _ h0
  have h3 : xs ^ m ≤ xo * xs ^ m := Nat.le_mul_of_pos_left _ ho
  exact ⟨lw_le (by omega), lw_le (by omega)⟩
/-- A round of the loop of Pow. -/
theorem pow_odd {b N xo xs m : Nat} (h : xo * xs ^ (2 * m + 1) = b ^ N) : xo * xs * (xs * xs) ^ m = b ^ N := by
  rw [← h, Nat.pow_succ, Nat.pow_mul, Nat.pow_two, Nat.mul_assoc, Nat.mul_comm xs]
theorem pow_even {b N xo xs m : Nat} (h : xo * xs ^ (2 * m) = b ^ N) : xo * (xs * xs) ^ m = b ^ N := by
  rw [← h, Nat.pow_mul, Nat.pow_two]

theorem of_one (w : World) : Calls Tryd.prog 43 #[.int .u64 1] w fun e w' => ∃ v, e = .returned v ∧ Num w' v 1 ∧ Below w.heap.size w w' := of_any 1 w (by omega)

set_option maxHeartbeats 1600000 in
set_option maxRecDepth 100000 in
theorem pow_any (b : Nat) (n : Int) (w : World) (hb1 : 1 ≤ b) (hb : b < 18446744073709551616) :
    Calls Tryd.prog 27 #[.int .u64 b, .int .i64 n] w fun e w' => ∃ v, e = .returned v ∧ Num w' v (b ^ powN n) ∧ Below w.heap.size w w' := by
  go_enter Tryd.func27, Tryd.ntmps27
  go_wp2_with fail
  refine (of_one _).mono ?_
  rintro e w1 ⟨vo, rfl, ho, hbe1⟩
  go_wp2_with fail
  refine (of_any b _ hb).mono ?_
  rintro e w2 ⟨vs, rfl, hs, hbe2⟩
  have hbe : Below w.heap.size w w2 := hbe1.trans (hbe2.mono hbe1.size)
  replace ho := ho.below hbe2
  clear hbe1 hbe2
  go_upto_region 2 with (fail)
  go_cut [1] (fun s wx => s = .int .i64 (powN n) ∧ wx = w2)
  case first =>
    go_wp2_with fail
    all_goals
      go_meet
      exact ⟨congrArg (Value.int .i64) (by unfold powN; omega), rfl⟩
  case rest =>
    obtain ⟨rfl, rfl⟩ := hcut
    have hN := powN_le n
    obtain ⟨N, hN'⟩ : ∃ N, N = powN n := ⟨_, rfl⟩
    rw [← hN'] at hN ⊢
    have HN := Lib.hid hN'
    clear hN'
    go_wp2_with fail
    go_loopw [1, 5, 6] (fun n vo vs wr => ∃ m xo xs : Nat, m ≤ N ∧ n = .int .i64 m ∧ Num wr vo xo ∧ Num wr vs xs ∧ 1 ≤ xo ∧ 1 ≤ xs ∧ Hid (xo * xs ^ m = b ^ N) ∧ Below w.heap.size w wr) (fun n _ _ _ => (intOf n).toNat)
    case atStart => exact ⟨N, 1, b, Nat.le_refl _, rfl, ho, hs, Nat.le_refl _, hb1, Lib.hid (Nat.one_mul _), hbe⟩
    case round =>
      rename_i vo' vs' wr
      obtain ⟨m, xo, xs, hm, rfl, h1, h2, h3, h4, h5, h6⟩ := hrel
      by_cases h0 : m = 0
      · subst h0
        have e := h5.out
        rw [Nat.pow_zero, Nat.mul_one] at e
        subst e
        go_wp2
        go_ret
        exact ⟨_, rfl, by rw [← HN.out]; exact h1, h6⟩
      · obtain ⟨l1, l2⟩ := pow_sizes hb1 hb h3 h4 h5.out (by omega)
        by_cases hodd : m % 2 = 1
        · obtain ⟨k, rfl⟩ : ∃ k, m = 2 * k + 1 := ⟨m / 2, by omega⟩
          have t1 : (((2 * k + 1 : Nat) : Int) % 2 == 1) = true := by rw [beq_iff_eq]; omega
          by_cases hk : k = 0
          · subst hk
            go_wp2_with fail
            refine (mul_any _ _ xo xs _ h1 h2 (by omega)).mono ?_
            rintro e w3 ⟨v3, rfl, g1, g2⟩
            replace h2 := h2.below g2
            have h7 := h6.trans (g2.mono h6.size)
            clear h6 g2 h1
            go_wp2_with fail
            go_roundw
            case rel => exact ⟨0, xo * xs, xs, by omega, by go_num, g1, h2, Nat.mul_pos h3 h4, h4, Lib.hid (by rw [← h5.out]; simp), h7⟩
            case measure => simp [intOf]
          · go_wp2_with fail
            refine (mul_any _ _ xo xs _ h1 h2 (by omega)).mono ?_
            rintro e w3 ⟨v3, rfl, g1, g2⟩
            replace h2 := h2.below g2
            have h7 := h6.trans (g2.mono h6.size)
            clear h6 g2 h1
            go_wp2_with fail
            refine (mul_any _ _ xs xs _ h2 h2 (by omega)).mono ?_
            rintro e w4 ⟨v4, rfl, g3, g4⟩
            replace g1 := g1.below g4
            have h8 := h7.trans (g4.mono h7.size)
            clear h7 g4 h2
            go_wp2_with fail
            go_roundw
            case rel => exact ⟨k, xo * xs, xs * xs, by omega, by go_num, g1, g3, Nat.mul_pos h3 h4, Nat.mul_pos h4 h4, Lib.hid (pow_odd h5.out), h8⟩
            case measure => simp [intOf]; omega
        · obtain ⟨k, rfl⟩ : ∃ k, m = 2 * k := ⟨m / 2, by omega⟩
          have t1 : (((2 * k : Nat) : Int) % 2 == 1) = false := by rw [beq_eq_false_iff_ne]; omega
          go_wp2_with fail
          refine (mul_any _ _ xs xs _ h2 h2 (by omega)).mono ?_
          rintro e w4 ⟨v4, rfl, g3, g4⟩
          replace h1 := h1.below g4
          have h8 := h6.trans (g4.mono h6.size)
          clear h6 g4 h2
          go_wp2_with fail
          go_roundw
          case rel => exact ⟨k, xo, xs * xs, by omega, by go_num, h1, g3, h3, Nat.mul_pos h4 h4, Lib.hid (pow_even h5.out), h8⟩
          case measure => simp [intOf]; omega

set_option maxHeartbeats 400000 in
/-- ten.Pow10, ten.Pow5. -/
theorem pow10_any (k : Int) (w : World) : Calls Tryd.prog 16 #[.int .i64 k] w fun e w' => ∃ v, e = .returned v ∧ Num w' v (10 ^ (cutI k).toNat) ∧ Below w.heap.size w w' := by
  have e : powN (cutI k) = (cutI k).toNat := by unfold powN cutI; omega
  have E := Lib.hid e
  clear e
  go_enter Tryd.func16, Tryd.ntmps16
  go_wp2_with (first
    | (go_at_call 34; refine (cut_any _ _).mono ?_; rintro e w' ⟨rfl, rfl⟩)
    | (go_at_call 27; refine (pow_any 10 _ _ (by omega) (by omega)).mono ?_; rintro e w' ⟨v, rfl, h1, h2⟩))
  go_ret
  rw [E.out] at h1
  exact ⟨v, rfl, h1, h2⟩
set_option maxHeartbeats 400000 in
theorem pow5_any (k : Int) (w : World) : Calls Tryd.prog 18 #[.int .i64 k] w fun e w' => ∃ v, e = .returned v ∧ Num w' v (5 ^ (cutI k).toNat) ∧ Below w.heap.size w w' := by
  have e : powN (cutI k) = (cutI k).toNat := by unfold powN cutI; omega
  have E := Lib.hid e
  clear e
  go_enter Tryd.func18, Tryd.ntmps18
  go_wp2_with (first
    | (go_at_call 34; refine (cut_any _ _).mono ?_; rintro e w' ⟨rfl, rfl⟩)
    | (go_at_call 27; refine (pow_any 5 _ _ (by omega) (by omega)).mono ?_; rintro e w' ⟨v, rfl, h1, h2⟩))
  go_ret
  rw [E.out] at h1
  exact ⟨v, rfl, h1, h2⟩
end Go.Proofs.YtfciahfdmnnejaaDoor
