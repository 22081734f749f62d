/-
  The walk of nat.Cmp.
-/
import Derived.Test.YtfciahfdmnnejaaDoorBits
import Derived.Deep.QuietTactic
import Derived.BigQuiet
namespace Go.Proofs.YtfciahfdmnnejaaDoor
open Go.RowKit

theorem cmpI_lt {a b : Int} (h : a < b) : cmpI a b = -1 := if_pos h
theorem cmpI_gt {a b : Int} (h : b < a) : cmpI a b = 1 := by unfold cmpI; rw [if_neg (by omega), if_pos h]
theorem cmpI_eq (a : Int) : cmpI a a = 0 := by unfold cmpI; rw [if_neg (by omega), if_neg (by omega)]
theorem cmpI_lens {x y : Nat} (h : lw x ≠ lw y) : cmpI (lw x) (lw y) = cmpI x y := by
  rcases Nat.lt_or_gt_of_ne h with h1 | h1
  · have h2 : x < y := by
      have h3 := lw_lt x
      have h4 : y ≠ 0 := fun h0 => by subst h0; rw [lw_zero] at h1; omega
      have h5 := lw_ge h4
      have h6 := bp_mono (show lw x ≤ lw y - 1 by omega)
      omega
    rw [cmpI_lt (by omega), cmpI_lt (by omega)]
  · have h2 : y < x := by
      have h3 := lw_lt y
      have h4 : x ≠ 0 := fun h0 => by subst h0; rw [lw_zero] at h1; omega
      have h5 := lw_ge h4
      have h6 := bp_mono (show lw y ≤ lw x - 1 by omega)
      omega
    rw [cmpI_gt (by omega), cmpI_gt (by omega)]
theorem div_bp_succ (x k : Nat) : x / bp k = 18446744073709551616 * (x / bp (k + 1)) + (wds x).getD k 0 := by
  have e : x / bp (k + 1) = x / bp k / 18446744073709551616 := by rw [bp_succ, Nat.mul_comm, ← Nat.div_div_eq_div_mul]
  rw [e, wds_at]
  omega
/-- Two numbers that are the same from a word on, and part at it. -/
theorem cmpI_word {x y k : Nat} (h : x / bp (k + 1) = y / bp (k + 1)) (hne : (wds x).getD k 0 ≠ (wds y).getD k 0) : cmpI ((wds x).getD k 0 : Nat) ((wds y).getD k 0 : Nat) = cmpI x y := by
  have h1 := div_bp_succ x k
  have h2 := div_bp_succ y k
  rw [h] at h1
  rcases Nat.lt_or_gt_of_ne hne with h3 | h3
  · have h4 : x / bp k < y / bp k := by omega
    have h5 : x < y := by
      rcases Nat.lt_or_ge x y with h6 | h6
      · exact h6
      · have := Nat.div_le_div_right (c := bp k) h6; omega
    rw [cmpI_lt (by omega), cmpI_lt (by omega)]
  · have h4 : y / bp k < x / bp k := by omega
    have h5 : y < x := by
      rcases Nat.lt_or_ge y x with h6 | h6
      · exact h6
      · have := Nat.div_le_div_right (c := bp k) h6; omega
    rw [cmpI_gt (by omega), cmpI_gt (by omega)]

set_option maxHeartbeats 1600000 in
set_option maxRecDepth 100000 in
/-- nat.Cmp. -/
theorem cmp_any (va vb : Value) (x y : Nat) (w : World) (ha : Num w va x) (hb : Num w vb y) (hs : lw x ≤ 17592186044416) :
    Calls Tryd.prog 15 #[va, vb] w fun e w' => e = .returned (.int .i64 (cmpI x y)) ∧ ∃ n, w' = w.drewN n := by
  obtain ⟨A, ca, rfl, hca, hma, hra⟩ := ha
  obtain ⟨B, cb, rfl, hcb, hmb, hrb⟩ := hb
  by_cases hl : lw x = lw y
  · have t1 : (cmpI (lw x) (lw y) != 0) = false := by rw [hl, cmpI_eq]; rfl
    have h0 : x / bp (lw x) = y / bp (lw x) := by rw [Nat.div_eq_of_lt (lw_lt x), hl, Nat.div_eq_of_lt (lw_lt y)]
    have H0 := Lib.hid h0
    have Hl := Lib.hid hl
    clear h0 hl
    go_enter Tryd.func15, Tryd.ntmps15
    go_wp2_with fail
    refine (trim_num _ _ _ _ hra hca hma).mono ?_
    rintro e w' ⟨rfl, rfl⟩
    go_wp2_with fail
    refine (trim_num _ _ _ _ hrb hcb hmb).mono ?_
    rintro e w' ⟨rfl, rfl⟩
    go_wp2_with (go_at_call 36; refine (compare_int _ _ _).mono ?_; rintro e w' ⟨rfl, rfl⟩)
    go_loopw [6] (fun i wr => ∃ k : Nat, k ≤ lw x ∧ i = .int .i64 ((k : Int) - 1) ∧ Hid (x / bp k = y / bp k) ∧ ∃ n, wr = w.drewN n) (fun i _ => (intOf i + 1).toNat)
    case atStart => exact ⟨lw x, Nat.le_refl _, rfl, H0, 0, rfl⟩
    case round =>
      obtain ⟨k, hk, rfl, hxy, n, hn⟩ := hrel
      have hra' : RW wr A (wds x) := by rw [hn]; exact hra
      have hrb' : RW wr B (wds y) := by rw [hn]; exact hrb
      have Hn := Lib.hid hn
      clear hn hra hrb
      by_cases h0 : k = 0
      · subst h0
        have e := hxy.out
        rw [bp_zero, Nat.div_one, Nat.div_one] at e
        have E := Lib.hid e
        clear e
        go_wp2
        go_ret
        exact ⟨ret_int (by rw [E.out, cmpI_eq]), n, Hn.out⟩
      · obtain ⟨m, rfl⟩ : ∃ m, k = m + 1 := ⟨k - 1, by omega⟩
        obtain ⟨ba, oa, rfl, hba, hcella⟩ := hra'.at_ (k := m) hk
        obtain ⟨bb, ob, rfl, hbb, hcellb⟩ := hrb'.at_ (k := m) (by have := Hl.out; rw [wds_length]; omega)
        have hm1 : m < lw y := by have := Hl.out; omega
        have hcx : wr.cell? ⟨ba, oa + m, none⟩ = some (U ((wds x).getD m 0)) := hcella m hk
        have hcy : wr.cell? ⟨bb, ob + m, none⟩ = some (U ((wds y).getD m 0)) := hcellb m hm1
        obtain ⟨xi, hxi⟩ : ∃ xi : Nat, xi = (wds x).getD m 0 := ⟨_, rfl⟩
        obtain ⟨yi, hyi⟩ : ∃ yi : Nat, yi = (wds y).getD m 0 := ⟨_, rfl⟩
        rw [← hxi] at hcx
        rw [← hyi] at hcy
        have Hxi := Lib.hid hxi
        have Hyi := Lib.hid hyi
        have ei : ((m + 1 : Nat) : Int) - 1 = (m : Int) := by omega
        rw [ei]
        clear hxi hyi hcella hcellb ei
        by_cases hxy' : xi = yi
        · subst hxy'
          have t2 : (cmpI xi xi != 0) = false := by rw [cmpI_eq]; rfl
          go_wp2
          go_quiet ((go_at_call 37; exact Calls.quiet_of_same ((compare_u64 _ _ _).mono fun _ _ h => ⟨h.1, h.2.symm⟩)))
          go_wp2
          go_roundw
          case rel =>
            refine ⟨m, by omega, by go_num, Lib.hid ?_, n + nq, by rw [Hn.out, World.drewN_drewN]⟩
            rw [div_bp_succ x m, div_bp_succ y m, hxy.out, ← Hxi.out, ← Hyi.out]
          case measure => simp [intOf]
        · have t2 : (cmpI xi yi != 0) = true := by
            rw [bne_iff_ne]
            rcases Nat.lt_or_gt_of_ne hxy' with h1 | h1
            · rw [cmpI_lt (by omega)]; omega
            · rw [cmpI_gt (by omega)]; omega
          go_wp2
          go_quiet ((go_at_call 37; exact Calls.quiet_of_same ((compare_u64 _ _ _).mono fun _ _ h => ⟨h.1, h.2.symm⟩)))
          have e := cmpI_word hxy.out (by rw [← Hxi.out, ← Hyi.out]; exact hxy')
          rw [← Hxi.out, ← Hyi.out] at e
          have E := Lib.hid e
          clear e
          go_wp2
          go_ret
          exact ⟨ret_int E.out, n + nq, by rw [Hn.out, World.drewN_drewN]⟩
  · have e := cmpI_lens hl
    have t1 : (cmpI (lw x) (lw y) != 0) = true := by
      rw [bne_iff_ne]
      rcases Nat.lt_or_gt_of_ne hl with h1 | h1
      · rw [cmpI_lt (by omega)]; omega
      · rw [cmpI_gt (by omega)]; omega
    have E := Lib.hid e
    clear e
    go_enter Tryd.func15, Tryd.ntmps15
    go_wp2_with fail
    refine (trim_num _ _ _ _ hra hca hma).mono ?_
    rintro e w' ⟨rfl, rfl⟩
    go_wp2_with fail
    refine (trim_num _ _ _ _ hrb hcb hmb).mono ?_
    rintro e w' ⟨rfl, rfl⟩
    go_wp2_with (go_at_call 36; refine (compare_int _ _ _).mono ?_; rintro e w' ⟨rfl, rfl⟩)
    go_ret
    exact ⟨ret_int E.out, 0, rfl⟩
end Go.Proofs.YtfciahfdmnnejaaDoor
