/-
  A part of the proofs that calipertop.TopBack, TopFloats and TopNearest return true for every input and leave it as it was: part 7 of 47.
-/
import Derived.Test.YtnlpkehllihllaaGreatDoorGt04
import Derived.Deep.QuietTactic
import Derived.BigQuiet
import Derived.Test.YtnlpkehllihllaaGreatDoorGt06
/-
  The walk of nat.Cmp.
-/
namespace Go.Proofs.YtnlpkehllihllaaGreatDoor
open Go.RowKit

theorem cmpI_lt {a b : Int} (h : a < b) : cmpI a b = -1 := if_pos h
theorem cmpI_gt {a b : Int} (h : b < a) : cmpI a b = 1 := by unfold cmpI; rw [if_neg (by omega), if_pos h]
theorem cmpI_eq (a : Int) : cmpI a a = 0 := by unfold cmpI; rw [if_neg (by omega), if_neg (by omega)]
theorem cmpI_lens {x y : Nat} (h : lw x ≠ lw y) : cmpI (lw x) (lw y) = cmpI x y := by
  rcases Nat.lt_or_gt_of_ne h with h1 | h1
  · have h2 : x < y := by
      have h3 := lw_lt x
      have h4 : y ≠ 0 := fun h0 => by subst h0; rw [lw_zero] at h1; omega
      have h5 := lw_ge h4
      have h6 := bp_mono (show lw x ≤ lw y - 1 by omega)
      omega
    rw [cmpI_lt (by omega), cmpI_lt (by omega)]
  · have h2 : y < x := by
      have h3 := lw_lt y
      have h4 : x ≠ 0 := fun h0 => by subst h0; rw [lw_zero] at h1; omega
      have h5 := lw_ge h4
      have h6 := bp_mono (show lw y ≤ lw x - 1 by omega)
      omega
    rw [cmpI_gt (by omega), cmpI_gt (by omega)]
theorem div_bp_succ (x k : Nat) : x / bp k = 18446744073709551616 * (x / bp (k + 1)) + (wds x).getD k 0 := by
  have e : x / bp (k + 1) = x / bp k / 18446744073709551616 := by rw [bp_succ, Nat.mul_comm, ← Nat.div_div_eq_div_mul]
  rw [e, wds_at]
  omega
/-- Two numbers that are the same from a word on, and part at it. -/
theorem cmpI_word {x y k : Nat} (h : x / bp (k + 1) = y / bp (k + 1)) (hne : (wds x).getD k 0 ≠ (wds y).getD k 0) : cmpI ((wds x).getD k 0 : Nat) ((wds y).getD k 0 : Nat) = cmpI x y := by
  have h1 := div_bp_succ x k
  have h2 := div_bp_succ y k
  rw [h] at h1
  rcases Nat.lt_or_gt_of_ne hne with h3 | h3
  · have h4 : x / bp k < y / bp k := by omega
    have h5 : x < y := by
      rcases Nat.lt_or_ge x y with h6 | h6
      · exact h6
      · have := Nat.div_le_div_right (c := bp k) h6; omega
    rw [cmpI_lt (by omega), cmpI_lt (by omega)]
  · have h4 : y / bp k < x / bp k := by omega
    have h5 : y < x := by
      rcases Nat.lt_or_ge y x with h6 | h6
      · exact h6
      · have := Nat.div_le_div_right (c := bp k) h6; omega
    rw [cmpI_gt (by omega), cmpI_gt (by omega)]

set_option maxHeartbeats 1600000 in
set_option maxRecDepth 100000 in
/-- nat.Cmp. -/
theorem cmp_any (va vb : Value) (x y : Nat) (w : World) (ha : Num w va x) (hb : Num w vb y) (hs : lw x ≤ 17592186044416) :
    Calls Tryz.prog 31 #[va, vb] w fun e w' => e = .returned (.int .i64 (cmpI x y)) ∧ ∃ n, w' = w.drewN n := by
  obtain ⟨A, ca, rfl, hca, hma, hra⟩ := ha
  obtain ⟨B, cb, rfl, hcb, hmb, hrb⟩ := hb
  by_cases hl : lw x = lw y
  · have t1 : (cmpI (lw x) (lw y) != 0) = false := by rw [hl, cmpI_eq]; rfl
    have h0 : x / bp (lw x) = y / bp (lw x) := by rw [Nat.div_eq_of_lt (lw_lt x), hl, Nat.div_eq_of_lt (lw_lt y)]
    have H0 := Lib.hid h0
    have Hl := Lib.hid hl
    clear h0 hl
    go_enter Tryz.func31, Tryz.ntmps31
    go_wp2_with fail
    refine (trim_num _ _ _ _ hra hca hma).mono ?_
    rintro e w' ⟨rfl, rfl⟩
    go_wp2_with fail
    refine (trim_num _ _ _ _ hrb hcb hmb).mono ?_
    rintro e w' ⟨rfl, rfl⟩
    go_wp2_with (go_at_call 56; refine (compare_int _ _ _).mono ?_; rintro e w' ⟨rfl, rfl⟩)
    go_loopw [6] (fun i wr => ∃ k : Nat, k ≤ lw x ∧ i = .int .i64 ((k : Int) - 1) ∧ Hid (x / bp k = y / bp k) ∧ ∃ n, wr = w.drewN n) (fun i _ => (intOf i + 1).toNat)
    case atStart => exact ⟨lw x, Nat.le_refl _, rfl, H0, 0, rfl⟩
    case round =>
      obtain ⟨k, hk, rfl, hxy, n, hn⟩ := hrel
      have hra' : RW wr A (wds x) := by rw [hn]; exact hra
      have hrb' : RW wr B (wds y) := by rw [hn]; exact hrb
      have Hn := Lib.hid hn
      clear hn hra hrb
      by_cases h0 : k = 0
      · subst h0
        have e := hxy.out
        rw [bp_zero, Nat.div_one, Nat.div_one] at e
        have E := Lib.hid e
        clear e
        go_wp2
        go_ret
        exact ⟨ret_int (by rw [E.out, cmpI_eq]), n, Hn.out⟩
      · obtain ⟨m, rfl⟩ : ∃ m, k = m + 1 := ⟨k - 1, by omega⟩
        obtain ⟨ba, oa, rfl, hba, hcella⟩ := hra'.at_ (k := m) hk
        obtain ⟨bb, ob, rfl, hbb, hcellb⟩ := hrb'.at_ (k := m) (by have := Hl.out; rw [wds_length]; omega)
        have hm1 : m < lw y := by have := Hl.out; omega
        have hcx : wr.cell? ⟨ba, oa + m, none⟩ = some (U ((wds x).getD m 0)) := hcella m hk
        have hcy : wr.cell? ⟨bb, ob + m, none⟩ = some (U ((wds y).getD m 0)) := hcellb m hm1
        obtain ⟨xi, hxi⟩ : ∃ xi : Nat, xi = (wds x).getD m 0 := ⟨_, rfl⟩
        obtain ⟨yi, hyi⟩ : ∃ yi : Nat, yi = (wds y).getD m 0 := ⟨_, rfl⟩
        rw [← hxi] at hcx
        rw [← hyi] at hcy
        have Hxi := Lib.hid hxi
        have Hyi := Lib.hid hyi
        have ei : ((m + 1 : Nat) : Int) - 1 = (m : Int) := by omega
        rw [ei]
        clear hxi hyi hcella hcellb ei
        by_cases hxy' : xi = yi
        · subst hxy'
          have t2 : (cmpI xi xi != 0) = false := by rw [cmpI_eq]; rfl
          go_wp2
          go_quiet ((go_at_call 57; exact Calls.quiet_of_same ((compare_u64 _ _ _).mono fun _ _ h => ⟨h.1, h.2.symm⟩)))
          go_wp2
          go_roundw
          case rel =>
            refine ⟨m, by omega, by go_num, Lib.hid ?_, n + nq, by rw [Hn.out, World.drewN_drewN]⟩
            rw [div_bp_succ x m, div_bp_succ y m, hxy.out, ← Hxi.out, ← Hyi.out]
          case measure => simp [intOf]
        · have t2 : (cmpI xi yi != 0) = true := by
            rw [bne_iff_ne]
            rcases Nat.lt_or_gt_of_ne hxy' with h1 | h1
            · rw [cmpI_lt (by omega)]; omega
            · rw [cmpI_gt (by omega)]; omega
          go_wp2
          go_quiet ((go_at_call 57; exact Calls.quiet_of_same ((compare_u64 _ _ _).mono fun _ _ h => ⟨h.1, h.2.symm⟩)))
          have e := cmpI_word hxy.out (by rw [← Hxi.out, ← Hyi.out]; exact hxy')
          rw [← Hxi.out, ← Hyi.out] at e
          have E := Lib.hid e
          clear e
          go_wp2
          go_ret
          exact ⟨ret_int E.out, n + nq, by rw [Hn.out, World.drewN_drewN]⟩
  · have e := cmpI_lens hl
    have t1 : (cmpI (lw x) (lw y) != 0) = true := by
      rw [bne_iff_ne]
      rcases Nat.lt_or_gt_of_ne hl with h1 | h1
      · rw [cmpI_lt (by omega)]; omega
      · rw [cmpI_gt (by omega)]; omega
    have E := Lib.hid e
    clear e
    go_enter Tryz.func31, Tryz.ntmps31
    go_wp2_with fail
    refine (trim_num _ _ _ _ hra hca hma).mono ?_
    rintro e w' ⟨rfl, rfl⟩
    go_wp2_with fail
    refine (trim_num _ _ _ _ hrb hcb hmb).mono ?_
    rintro e w' ⟨rfl, rfl⟩
    go_wp2_with (go_at_call 56; refine (compare_int _ _ _).mono ?_; rintro e w' ⟨rfl, rfl⟩)
    go_ret
    exact ⟨ret_int E.out, 0, rfl⟩
end Go.Proofs.YtnlpkehllihllaaGreatDoor

/-
  The walk of nat.short: a number divided by a word.
-/
namespace Go.Proofs.YtnlpkehllihllaaGreatDoor
open Go.RowKit

theorem quo_rem {hi lo y : Nat} : hi * 18446744073709551616 + lo = y * quoN hi lo y + remN hi lo y := (Nat.div_add_mod _ _).symm
theorem drop_set {o : List Nat} {m q : Nat} (h : m < o.length) : (o.set m q).drop m = q :: o.drop (m + 1) := by
  rw [List.drop_eq_getElem_cons (by rw [List.length_set]; exact h), List.getElem_set_self, List.drop_set_of_lt (by omega)]
theorem short_step {x b m r : Nat} {o : List Nat} (hm : m < o.length) (h : x / bp (m + 1) = b * val (o.drop (m + 1)) + r) :
    x / bp m = b * val ((o.set m (quoN r ((wds x).getD m 0) b)).drop m) + remN r ((wds x).getD m 0) b := by
  have e := quo_rem (hi := r) (lo := (wds x).getD m 0) (y := b)
  rw [drop_set hm, val_cons, div_bp_succ x m, h, Nat.mul_add, Nat.mul_add, Nat.mul_left_comm]
  omega

set_option maxHeartbeats 1600000 in
set_option maxRecDepth 100000 in
/-- nat.short. -/
theorem short_any (va : Value) (x b : Nat) (w : World) (ha : Num w va x) (hb0 : 0 < b) (hb : b < 18446744073709551616) (hs : lw x ≤ 17592186044416) :
    Calls Tryz.prog 48 #[va, .int .u64 b] w fun e w' => ∃ v, e = .returned (.tuple #[v, .int .u64 ((x % b : Nat) : Int)]) ∧ Num w' v (x / b) ∧ (∃ n, v = .slice (some ⟨w.heap.size, 0, none⟩) n n) ∧ Below w.heap.size w w' := by
  obtain ⟨A, ca, rfl, hca, hma, hra⟩ := ha
  have hmk := fun W => make_nat (lw x) hs W
  go_enter Tryz.func48, Tryz.ntmps48
  go_wp2
  have hw0 : WB (w.alloc (.cells (madeCells #[.int .u64 0] (lw x)) 26)) w.heap.size (List.replicate (lw x) 0) := WB.made w _
  have hb1 : Below w.heap.size w (w.alloc (.cells (madeCells #[.int .u64 0] (lw x)) 26)) := (Below.refl _ _).alloc (Nat.le_refl _) _
  clear hmk
  go_loopw [7, 8] (fun r i wr => ∃ (k rn : Nat) (o : List Nat), k ≤ lw x ∧ i = .int .i64 ((k : Int) - 1) ∧ r = .int .u64 rn ∧ Hid (rn < b) ∧ Hid (WB wr w.heap.size o) ∧ Hid (o.length = lw x) ∧ Hid (okw o) ∧ Hid (x / bp k = b * val (o.drop k) + rn) ∧ Below w.heap.size w wr)
    (fun _ i _ => (intOf i + 1).toNat)
  case atStart => exact ⟨lw x, 0, _, Nat.le_refl _, rfl, rfl, hb0, hw0, List.length_replicate, okw_replicate _, Lib.hid (by rw [Nat.div_eq_of_lt (lw_lt x), List.drop_eq_nil_of_le (by simp)]; simp [val]), hb1⟩
  case round =>
    obtain ⟨k, rn, o, hk, rfl, rfl, hrb, ho1, ho2, ho3, ho4, hbe⟩ := hrel
    by_cases h0 : k = 0
    · subst h0
      go_wp2_with (go_at_call 29; refine (trim_any _ _ _ o _ ho1.out.rw_ ho2.out (Nat.le_refl _) (by unfold maxLen; omega)).mono ?_; rintro e w' ⟨rfl, rfl⟩)
      go_ret2
      have e := ho4.out
      rw [bp_zero, Nat.div_one, List.drop_zero] at e
      have e1 : x % b = rn := by rw [e, Nat.mul_add_mod]; exact Nat.mod_eq_of_lt hrb.out
      have e2 : x / b = val o := by rw [e, Nat.mul_add_div hb0, Nat.div_eq_of_lt hrb.out, Nat.add_zero]
      rw [e1, e2]
      exact ⟨_, rfl, num_of_wb ho1.out ho2.out ho3.out (by unfold maxLen; omega), ⟨_, rfl⟩, hbe⟩
    · obtain ⟨m, rfl⟩ : ∃ m, k = m + 1 := ⟨k - 1, by omega⟩
      obtain ⟨ba, oa, rfl, hba, hcella⟩ := hra.at_ (k := m) hk
      have hcx : wr.cell? ⟨ba, oa + m, none⟩ = some (U ((wds x).getD m 0)) := (hbe.cell (p := ⟨ba, oa + m, none⟩) hba).trans (hcella m hk)
      have hxw := wds_get x m
      have hstep := short_step (x := x) (b := b) (m := m) (r := rn) (o := o) (by rw [ho2.out]; exact hk) ho4.out
      obtain ⟨xi, hxi⟩ : ∃ xi : Nat, xi = (wds x).getD m 0 := ⟨_, rfl⟩
      rw [← hxi] at hcx hxw hstep
      have hq := quoN_lt (hi := rn) (lo := xi) (y := b) ⟨hrb.out, hxw⟩
      have hr := remN_lt (hi := rn) (lo := xi) (y := b) hrb.out
      have hco : wr.cell? ⟨w.heap.size, m, none⟩ = some (U (o.getD m 0)) := ho1.out.cell (by rw [ho2.out]; exact hk)
      have hfo : wr.frozen? ⟨w.heap.size, m, none⟩ = false := ho1.out.frozen _
      have ei : ((m + 1 : Nat) : Int) - 1 = (m : Int) := by omega
      have hd := div64_any rn xi b
      have Hstep := Lib.hid hstep
      have Hd := Lib.hid hd
      rw [ei]
      clear hxi hcella ei hstep hd
      go_wp2_with (go_at_call 80; refine (Hd.out _ hrb.out hxw hb).mono ?_; rintro e w' ⟨rfl, n, rfl⟩)
      go_roundw
      case rel =>
        exact ⟨m, remN rn xi b, o.set m (quoN rn xi b), by omega, by go_num, rfl, hr, (WB.set_ ho1.out _ _).drewN n, Lib.hid (by rw [List.length_set]; exact ho2.out), okw_set ho3.out _ _ hq, Hstep, below_drewN (hbe.setCell (Nat.le_refl _) _) n⟩
      case measure => simp [intOf]
end Go.Proofs.YtnlpkehllihllaaGreatDoor

/-
  The walk of nat.Div where nothing goes in, or one word is divided by.
-/
namespace Go.Proofs.YtnlpkehllihllaaGreatDoor
open Go.RowKit

theorem below_of_drewN {w w' : World} {n : Nat} (h : Below (w.drewN n).heap.size (w.drewN n) w') : Below w.heap.size w w' := ⟨h.os, h.tape, h.output, h.size, h.block⟩
theorem num_nil (w : World) : Num w (.slice none 0 0) 0 := ⟨none, 0, by rw [lw_zero], by rw [lw_zero]; exact Nat.le_refl _, Nat.zero_le _, by rw [wds_zero]; exact .inl rfl⟩
/-- A slice of a number with another capacity is the same number. -/
theorem Num.at_cap {w : World} {A : Option Addr} {x c : Nat} (hr : RW w A (wds x)) (hc : lw x ≤ c) (hm : c ≤ maxLen) : Num w (.slice A (lw x) c) x := ⟨A, c, rfl, hc, hm, hr⟩

theorem clone_num (va : Value) (x : Nat) (w : World) (ha : Num w va x) (hs : lw x ≤ 17592186044416) :
    Calls Tryz.prog 55 #[va] w fun e w' => ∃ v, e = .returned v ∧ Num w' v x ∧ Below w.heap.size w w' := by
  obtain ⟨A, c, rfl, hc, hm, hr⟩ := ha
  refine (clone_any A (lw x) c (wds x) w hr rfl hs).mono ?_
  rintro e w' ⟨A', c', rfl, h1, h2, h3, h4⟩
  exact ⟨_, rfl, ⟨A', c', rfl, h1, h2, h3⟩, h4⟩

set_option maxHeartbeats 1600000 in
set_option maxRecDepth 100000 in
/-- nat.Div where the first is less: nothing goes in. -/
theorem div_less (va vb : Value) (x y : Nat) (w : World) (ha : Num w va x) (hb : Num w vb y) (hs : lw x ≤ 17592186044416) (hlt : x < y) :
    Calls Tryz.prog 79 #[va, vb] w fun e w' => ∃ v, e = .returned (.tuple #[.slice none 0 0, v, .bool true]) ∧ Num w' v x ∧ Below w.heap.size w w' := by
  obtain ⟨A, ca, rfl, hca, hma, hra⟩ := ha
  obtain ⟨B, cb, rfl, hcb, hmb, hrb⟩ := hb
  have hp := lw_pos (show y ≠ 0 by omega)
  have t0 : ((lw y : Int) == 0) = false := by rw [beq_eq_false_iff_ne]; omega
  have t1 : decide (cmpI x y < 0) = true := by rw [cmpI_lt (by omega)]; rfl
  go_enter Tryz.func79, Tryz.ntmps79
  go_wp2_with fail
  refine (trim_num _ _ _ _ hra hca hma).mono ?_
  rintro e w' ⟨rfl, rfl⟩
  go_wp2_with fail
  refine (trim_num _ _ _ _ hrb hcb hmb).mono ?_
  rintro e w' ⟨rfl, rfl⟩
  go_wp2_with (first
    | (go_at_call 31; refine (cmp_any _ _ x y _ (Num.at_cap hra (Nat.le_refl _) (by omega)) (Num.at_cap hrb (Nat.le_refl _) (by omega)) hs).mono ?_; rintro e w' ⟨rfl, n, rfl⟩)
    | (go_at_call 55; refine (clone_num _ x _ ((Num.at_cap hra (Nat.le_refl _) (by omega)).drewN n) hs).mono ?_; rintro e w' ⟨v, rfl, h1, h2⟩))
  go_ret3
  exact ⟨v, rfl, h1, below_of_drewN h2⟩

set_option maxHeartbeats 1600000 in
set_option maxRecDepth 100000 in
/-- nat.Div by a word. -/
theorem div_word (va vb : Value) (x y : Nat) (w : World) (ha : Num w va x) (hb : Num w vb y) (hs : lw x ≤ 17592186044416) (hle : y ≤ x) (hy : lw y = 1) :
    Calls Tryz.prog 79 #[va, vb] w fun e w' => ∃ vq vr, e = .returned (.tuple #[vq, vr, .bool true]) ∧ Num w' vq (x / y) ∧ Num w' vr (x % y) ∧ Below w.heap.size w w' := by
  obtain ⟨A, ca, rfl, hca, hma, hra⟩ := ha
  obtain ⟨B, cb, rfl, hcb, hmb, hrb⟩ := hb
  obtain ⟨hy64, hy0⟩ := lw_one hy
  have t0 : ((lw y : Int) == 0) = false := by rw [hy]; rfl
  have t1 : decide (cmpI x y < 0) = false := by
    rcases Nat.lt_or_ge y x with h | h
    · rw [cmpI_gt (by omega)]; rfl
    · obtain rfl : x = y := by omega
      rw [cmpI_eq]; rfl
  have t2 : ((lw y : Int) == 1) = true := by rw [hy]; rfl
  have hlp : 0 < lw y := by omega
  obtain ⟨bb, ob, rfl, hbb, hcellb⟩ := hrb.at_ (k := 0) (by rw [wds_length]; omega)
  have hcy : w.cell? ⟨bb, ob, none⟩ = some (U y) := by
    have := hcellb 0 (by rw [wds_length]; omega)
    rw [wds_word hy64 hy0] at this
    simpa using this
  have Hy := Lib.hid hy
  clear hy hcellb
  go_enter Tryz.func79, Tryz.ntmps79
  go_wp2_with fail
  refine (trim_num _ _ _ _ hra hca hma).mono ?_
  rintro e w' ⟨rfl, rfl⟩
  go_wp2_with fail
  refine (trim_num _ _ _ _ hrb hcb hmb).mono ?_
  rintro e w' ⟨rfl, rfl⟩
  go_wp2_with (first
    | (go_at_call 31; refine (cmp_any _ _ x y _ (Num.at_cap hra (Nat.le_refl _) (by omega)) (Num.at_cap hrb (Nat.le_refl _) (by omega)) hs).mono ?_; rintro e w' ⟨rfl, n, rfl⟩)
    | (go_at_call 48; refine (short_any _ x y _ ((Num.at_cap hra (Nat.le_refl _) (by omega)).drewN n) (by omega) hy64 hs).mono ?_; rintro e w' ⟨vq, rfl, h1, _, h2⟩)
    | (go_at_call 12; refine (of_any (x % y) _ (Nat.lt_trans (Nat.mod_lt _ (by omega)) hy64)).mono ?_; rintro e w' ⟨vr, rfl, h3, h4⟩))
  go_ret3
  exact ⟨vq, vr, rfl, h1.below h4, h3, (below_of_drewN h2).trans (h4.mono h2.size)⟩
end Go.Proofs.YtnlpkehllihllaaGreatDoor
