/-
  The walk of nat.digit: one digit of a long division, in place.
-/
import Derived.Test.YtfciahfdmnnejaaDoorDigP
import Derived.Test.YtfciahfdmnnejaaDoorOwn
import Derived.Test.YtfciahfdmnnejaaDoorDiv64
import Derived.Deep.RegionHeld3
import Derived.Deep.DeepCutAuto
import Derived.Deep.CutBlock
import Derived.Deep.QuietTactic
import Derived.BigQuiet
namespace Go.Proofs.YtfciahfdmnnejaaDoor
open Go.RowKit

set_option maxHeartbeats 3200000 in
set_option maxRecDepth 100000 in
/-- nat.digit: how often v goes into u, of which what is left stays in its place. -/
theorem digit_any (g off c cv m n l bb ob V : Nat) (us : List Nat) (w : World) (hu : OW w g us) (hok : okw us) (hrv : RW w (some ⟨bb, ob, none⟩) (wds V)) (hne : bb ≠ g)
    (hm : lw V = m + 1) (hn : n = m + 1) (hl : l = m + 2) (hL : off + l ≤ us.length) (hsz : us.length ≤ 17592186044416) (hlt : val us < V * bp (off + 1)) :
    Calls Tryd.prog 69 #[.slice (some ⟨g, off, none⟩) l c, .slice (some ⟨bb, ob, none⟩) n cv] w fun e w' =>
      ∃ us' : List Nat, e = .returned (U (val us / (V * bp off))) ∧ OW w' g us' ∧ us'.length = us.length ∧ okw us' ∧ val us' = val us % (V * bp off) ∧ w.grownBy w' (some g) := by
  have hV : V < bp n := by rw [hn, ← hm]; exact lw_lt V
  have hV0 : 0 < V := Nat.pos_of_ne_zero (fun h => by rw [h, lw_zero] at hm; omega)
  obtain ⟨D, hD⟩ : ∃ D, D = V * bp off := ⟨_, rfl⟩
  obtain ⟨V0, hV0'⟩ : ∃ x, x = val us := ⟨_, rfl⟩
  obtain ⟨Q, hQ⟩ : ∃ Q, Q = V0 / D := ⟨_, rfl⟩
  have hD0 : 0 < D := by rw [hD]; exact Nat.mul_pos hV0 (bp_pos _)
  have hltD : V0 < D * 18446744073709551616 := by rw [hV0', hD, Nat.mul_assoc, Nat.mul_comm (bp off), ← bp_succ]; exact hlt
  have hQ64 := guess_top hltD hQ hD0
  have hz : ∀ j, off + l ≤ j → us.getD j 0 = 0 := val_small us (off + l) (by
    refine Nat.lt_trans hlt ?_
    rw [show off + l = n + (off + 1) by omega, bp_add n]
    exact Nat.mul_lt_mul_of_pos_right hV (bp_pos _))
  have hus := val_lt_zero hok hz
  obtain ⟨htop, htop0⟩ := top_word hm
  have hguess := guess_first (V0 := V0) (V := V) (Q := Q) (m := m) (off := off) (by rw [← hD]; exact hQ) htop htop0
  rw [hV0', two_high hok (N := off + m) (Nat.lt_of_lt_of_le hus (bp_mono (by omega)))] at hguess
  have cu1 : w.cell? ⟨g, off + n, none⟩ = some (U (us.getD (off + n) 0)) := hu.cell (by omega)
  have cu0 : w.cell? ⟨g, off + m, none⟩ = some (U (us.getD (off + m) 0)) := hu.cell (by omega)
  have cv1 : w.cell? ⟨bb, ob + m, none⟩ = some (U ((wds V).getD m 0)) := by
    obtain ⟨b, o, e, _, hc⟩ := hrv.at_ (k := m) (by rw [wds_length]; omega)
    cases e
    exact hc m (by rw [wds_length]; omega)
  have hu1 := okw_get hok (off + n)
  have hu0 := okw_get hok (off + m)
  have hv1 := wds_get V m
  rw [show off + m + 1 = off + n by omega] at hguess
  rw [← hV0']
  rw [← hD, ← hQ]
  generalize us.getD (off + n) 0 = u1 at *
  generalize us.getD (off + m) 0 = u0 at *
  generalize (wds V).getD m 0 = v1 at *
  have hnm : (n : Int) - 1 = (m : Int) := by omega
  have hml : m < n := by omega
  have hnl : n < l := by omega
  have Hguess := Lib.hid hguess
  have Hlt := Lib.hid hltD
  have Hus := Lib.hid hus
  have Hok := Lib.hid hok
  have Hz := Lib.hid hz
  have HD := Lib.hid hD
  have HQ := Lib.hid hQ
  have HV := Lib.hid hV
  have HV0 := Lib.hid hV0'
  have Hm := Lib.hid hm
  have Hn := Lib.hid hn
  have Hl := Lib.hid hl
  clear hguess hltD hus hok hz hD hQ hV hV0' hm hn hl htop hlt
  go_enter Tryd.func69, Tryd.ntmps69
  go_wp2_with fail
  go_step3
  go_wp2_with fail
  go_quiet (fail)
  go_upto_if 25 with (fail)
  go_cut [6] from 26 to 43 (fun s wx => ∃ gs nq : Nat, s = .int .u64 gs ∧ Q ≤ gs ∧ gs < 18446744073709551616 ∧ wx = w.drewN nq)
  case first =>
    by_cases hlt : u1 < v1
    · have t1 : decide ((u1 : Int) < (v1 : Int)) = true := by simp; omega
      have t2 : decide (u1 < v1) = true := by simp; omega
      have hq := quoN_lt (hi := u1) (lo := u0) (y := v1) ⟨hlt, hu0⟩
      have hg : Q ≤ quoN u1 u0 v1 := Hguess.out
      have Hd := Lib.hid (fun W => div64_any u1 u0 v1 W hlt hu0 hv1)
      obtain ⟨G, hG⟩ : ∃ G, G = quoN u1 u0 v1 := ⟨_, rfl⟩
      rw [← hG] at hq hg Hd
      clear hG
      obtain ⟨w1, hw1⟩ : ∃ w1, w1 = w.drewN nq := ⟨_, rfl⟩
      have cu1' : w1.cell? ⟨g, off + n, none⟩ = some (U u1) := by rw [hw1]; exact cu1
      have cu0' : w1.cell? ⟨g, off + m, none⟩ = some (U u0) := by rw [hw1]; exact cu0
      have cv1' : w1.cell? ⟨bb, ob + m, none⟩ = some (U v1) := by rw [hw1]; exact cv1
      rw [← hw1]
      have Hw1 := Lib.hid hw1
      clear hw1 cu1 cu0 cv1
      go_wp2_with fail
      go_quiet ((go_at_call 72; exact Calls.quiet_of (Hd.out _)))
      go_wp2_with fail
      go_meet
      exact ⟨G, _, rfl, hg, hq, (congrArg (fun x => World.drewN x _) Hw1.out).trans (World.drewN_drewN _ _ _)⟩
    · have t1 : decide ((u1 : Int) < (v1 : Int)) = false := by simp; omega
      have t2 : decide (u1 < v1) = false := by simp; omega
      go_wp2_with fail
      go_meet
      exact ⟨18446744073709551615, _, rfl, hQ64, by omega, rfl⟩
  case rest =>
    obtain ⟨gs, nq', rfl, hgs, hgs64, hwx⟩ := hcut
    have hu' : OW wc g us := by rw [hwx]; exact hu
    have hrv' : RW wc (some ⟨bb, ob, none⟩) (wds V) := by rw [hwx]; exact hrv
    have hgr : w.grownBy wc (some g) := by rw [hwx]; exact grown_drewN (grown_refl _ _) _
    clear hwx hu hrv cu1 cu0 cv1 hu1 hu0 hv1 hnm hml
    have hVn := HV
    have HV := Lib.hid hrv'
    have HO := Lib.hid hu'
    have HG := Lib.hid hgr
    have HVal := Lib.hid (show val us + gs * val ((wds V).take 0) * bp off = V0 + (0 + 0) * bp (off + 0) by rw [HV0.out, List.take_zero, val_nil]; simp)
    clear hrv' hu' hgr
    go_wp2_with fail
    go_loopw [7, 8, 46] (fun b cr i wr => ∃ (k bn cn : Nat) (o : List Nat), k ≤ l ∧ i = .int .i64 k ∧ b = .int .u64 bn ∧ cr = .int .u64 cn ∧ bn ≤ 1 ∧ cn < 18446744073709551616 ∧ Hid (OW wr g o) ∧ Hid (o.length = us.length) ∧ Hid (okw o) ∧
        Hid (∀ j, off + l ≤ j → o.getD j 0 = 0) ∧ Hid (val o + gs * val ((wds V).take k) * bp off = V0 + (cn + bn) * bp (off + k)) ∧ Hid (cn * bp k ≤ gs * val ((wds V).take k)) ∧ Hid (RW wr (some ⟨bb, ob, none⟩) (wds V)) ∧ Hid (w.grownBy wr (some g)))
      (fun _ _ i _ => l - (intOf i).toNat)
    case atStart => exact ⟨0, 0, 0, us, Nat.zero_le _, rfl, rfl, rfl, by omega, by omega, HO, rfl, Hok, Hz, HVal, Lib.hid (by simp), HV, HG⟩
    case round =>
      obtain ⟨k, bn, cn, o, hk, rfl, rfl, rfl, hbn, hcn, ho1, ho2, ho3, ho4, ho5, ho6, ho7, ho8⟩ := hrel
      by_cases hlt : k < l
      · have hol : off + k < o.length := by have := ho2.out; omega
        have hco : wr.cell? ⟨g, off + k, none⟩ = some (U (o.getD (off + k) 0)) := ho1.out.cell hol
        have hfo : wr.frozen? ⟨g, off + k, none⟩ = false := ho1.out.frozen _
        have how := okw_get ho3.out (off + k)
        obtain ⟨oi, hoi⟩ : ∃ oi : Nat, oi = o.getD (off + k) 0 := ⟨_, rfl⟩
        rw [← hoi] at hco how
        have hvw := wds_get V k
        have hg := fun W (h : RW W (some ⟨bb, ob, none⟩) (wds V)) => at_any (some ⟨bb, ob, none⟩) n cv (wds V) (k : Int) W h (by rw [wds_length, Hm.out, Hn.out]) (by omega) (by omega)
        rw [Int.toNat_natCast] at hg
        obtain ⟨vi, hvi⟩ : ∃ vi : Nat, vi = (wds V).getD k 0 := ⟨_, rfl⟩
        rw [← hvi] at hvw hg
        obtain ⟨t, d, b, ht, hd, hb, e1, e2, et, ed, eb, b1, b2, b3⟩ := dig_word gs vi cn oi bn hgs64 hvw hcn how hbn
        have ha1 := fun W => run_add64' (mullI gs vi) cn 0 b1 (by omega) (by omega) (by omega) W
        have ha2 := fun W => run_sub64' oi (sumI (mullI gs vi) cn 0) bn (by omega) b2 (by omega) (by omega) b3 W
        rw [et, eb] at ha2
        have hval := dig_sub o off k gs cn bn t d b V0 (wds V) hol ho5.out (by rw [← hvi, ← hoi]; exact e1)
        have hcar := dig_carry (d := d) ho6.out (by rw [← hvi]; exact e2)
        have Hval := Lib.hid hval
        have Hcar := Lib.hid hcar
        have Hed := Lib.hid ed
        have Hg := Lib.hid hg
        have hol' := Lib.hid hol
        clear hval hcar ed hg hoi hvi e1 e2 et eb hol
        go_wp2_with (first
          | (go_at_call 50; refine (Hg.out _ ho7.out).mono ?_; rintro e w' ⟨rfl, rfl⟩)
          | (go_at_call 46; refine (mul64_any _ _ (by omega) (by omega) (by omega) (by omega) _).mono ?_; rintro e w' ⟨rfl, rfl⟩))
        go_roundw
        case rel =>
          refine ⟨k + 1, b, d, o.set (off + k) t, by omega, by go_num, rfl, ?_, hb, hd, ho1.out.set_ _ _, Lib.hid (by rw [List.length_set]; exact ho2.out), okw_set ho3.out _ _ ht, Lib.hid fun j hj => ?_, Hval, Hcar, Lib.hid ?_, Lib.hid ?_⟩
          · exact congrArg (Value.int .u64) ((congrArg IntKind.u64.wrap Hed.out).trans (Mul64.wrapN d hd))
          · rw [set_ne (by omega)]; exact ho4.out j hj
          · exact ho7.out.grown (grown_set (grown_refl _ _) _ _) hne
          · exact grown_set ho8.out _ _
        case measure => simp [intOf]; omega
      · obtain rfl : k = l := by omega
        have hval : val o + gs * D = V0 + bn * bp (off + k) := by
          have e1 : k = n + 1 := by have := Hn.out; have := Hl.out; omega
          have e2 : (wds V).take k = wds V := List.take_of_length_le (by rw [wds_length, Hm.out]; have := Hl.out; omega)
          have h5 := ho5.out
          have h6 := ho6.out
          rw [e2, val_wds] at h5 h6
          rw [HD.out, e1]
          rw [e1] at h5 h6
          exact dig_end h5 h6 hgs64 hVn.out
        have Hval := Lib.hid hval
        clear hval
        obtain ⟨P, hP⟩ : ∃ P, P = bp (off + k) := ⟨_, rfl⟩
        rw [← hP] at Hval
        have HP := Lib.hid hP
        clear hP ho5 ho6
        go_wp2_with fail
        go_step3
        go_wp2_with fail
        go_loopw [6, 7] (fun gv bv wr => ∃ (G b : Nat) (o : List Nat), gv = .int .u64 G ∧ bv = .int .u64 b ∧ b ≤ 1 ∧ Q ≤ G ∧ G < 18446744073709551616 ∧ Hid (OW wr g o) ∧ Hid (o.length = us.length) ∧ Hid (okw o) ∧
            Hid (∀ j, off + k ≤ j → o.getD j 0 = 0) ∧ Hid (val o + G * D = V0 + b * P) ∧ Hid (RW wr (some ⟨bb, ob, none⟩) (wds V)) ∧ Hid (w.grownBy wr (some g)))
          (fun gv _ _ => (intOf gv).toNat)
        case atStart => exact ⟨gs, bn, o, rfl, rfl, hbn, hgs, hgs64, ho1, ho2, ho3, ho4, Hval, ho7, ho8⟩
        case round =>
          clear Hval ho1 ho2 ho3 ho4 ho7 ho8 hgs hgs64 hbn hcn hlt
          rename_i wr0 gv bv wr
          obtain ⟨G, b, o, rfl, rfl, hb, hQG, hG64, ho1, ho2, ho3, ho4, ho5, ho7, ho8⟩ := hrel
          by_cases hb0 : b = 0
          · subst hb0
            have h5 := ho5.out
            rw [Nat.zero_mul, Nat.add_zero] at h5
            obtain ⟨e1, e2⟩ := guess_right h5 HQ.out hD0 hQG
            have e3 : val o = V0 % D := by
              have h3 := Nat.div_add_mod V0 D
              rw [← HQ.out, ← e1, Nat.mul_comm D] at h3
              omega
            have E1 := Lib.hid e1
            have E3 := Lib.hid e3
            clear e1 e2 e3 h5
            go_wp2_with fail
            rw [Exit.noGoto_ret]
            go_ret
            rw [E1.out]
            exact ⟨o, rfl, ho1.out, ho2.out, ho3.out, E3.out, ho8.out⟩
          · obtain rfl : b = 1 := by omega
            have ub := val_lt_zero ho3.out ho4.out
            rw [← HP.out] at ub
            have h5 := ho5.out
            rw [Nat.one_mul] at h5
            have hover := guess_over h5 ub HQ.out hD0
            obtain ⟨G1, hG1⟩ : ∃ G1, G1 = G - 1 := ⟨_, rfl⟩
            have eG : (G : Int) - 1 = (G1 : Int) := by omega
            have iG : (1 : Int) ≤ (G : Int) := by omega
            have hQ1 : Q ≤ G1 := by omega
            have hG1l : G1 < G := by omega
            have HG1 := Lib.hid hG1
            have H5 := Lib.hid h5
            clear h5 ub hover hG1
            obtain ⟨wo, rfl⟩ : ∃ wo : World, wo = wr := ⟨_, rfl⟩
            go_wp2_with fail
            go_loopw [8, 86] (fun cr i wr => ∃ (j cn : Nat) (o' : List Nat), j ≤ k ∧ i = .int .i64 j ∧ cr = .int .u64 cn ∧ cn ≤ 1 ∧ Hid (OW wr g o') ∧ Hid (o'.length = us.length) ∧ Hid (okw o') ∧
                Hid (∀ j, off + k ≤ j → o'.getD j 0 = 0) ∧ Hid (val o' + cn * bp (off + j) = val o + val ((wds V).take j) * bp off) ∧ Hid (RW wr (some ⟨bb, ob, none⟩) (wds V)) ∧ Hid (w.grownBy wr (some g)))
              (fun _ i _ => k - (intOf i).toNat)
            case atStart => exact ⟨0, 0, o, Nat.zero_le _, rfl, rfl, by omega, ho1, ho2, ho3, ho4, Lib.hid (by simp [val]), ho7, ho8⟩
            case round =>
              obtain ⟨j, cn, o', hj, rfl, rfl, hcn, hp1, hp2, hp3, hp4, hp5, hp7, hp8⟩ := hrel
              rename_i wr
              by_cases hlt : j < k
              · have hol : off + j < o'.length := by have := hp2.out; omega
                have hco : wr.cell? ⟨g, off + j, none⟩ = some (U (o'.getD (off + j) 0)) := hp1.out.cell hol
                have hfo : wr.frozen? ⟨g, off + j, none⟩ = false := hp1.out.frozen _
                have how := okw_get hp3.out (off + j)
                obtain ⟨oi, hoi⟩ : ∃ oi : Nat, oi = o'.getD (off + j) 0 := ⟨_, rfl⟩
                rw [← hoi] at hco how
                have hvw := wds_get V j
                have hg := fun W (h : RW W (some ⟨bb, ob, none⟩) (wds V)) => at_any (some ⟨bb, ob, none⟩) n cv (wds V) (j : Int) W h (by rw [wds_length, Hm.out, Hn.out]) (by omega) (by omega)
                rw [Int.toNat_natCast] at hg
                obtain ⟨vi, hvi⟩ : ∃ vi : Nat, vi = (wds V).getD j 0 := ⟨_, rfl⟩
                rw [← hvi] at hvw hg
                obtain ⟨t, d, ht, hd, e1, et, ed⟩ := back_word oi vi cn how hvw hcn
                have ha1 := fun W => run_add64' oi vi cn (by omega) (by omega) (by omega) (by omega) W
                rw [et, ed] at ha1
                have hval := back_add o' off j cn t d (val o) (wds V) hol hp5.out (by rw [← hvi, ← hoi]; exact e1)
                have Hval := Lib.hid hval
                have Hg := Lib.hid hg
                clear hval hg hoi hvi e1 et ed hol
                go_upto_block 5 with (fail)
                go_cut [8, 13] from 88 to 103 (fun c i wx => c = .int .u64 d ∧ i = .int .i64 j ∧ wx = (wr.setCell ⟨g, off + j, none⟩ (U t)).drew)
                case first =>
                  go_wp2_with fail
                  go_region_with ((go_at_call 50; refine (Hg.out _ (by exact hp7.out)).mono ?_; rintro e w3 ⟨rfl, rfl⟩))
                  all_goals
                    go_wp2_with fail
                    go_meet
                    exact ⟨rfl, rfl, rfl⟩
                case rest =>
                  obtain ⟨rfl, rfl, rfl⟩ := hcut
                  go_wp2_with fail
                  refine ⟨⟨j + 1, d, o'.set (off + j) t, by omega, rfl, rfl, hd, Lib.hid ?_, Lib.hid (by rw [List.length_set]; exact hp2.out), okw_set hp3.out _ _ ht, Lib.hid fun i hi => ?_, Hval, Lib.hid ?_, Lib.hid ?_⟩, by simp [intOf]; omega⟩
                  · exact hp1.out.set_ _ _
                  · rw [set_ne (by omega)]; exact hp4.out i hi
                  · exact hp7.out.grown (grown_drew (grown_set (grown_refl _ _) _ _)) hne
                  · exact grown_drew (grown_set hp8.out _ _)
              · have h1 : val o' + cn * P = val o + D := by
                  have h2 := hp5.out
                  have e2 : (wds V).take j = wds V := List.take_of_length_le (by rw [wds_length, Hm.out]; have := Hl.out; omega)
                  rw [e2, val_wds, show j = k by omega, ← HP.out, ← HD.out] at h2
                  exact h2
                have h3 := back_end (by omega) H5.out h1 hcn
                rw [← HG1.out] at h3
                have H3 := Lib.hid h3
                obtain ⟨b1, hb1⟩ : ∃ b1, b1 = 1 - cn := ⟨_, rfl⟩
                have ec : (1 : Int) - (cn : Int) = (b1 : Int) := by omega
                have ic : (cn : Int) ≤ 1 := by omega
                have hb1l : b1 ≤ 1 := by omega
                rw [← hb1] at H3
                clear h1 h3 hb1
                go_wp2_with fail
                refine ⟨⟨G1, b1, o', rfl, rfl, hb1l, hQ1, by omega, hp1, hp2, hp3, hp4, H3, hp7, hp8⟩, by simp [intOf]; omega⟩
end Go.Proofs.YtfciahfdmnnejaaDoor
