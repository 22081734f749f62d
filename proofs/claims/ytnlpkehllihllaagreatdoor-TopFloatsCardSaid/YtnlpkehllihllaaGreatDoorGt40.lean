/-
  A part of the proofs that calipertop.TopBack, TopFloats and TopNearest return true for every input and leave it as it was: part 40 of 47.
-/
import Derived.Test.YtnlpkehllihllaaGreatDoorGt38
import Derived.Test.YtnlpkehllihllaaGreatDoorGt39
import Derived.Test.YtnlpkehllihllaaGreatDoorGt29
import Derived.Test.YtnlpkehllihllaaGreatDoorGt34
import Derived.Test.YtnlpkehllihllaaGreatDoorGt35
/-
  The walk of calipertop.TopFloats.
-/
namespace Go.Proofs.YtnlpkehllihllaaGreatDoor
open Go.RowKit Go.Sort

theorem run_f64bits (b : Nat) (w : World) : (callFunc 17 #[.float .f64 b]).run Tryz.prog w = .ok (.value (.int .u64 b)) w := by
  rw [run_callFunc_extern Tryz.func17 (by kernel_rfl) (by kernel_rfl) (by kernel_rfl) (e := Go.Extern.MathFloatBits.float64bits) (by kernel_rfl)]
  rfl

set_option maxHeartbeats 1600000 in
set_option maxRecDepth 100000 in
/-- math.Signbit. -/
theorem signbit_any (b : Nat) (w : World) (hb : b < 18446744073709551616) : Calls Tryz.prog 18 #[.float .f64 b] w fun r w' => r = .returned (.bool (pNeg (formAt 14) b)) ∧ w = w' := by
  have hfb := fun W => run_f64bits b W
  rw [fl_neg]
  by_cases h : 9223372036854775808 ≤ b
  · have e : flN b = true := decide_eq_true h
    have hw : IntKind.i64.wrap (b : Int) = (b : Int) - 18446744073709551616 := by rw [IntKind.wrap_i64]; omega
    have hl : decide ((b : Int) - 18446744073709551616 < 0) = true := by rw [decide_eq_true_eq]; omega
    have hl2 : decide (IntKind.i64.wrap (b : Int) < 0) = true := by rw [hw]; exact hl
    rw [e]
    clear e h hb
    go_enter Tryz.func18, Tryz.ntmps18
    go_wp2_with fail
    go_ret
    exact ⟨rfl, rfl⟩
  · have e : flN b = false := decide_eq_false h
    have hw : IntKind.i64.wrap (b : Int) = (b : Int) := by rw [IntKind.wrap_i64]; omega
    have hl : decide ((b : Int) < 0) = false := by rw [decide_eq_false_iff_not]; omega
    rw [e]
    clear e h hb
    go_enter Tryz.func18, Tryz.ntmps18
    go_wp2_with fail
    go_ret
    exact ⟨rfl, rfl⟩

set_option maxHeartbeats 3200000 in
set_option maxRecDepth 100000 in
/-- calipertop.TopFloats. -/
theorem floats_walk (b : Nat) (w : World) (hb : b < 18446744073709551616) (hE : Env w) (hT : Tab w) (hP : PTab w) :
    Calls Tryz.prog 5 #[.float .f64 b] w fun r w' => r = .returned (.bool true) ∧ Below w.heap.size w w' := by
  have Wk := Lib.hid fun W (hE : Env W) (hT : Tab W) => works_any W hE hT
  have Sb := Lib.hid fun W => signbit_any b W hb
  have hfb := fun W => run_f64bits b W
  have hpw : b < 2 ^ (formAt 14).width := hb
  have HE := Lib.hid hE
  have HT := Lib.hid hT
  have HP := Lib.hid hP
  have Fi := Lib.hid fun (hc : clsI (formAt 14) b (pKey (formAt 14) b) = 2) W (hE : Env W) (hT : Tab W) => print_fin 14 b W (by omega) (by omega) hpw hc hE hT
  have Pw := Lib.hid fun (hc : clsI (formAt 14) b (pKey (formAt 14) b) ≠ 2) W (hE : Env W) (hP : PTab W) => print_word 14 b W (by omega) (by omega) hpw hc hE hP
  have Pb := Lib.hid fun (hc : clsI (formAt 14) b (pKey (formAt 14) b) = 2) (D : Nat) (K : Int) (hS : ShortIs (pLo 14 b) (pHi 14 b) (pEv 14 b) (pX 14 b) D K) W (hE : Env W) => parse_back 14 b 2 D K W (by omega) (by omega) (.inr rfl) hpw hc hS hE
  have So := Lib.hid fun (hc : clsI (formAt 14) b (pKey (formAt 14) b) = 2) W (hE : Env W) => short_pat 14 b W (by omega) (by omega) hpw hc hE
  have S17 := Lib.hid fun (hc : clsI (formAt 14) b (pKey (formAt 14) b) = 2) (D : Nat) (K : Int) (hS : ShortIs (pLo 14 b) (pHi 14 b) (pEv 14 b) (pX 14 b) D K) => short17 hpw hc hS
  have e14 : ((14 : Nat) : Int) = 14 := rfl
  rw [e14] at Fi Pw Pb So
  clear e14
  have tw : textW (formAt 14) b = if clsI (formAt 14) b (pKey (formAt 14) b) = 4 then [110, 97, 110] else sgnL (pNeg (formAt 14) b) ++ wordP (clsI (formAt 14) b (pKey (formAt 14) b)) := by
    unfold textW
    rw [if_neg (show ¬ (formAt 14).kind = 1 by decide)]
  clear hE hT hP
  cases fl_is hb with
  | nan hc s t r =>
    have t1 : (FloatKind.f64.format.order b b != some .eq) = true := by
      have := ord_nan r b
      rw [show FloatKind.f64.format.order b b = none from this]; rfl
    rw [hc, if_pos rfl] at tw
    have Pr := Lib.hid (Pw.out (by rw [hc]; decide))
    rw [tw] at Pr
    clear Fi Pw Pb So S17 Sb tw r hc hpw hb
    go_enter Tryz.func5, Tryz.ntmps5
    go_wp2_with fail
    ((with_reducible refine (Wk.out _ HE.out HT.out).mono ?_); rintro r w1 ⟨rfl, g1⟩)
    have HE1 := Lib.hid (HE.out.below g1)
    have HP1 := Lib.hid (HP.out.below g1)
    have HB1 := Lib.hid g1
    clear g1 HE HT HP Wk
    go_wp2_with fail
    ((with_reducible refine (Pr.out _ HE1.out HP1.out).mono ?_); rintro r w2 ⟨rfl, g2⟩)
    have HB2 := Lib.hid (HB1.out.trans (g2.mono HB1.out.size))
    clear g2 HE1 HP1 HB1 Pr
    go_wp2_with fail
    go_ret
    exact ⟨rfl, HB2.out⟩
  | zero hc r =>
    have t1 : (FloatKind.f64.format.order b b != some .eq) = false := by
      rw [show FloatKind.f64.format.order b b = some .eq from ord_self (.inr ⟨_, _, _, r⟩)]; rfl
    have t2 : (FloatKind.f64.format.order b 0 == some .eq) = true := by
      rw [show FloatKind.f64.format.order b 0 = some .eq from ord_zero r]; rfl
    rw [hc, if_neg (by decide), show wordP 1 = [48] from rfl] at tw
    have Pr := Lib.hid (Pw.out (by rw [hc]; decide))
    rw [tw] at Pr
    obtain ⟨ng, hng⟩ : ∃ ng, ng = pNeg (formAt 14) b := ⟨_, rfl⟩
    rw [← hng] at Pr Sb
    clear Fi Pw Pb So S17 tw r hc hng hpw hb
    cases ng
    all_goals
      simp only [sgnL, Bool.false_eq_true, if_false, if_true, List.nil_append, List.cons_append] at Pr
      go_enter Tryz.func5, Tryz.ntmps5
      go_wp2_with fail
      ((with_reducible refine (Wk.out _ HE.out HT.out).mono ?_); rintro r w1 ⟨rfl, g1⟩)
      have HE1 := Lib.hid (HE.out.below g1)
      have HP1 := Lib.hid (HP.out.below g1)
      have HB1 := Lib.hid g1
      clear g1 HE HT HP Wk
      go_wp2_with fail
      ((with_reducible refine (Pr.out _ HE1.out HP1.out).mono ?_); rintro r w2 ⟨rfl, g2⟩)
      have HB2 := Lib.hid (HB1.out.trans (g2.mono HB1.out.size))
      clear g2 HE1 HP1 HB1 Pr
      go_wp2_with (go_at_call 18; refine (Sb.out _).mono ?_; rintro e w' ⟨rfl, rfl⟩)
      go_ret
      exact ⟨rfl, HB2.out⟩
  | inf hc r =>
    have t1 : (FloatKind.f64.format.order b b != some .eq) = false := by
      rw [show FloatKind.f64.format.order b b = some .eq from ord_self (.inl ⟨_, r⟩)]; rfl
    have ho : FloatKind.f64.format.order b 0 = some (if pNeg (formAt 14) b = true then .lt else .gt) := ord_sign (.inl r)
    have hnan : ∀ x, (FloatKind.f64.format.order (Question.cut (.nanBits .f64 b b) x) 0 != some .eq) = true := fun x => by
      rw [show FloatKind.f64.format.order (Question.cut (.nanBits .f64 b b) x) 0 = none from nan_cut b b x]; rfl
    have hsub := fun t W => run_sub_nan (P := Tryz.prog) t (sub_inf r) W
    rw [hc, if_neg (by decide), show wordP 3 = [105, 110, 102] from rfl] at tw
    have Pr := Lib.hid (Pw.out (by rw [hc]; decide))
    rw [tw] at Pr
    obtain ⟨ng, hng⟩ : ∃ ng, ng = pNeg (formAt 14) b := ⟨_, rfl⟩
    rw [← hng] at Pr ho
    clear Fi Pw Pb So S17 Sb tw r hc hng hpw hb
    obtain ⟨N, hN⟩ : ∃ N : Nat → Nat, N = fun x => Question.cut (.nanBits .f64 b b) x := ⟨_, rfl⟩
    have hN2 : ∀ x, Question.cut (.nanBits .f64 b b) x = N x := fun x => by rw [hN]
    simp only [hN2] at hnan hsub
    clear hN hN2
    cases ng
    all_goals
      simp only [sgnL, Bool.false_eq_true, if_false, if_true, List.nil_append, List.cons_append] at Pr
      have t2 : (FloatKind.f64.format.order b 0 == some .eq) = false := by rw [ho]; rfl
      have t3 : ∃ x, (FloatKind.f64.format.order b 0 == some .gt) = x := ⟨_, rfl⟩
      obtain ⟨x3, t3⟩ := t3
      have e3 := t3
      have t4 : ∃ x, (FloatKind.f64.format.order b 0 == some .lt) = x := ⟨_, rfl⟩
      obtain ⟨x4, t4⟩ := t4
      have e4 := t4
      rw [ho] at e3 e4
      subst e3 e4
      clear ho
      go_enter Tryz.func5, Tryz.ntmps5
      go_wp2_with fail
      ((with_reducible refine (Wk.out _ HE.out HT.out).mono ?_); rintro r w1 ⟨rfl, g1⟩)
      have HE1 := Lib.hid (HE.out.below g1)
      have HP1 := Lib.hid (HP.out.below g1)
      have HB1 := Lib.hid g1
      clear g1 HE HT HP Wk
      go_wp2_with fail
      ((with_reducible refine (Pr.out _ HE1.out HP1.out).mono ?_); rintro r w2 ⟨rfl, g2⟩)
      have HB2 := Lib.hid (HB1.out.trans (g2.mono HB1.out.size))
      clear g2 HE1 HP1 HB1 Pr
      go_wp2_with fail
      go_ret
      exact ⟨rfl, HB2.out.drew⟩
  | fin hc m i hm r =>
    have t1 : (FloatKind.f64.format.order b b != some .eq) = false := by
      rw [show FloatKind.f64.format.order b b = some .eq from ord_self (.inr ⟨_, _, _, r⟩)]; rfl
    have ho : FloatKind.f64.format.order b 0 = some (if pNeg (formAt 14) b = true then .lt else .gt) := ord_sign (.inr ⟨m, i, hm, r⟩)
    have hsub : ∀ t W, (binOp .sub t (.float .f64 b) (.float .f64 b)).run Tryz.prog W = .ok (.float .f64 0) W := fun t W => run_float_arith W .sub t .f64 b b 0 (sub_fin r)
    have t0 : (FloatKind.f64.format.order 0 0 != some .eq) = false := by
      rw [show FloatKind.f64.format.order 0 0 = some .eq from ord_zero fl_zero]; rfl
    have Pr := Lib.hid (Fi.out hc)
    have Pa := Lib.hid (Pb.out hc)
    have Sh := Lib.hid (So.out hc)
    have Sl := Lib.hid (S17.out hc)
    obtain ⟨ng, hng⟩ : ∃ ng, ng = pNeg (formAt 14) b := ⟨_, rfl⟩
    rw [← hng] at Pr Pa Sh ho
    have t2 : (FloatKind.f64.format.order b 0 == some .eq) = false := by rw [ho]; cases ng <;> rfl
    have t3 : (FloatKind.f64.format.order b 0 == some .lt) = ng := by rw [ho]; cases ng <;> rfl
    obtain ⟨pre, hpre⟩ : ∃ pre : List UInt8, pre = if ng = true then [45] else [] := ⟨_, rfl⟩
    rw [← hpre] at Pr Pa
    clear Fi Pw Pb So S17 Sb tw r hc hng hpre hpw hb ho hm HP
    go_enter Tryz.func5, Tryz.ntmps5
    go_wp2_with fail
    ((with_reducible refine (Wk.out _ HE.out HT.out).mono ?_); rintro r w1 ⟨rfl, g1⟩)
    have HE1 := Lib.hid (HE.out.below g1)
    have HT1 := Lib.hid (HT.out.below g1 (Nat.le_refl _))
    have HB1 := Lib.hid g1
    clear g1 HE HT Wk
    go_wp2_with fail
    ((with_reducible refine (Pr.out _ HE1.out HT1.out).mono ?_); rintro r w2 ⟨D, K, rfl, hS, g2⟩)
    have HE2 := Lib.hid (HE1.out.below g2)
    have HT2 := Lib.hid (HT1.out.below g2 (Nat.le_refl _))
    have HB2 := Lib.hid (HB1.out.trans (g2.mono HB1.out.size))
    have Pa2 := Lib.hid (Pa.out D K hS.out)
    obtain ⟨T, hTT⟩ : ∃ T, T = pre ++ layT D K := ⟨_, rfl⟩
    rw [← hTT] at Pa2 ⊢
    clear g2 HE1 HT1 HB1 Pr Pa hTT hS
    go_wp2_with fail
    ((with_reducible refine (Pa2.out _ HE2.out).mono ?_); rintro r w3 ⟨rfl, g3⟩)
    have HE3 := Lib.hid (HE2.out.below g3)
    have HT3 := Lib.hid (HT2.out.below g3 (Nat.le_refl _))
    have HB3 := Lib.hid (HB2.out.trans (g3.mono HB2.out.size))
    clear g3 HE2 HT2 HB2 Pa2
    go_wp2_with fail
    ((with_reducible refine (Sh.out _ HE3.out).mono ?_); rintro r w4 ⟨A, c, D2, K2, rfl, nD, hS, g4⟩)
    obtain ⟨hkb, bb⟩ := new3 w4 49 (.bool ng) (.slice A (lw D2) c) (.int .i64 K2)
    obtain ⟨wb, hwb⟩ : ∃ wb, wb = w4.alloc (.cells #[.bool ng, .slice A (lw D2) c, .int .i64 K2] 49) := ⟨_, rfl⟩
    rw [← hwb] at hkb bb
    have gb := g4.trans (bb.mono g4.size)
    have HT4 := Lib.hid (HT3.out.below gb (Nat.le_refl _))
    have HB4 := Lib.hid (HB3.out.trans (gb.mono HB3.out.size))
    have Tx := Lib.hid (text_any (.slice A (lw D2) c) D2 wb (nD.below bb) (by have := hS.out.2; omega) HT4.out)
    have hlen := Sl.out D2 K2 hS.out.1
    have t5 : decide (((textL D2).length : Int) ≤ 17) = true := by rw [decide_eq_true_eq]; omega
    have HKB := Lib.hid hkb
    obtain ⟨x0, x1, x2⟩ := rest3 hkb
    clear g4 bb gb nD hkb hS hlen Sh Sl HE3 HT3 HB3
    go_upto_region 14 with (fail)
    rw [← hwb]
    clear hwb
    go_wp2_with fail
    ((with_reducible refine (Tx.out).mono ?_); rintro r w5 ⟨rfl, g5⟩)
    have hk5 := HKB.out.below g5 HKB.out.lt
    have HB5 := Lib.hid (HB4.out.trans (g5.mono HB4.out.size))
    clear x0 x1 x2
    obtain ⟨x0, x1, x2⟩ := rest3 hk5
    clear g5 hk5
    go_wp2_with fail
    go_ret
    exact ⟨rfl, HB5.out⟩
end Go.Proofs.YtnlpkehllihllaaGreatDoor
