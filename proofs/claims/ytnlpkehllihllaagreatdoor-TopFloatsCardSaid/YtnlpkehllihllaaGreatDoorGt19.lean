/-
  A part of the proofs that calipertop.TopBack, TopFloats and TopNearest return true for every input and leave it as it was: part 19 of 47.
-/
import Derived.Test.YtnlpkehllihllaaGreatDoorGt18
import Derived.RegionTactic
/-
  The walk of round.Limits of a number that is not 0.
-/
namespace Go.Proofs.YtnlpkehllihllaaGreatDoor
open Go.RowKit Go.Sort

theorem xok_zero : XOk 0 0 0 := ⟨by rw [lw_zero]; omega, by omega, by omega, by omega, by omega⟩
/-- round.behind, said by what it is. -/
theorem behind_x (n key : Nat) (w : World) (h1 : 1 ≤ n) (h2 : n < 15) (hk : key ≤ (formAt n).most) (hE : Env w) :
    Calls Tryz.prog 54 #[.int .i64 n, U key] w fun r w' => ∃ A c m e, r = .returned (.agg #[.bool false, .slice A (lw m) c, .int .i64 e, .int .i64 0]) ∧ Num w' (.slice A (lw m) c) m ∧ Hid (XOk m e 0 ∧ ex m e 0 = BV (formAt n) key) ∧ Below w.heap.size w w' := by
  have hf := form_is h1 h2
  have hok := keyOk_btw (f := formAt n) hk
  have hM1 := oM_lt hf hok
  have hEb := oE_bd hf hok
  refine (behind_any n key w h1 h2 hk hE).mono ?_
  rintro r w' ⟨v, rfl, hN, g⟩
  have hN' := hN
  obtain ⟨A, c, rfl, _, _, _⟩ := hN'
  exact ⟨A, c, _, _, rfl, hN, Lib.hid ⟨⟨Nat.le_trans (lw_le (k := 1) hM1) (by omega), by omega, by omega, by omega, by omega⟩, o_ex hf hok⟩, g⟩
/-- A block that holds an exact number of a size. -/
def XBlk (w : World) (b : Nat) (Y : Nat) : Prop := ∃ A m c e, Blk w b 25 #[.bool false, .slice A (lw m) c, .int .i64 e, .int .i64 0] ∧ Num w (.slice A (lw m) c) m ∧ XOk m e 0 ∧ ex m e 0 = Y
theorem XBlk.lt {w : World} {b Y : Nat} (h : XBlk w b Y) : b < w.heap.size := by
  obtain ⟨A, m, c, e, h1, _⟩ := h
  exact h1.lt
theorem XBlk.below {w w' : World} {b Y : Nat} (h : XBlk w b Y) (hb : Below w.heap.size w w') : XBlk w' b Y := by
  obtain ⟨A, m, c, e, h1, h2, h3⟩ := h
  exact ⟨A, m, c, e, h1.below hb h1.lt, h2.below hb, h3⟩
theorem xblk_zero {w : World} {b : Nat} (h : Blk w b 25 #[.bool false, .slice none 0 0, .int .i64 0, .int .i64 0]) : XBlk w b 0 :=
  ⟨none, 0, 0, 0, by rw [lw_zero]; exact h, by have := num_nil w; rw [lw_zero]; exact this, xok_zero, ex_zero _ _⟩
/-- Another block that holds no words is written to. -/
theorem XBlk.off {w w' : World} {b b' Y : Nat} {t : TypeId} {cs : Array Value} (h : XBlk w b Y) (hne : b ≠ b') (hk : Blk w b' t cs) (hn : noU cs = true) (ho : Off b' w w') : XBlk w' b Y := by
  obtain ⟨A, m, c, e, h1, h2, h3⟩ := h
  exact ⟨A, m, c, e, (ho.block b hne).trans h1, h2.off hk hn ho, h3⟩

theorem zeros4 (w : World) : ∃ w2, w2 = (w.alloc (.cells #[.bool false, .slice none 0 0, .int .i64 0, .int .i64 0] 25)).alloc (.cells #[.bool false, .slice none 0 0, .int .i64 0, .int .i64 0] 25) ∧ Blk w2 w.heap.size 25 #[.bool false, .slice none 0 0, .int .i64 0, .int .i64 0] ∧ Blk w2 (w.heap.size + 1) 25 #[.bool false, .slice none 0 0, .int .i64 0, .int .i64 0] ∧ Below w.heap.size w w2 := by
  refine ⟨_, rfl, (Blk.new w _ _).alloc _, ?_, below_two w _ _⟩
  have h := Blk.new (w.alloc (.cells #[.bool false, .slice none 0 0, .int .i64 0, .int .i64 0] 25)) 25 #[.bool false, .slice none 0 0, .int .i64 0, .int .i64 0]
  simpa using h

/-- Is there a boundary behind a magnitude? -/
def highC (f : Fm) (most key : Nat) : Bool := decide (key < most ∨ (f.kind ≠ 1 ∧ ¬ (f.inf = 0 ∧ f.nan = 0)))
theorem high_cases {f : Fm} {M ky o1 : Nat} (h : o1 = 0 ↔ (f.inf = 0 ∧ f.nan = 0)) :
    (highC f M ky = true ∧ ((decide ((ky : Int) < (M : Int)) = true ∧ decide (ky < M) = true) ∨ ((decide ((ky : Int) < (M : Int)) = false ∧ decide (ky < M) = false) ∧ (f.kind != 1) = true ∧ ((o1 : Int) != 0) = true))) ∨
    (highC f M ky = false ∧ (decide ((ky : Int) < (M : Int)) = false ∧ decide (ky < M) = false) ∧ ((f.kind != 1) = false ∨ ((f.kind != 1) = true ∧ ((o1 : Int) != 0) = false))) := by
  unfold highC
  by_cases h1 : ky < M
  · left
    exact ⟨decide_eq_true (.inl h1), .inl ⟨by simp; omega, decide_eq_true h1⟩⟩
  · by_cases h2 : f.kind = 1
    · right
      exact ⟨decide_eq_false (by rintro (q | q); exact h1 q; exact q.1 h2), ⟨by simp; omega, decide_eq_false h1⟩, .inl (by simp [h2])⟩
    · by_cases h3 : o1 = 0
      · right
        exact ⟨decide_eq_false (by rintro (q | q); exact h1 q; exact q.2 (h.1 h3)), ⟨by simp; omega, decide_eq_false h1⟩, .inr ⟨by simpa using h2, by simp [h3]⟩⟩
      · left
        exact ⟨decide_eq_true (.inr ⟨h2, fun q => h3 (h.2 q)⟩), .inr ⟨⟨by simp; omega, decide_eq_false h1⟩, by simpa using h2, by simpa using h3⟩⟩

set_option maxHeartbeats 6400000 in
set_option maxRecDepth 100000 in
/-- round.Limits. -/
theorem limits_any (n p : Nat) (w : World) (h1 : 1 ≤ n) (h2 : n < 15) (hp : p < 2 ^ (formAt n).width) (hc : clsI (formAt n) p (pKey (formAt n) p) = 2) (hE : Env w) :
    Calls Tryz.prog 44 #[.int .i64 n, U p] w fun r w' => ∃ A1 m1 c1 e1 A2 m2 c2 e2, r = .returned (.tuple #[.agg #[.bool false, .slice A1 (lw m1) c1, .int .i64 e1, .int .i64 0], .agg #[.bool false, .slice A2 (lw m2) c2, .int .i64 e2, .int .i64 0], .bool (evenB (pKey (formAt n) p)), .int .i64 0]) ∧
      Num w' (.slice A1 (lw m1) c1) m1 ∧ Num w' (.slice A2 (lw m2) c2) m2 ∧ Hid (XOk m1 e1 0 ∧ XOk m2 e2 0 ∧ ex m1 e1 0 = lowB (formAt n) (pKey (formAt n) p) ∧ ex m2 e2 0 = highB (formAt n) (mostN (formAt n) (pNeg (formAt n) p)) (pKey (formAt n) p)) ∧ Below w.heap.size w w' := by
  have hf := form_is h1 h2
  have hW := form_w h1 h2
  obtain ⟨wd1, wd2⟩ := width_bd hf
  obtain ⟨q1, q2, q3, q4⟩ := cls_fin hf hp hc
  have hml := mostN_le (f := formAt n) (pNeg (formAt n) p)
  have hm63 := (most_lt hf).1
  obtain ⟨wz, hwz, hz0, hz1, hzb⟩ := zeros4 w
  have HE := Lib.hid (hE.below hzb)
  have HE0 := Lib.hid hE
  have Ke := Lib.hid (key_any n p wz h1 h2 hp hc HE.out)
  have Fo := Lib.hid fun W (hE : Env W) => fof_any n W h1 h2 hE.ft hE.ft.lt
  have Mo := Lib.hid fun W (hE : Env W) => most_any n (pNeg (formAt n) p) W h1 h2 q3 hE
  have Bh := Lib.hid fun key (hk : key ≤ (formAt n).most) W (hE : Env W) => behind_x n key W h1 h2 hk hE
  have h64 : (2 : Nat) ^ 64 = 18446744073709551616 := rfl
  have hpw : 2 ^ (formAt n).width ≤ 2 ^ 64 := Nat.pow_le_pow_right (by omega) wd2
  have hpw1 : 2 ^ ((formAt n).width - 1) ≤ 2 ^ 64 := Nat.pow_le_pow_right (by omega) (by omega)
  have hor1 := u64_or_nat (formAt n).inf (formAt n).nan (by have := hW.inf; omega) (by have := hW.nan; omega)
  have hoz := or_zero (formAt n).inf (formAt n).nan
  have hlo : lowB (formAt n) (pKey (formAt n) p) = if firstK (formAt n) ≤ pKey (formAt n) p then BV (formAt n) (pKey (formAt n) p - 1) else 0 := rfl
  have hhi : highB (formAt n) (mostN (formAt n) (pNeg (formAt n) p)) (pKey (formAt n) p) = if pKey (formAt n) p < mostN (formAt n) (pNeg (formAt n) p) ∨ ((formAt n).kind ≠ 1 ∧ ¬ ((formAt n).inf = 0 ∧ (formAt n).nan = 0)) then BV (formAt n) (pKey (formAt n) p) else 0 := rfl
  have hfk := firstK_is (formAt n)
  obtain ⟨ff, hff⟩ : ∃ ff, ff = formAt n := ⟨_, rfl⟩
  rw [← hff] at Ke Fo Mo Bh hor1 hoz hlo hhi hfk q1 q2 hml hm63 ⊢
  obtain ⟨fk, hfkk⟩ : ∃ fk, fk = firstK ff := ⟨_, rfl⟩
  rw [← hfkk] at hfk hlo
  obtain ⟨ky, hky⟩ : ∃ ky, ky = pKey ff p := ⟨_, rfl⟩
  obtain ⟨ng, hng⟩ : ∃ ng, ng = pNeg ff p := ⟨_, rfl⟩
  rw [← hky, ← hng] at Ke q1 hhi ⊢
  rw [← hky] at q2 hlo
  rw [← hng] at Mo hml
  obtain ⟨M, hM⟩ : ∃ M, M = mostN ff ng := ⟨_, rfl⟩
  rw [← hM] at Mo q1 hhi hml ⊢
  obtain ⟨lo, hlo'⟩ : ∃ lo, lo = lowB ff ky := ⟨_, rfl⟩
  obtain ⟨hi, hhi'⟩ : ∃ hi, hi = highB ff M ky := ⟨_, rfl⟩
  rw [← hlo'] at hlo ⊢
  rw [← hhi'] at hhi ⊢
  have HLO := Lib.hid hlo
  have HHI := Lib.hid hhi
  have HEV := Lib.hid (show evenB ky = decide (ky % 2 = 0) from rfl)
  obtain ⟨ev, hev⟩ : ∃ ev, ev = evenB ky := ⟨_, rfl⟩
  rw [← hev] at HEV ⊢
  have hky64 : ky < 9223372036854775808 := by omega
  have hodd := odd_word ky (by omega)
  have HOD := Lib.hid hodd
  have HKM := Lib.hid (show ky ≤ ff.most by omega)
  have HFK := Lib.hid hfk
  have HOZ := Lib.hid hoz
  have Q2 := Lib.hid q2
  have HZ0 := Lib.hid hz0
  have HZ1 := Lib.hid hz1
  have HZB := Lib.hid hzb
  obtain ⟨o1, ho1⟩ : ∃ o1, o1 = ff.inf ||| ff.nan := ⟨_, rfl⟩
  rw [← ho1] at hor1 HOZ
  clear ho1 hlo hhi hlo' hhi' hM hky hng hff hfkk hev hodd hfk hoz q1 q2 q3 q4 hml hm63 hf hW wd1 wd2 hp hc hE h64 hpw hpw1 hz0 hz1 hzb
  go_enter Tryz.func44, Tryz.ntmps44
  go_upto_region 1 with (fail)
  rw [← hwz]
  clear hwz
  go_wp2_with fail
  ((with_reducible refine (Ke.out).mono ?_); rintro r w1 ⟨rfl, g1⟩)
  have HZ01 := Lib.hid (Blk.below HZ0.out g1 HZ0.out.lt)
  have HZ11 := Lib.hid (Blk.below HZ1.out g1 HZ1.out.lt)
  have HE1 := Lib.hid (HE.out.below g1)
  have HB1 := Lib.hid (HZB.out.trans (g1.mono HZB.out.size))
  clear g1 HZ0 HZ1 HE HZB Ke
  go_wp2_with fail
  ((with_reducible refine (Fo.out _ HE1.out).mono ?_); rintro r w2 ⟨rfl, g2⟩)
  have G2 := Lib.hid (HB1.out.trans (g2.mono HB1.out.size))
  obtain ⟨wa, hwa, hka, B1, b2⟩ := alloc7 (w := w) ff w2 G2.out
  have HZ02 := Lib.hid (Blk.below (Blk.below HZ01.out g2 HZ01.out.lt) b2 (Nat.lt_of_lt_of_le HZ01.out.lt g2.size))
  have HZ12 := Lib.hid (Blk.below (Blk.below HZ11.out g2 HZ11.out.lt) b2 (Nat.lt_of_lt_of_le HZ11.out.lt g2.size))
  have HKF := Lib.hid hka
  have HE2 := Lib.hid (HE1.out.below (g2.trans (b2.mono g2.size)))
  have HB2 := Lib.hid B1
  have hlt2 : w.heap.size + 1 < w2.heap.size := Nat.lt_of_lt_of_le HZ11.out.lt g2.size
  clear g2 b2 hka B1 HZ01 HZ11 HE1 HB1 G2 Fo
  obtain ⟨j0, j1, j2, j3, j4, j5, j6⟩ := rest7 HKF.out
  go_upto_region 5 with (fail)
  rw [← hwa]
  clear hwa
  have tz : ((ky : Int) == 0) = false ∨ (((ky : Int) == 0) = true ∧ (ff.kind != 4) = false) := by
    rcases Nat.eq_zero_or_pos ky with z | z
    · right
      refine ⟨by simp [z], ?_⟩
      rcases Q2.out with q | q
      · exact absurd z q
      · simp [q]
    · left; rw [beq_eq_false_iff_ne]; omega
  go_cut [38] from 32 to 38 (fun c wz => c = .bool false ∧ Hid (wz = wa))
  case first =>
    rcases tz with t1 | ⟨t1, t2⟩
    all_goals
      go_wp2_with fail
      go_meet
      exact ⟨rfl, Lib.hid rfl⟩
  case rest =>
    obtain ⟨rfl, hwc⟩ := hcut
    obtain rfl := hwc.out
    clear tz hwc j0 j1 j2 j3 j4 j5 j6
    go_wp2_with fail
    ((with_reducible refine (Mo.out _ HE2.out).mono ?_); rintro r w3 ⟨rfl, g3⟩)
    have HX0 := Lib.hid (show XBlk w3 w.heap.size 0 from (xblk_zero HZ02.out).below g3)
    have HX1 := Lib.hid (show XBlk w3 (w.heap.size + 1) 0 from (xblk_zero HZ12.out).below g3)
    have HKF3 := Lib.hid (Blk.below HKF.out g3 HKF.out.lt)
    have HE3 := Lib.hid (HE2.out.below g3)
    have HB3 := Lib.hid (HB2.out.trans (g3.mono HB2.out.size))
    clear g3 HZ02 HZ12 HKF HE2 HB2 Mo
    obtain ⟨j0, j1, j2, j3, j4, j5, j6⟩ := rest7 HKF3.out
    go_upto_if 49 with (fail)
    go_cut [14] from 47 to 49 (fun x wz => x = U fk ∧ Hid (wz = w3))
    case first =>
      rcases HFK.out with ⟨q1, q2⟩ | ⟨q1, q2⟩
      · have t1 : (ff.kind == 1) = true := by simpa using q1
        have Q := Lib.hid q2
        clear q1 q2
        go_wp2_with fail
        go_meet
        exact ⟨by rw [Q.out]; rfl, Lib.hid rfl⟩
      · have t1 : (ff.kind == 1) = false := by simpa using q1
        have Q := Lib.hid q2
        clear q1 q2
        go_wp2_with fail
        go_meet
        exact ⟨by rw [Q.out]; rfl, Lib.hid rfl⟩
    case rest =>
      obtain ⟨rfl, hwc⟩ := hcut
      obtain rfl := hwc.out
      obtain ⟨wq, rfl⟩ : ∃ wq, wq = wc := ⟨_, rfl⟩
      clear hwc
      obtain ⟨gb, hgb⟩ : ∃ gb, gb = decide (fk ≤ ky) := ⟨_, rfl⟩
      have tg : decide ((fk : Int) ≤ (ky : Int)) = gb := by rw [hgb]; simp
      have tg2 : decide (fk ≤ ky) = gb := hgb.symm
      have HG := Lib.hid hgb
      clear hgb
      go_upto_if 52 with (fail)
      go_cut [14] from 50 to 56 (fun x wz => x = U fk ∧ Hid (XBlk wz w.heap.size lo ∧ XBlk wz (w.heap.size + 1) 0 ∧ Blk wz w2.heap.size 55 #[.int .i64 ff.kind, .int .i64 ff.width, .int .i64 ff.man, .int .i64 ff.bias, U ff.top, U ff.inf, U ff.nan] ∧ Env wz ∧ Below w.heap.size w wz))
      case first =>
        clear tg tg2
        cases gb
        · have hge : ¬ fk ≤ ky := by have := HG.out; exact of_decide_eq_false this.symm
          have HL := Lib.hid (show lo = 0 by rw [HLO.out, if_neg hge])
          clear hge
          go_wp2_with fail
          have HR := Lib.hid (show XBlk wq w.heap.size lo ∧ XBlk wq (w.heap.size + 1) 0 ∧ Blk wq w2.heap.size 55 #[.int .i64 ff.kind, .int .i64 ff.width, .int .i64 ff.man, .int .i64 ff.bias, U ff.top, U ff.inf, U ff.nan] ∧ Env wq ∧ Below w.heap.size w wq from
            ⟨by rw [HL.out]; exact HX0.out, HX1.out, HKF3.out, HE3.out, HB3.out⟩)
          go_meet
          exact ⟨rfl, HR⟩
        · have hge : fk ≤ ky := by have := HG.out; exact of_decide_eq_true this.symm
          have HL := Lib.hid (show lo = BV ff (ky - 1) by rw [HLO.out, if_pos hge])
          obtain ⟨kp, hkp⟩ : ∃ kp, kp = ky - 1 := ⟨_, rfl⟩
          have e1 : (ky : Int) - 1 = (kp : Int) := by have := HFK.out; omega
          have e2 : IntKind.u64.wrap (kp : Int) = (kp : Int) := by rw [IntKind.wrap_u64]; omega
          have hkm : kp ≤ ff.most := by have := HKM.out; omega
          rw [← hkp] at HL
          clear hge hkp
          go_wp2_with fail
          ((with_reducible refine (Bh.out kp hkm _ HE3.out).mono ?_); rintro r w4 ⟨A4, c4, m4, e4, rfl, n4, x4, g4⟩)
          obtain ⟨A0, m0, c0, e0, hb0, hn0, hx0⟩ := HX0.out.below g4
          have HB0 := Lib.hid hb0
          have HX14 := Lib.hid (HX1.out.below g4)
          have HKF4 := Lib.hid (Blk.below HKF3.out g4 HKF3.out.lt)
          have HB4 := Lib.hid (HB3.out.trans (g4.mono HB3.out.size))
          have HN4 := Lib.hid n4
          obtain ⟨k0, k1, k2, k3⟩ := rest4 hb0
          have q0 : ∀ o, w4.frozen? ⟨w.heap.size, o, none⟩ = false := fun o => Blk.frozen hb0 o
          clear g4 hb0 hn0 hx0 n4 j0 j1 j2 j3 j4 j5 j6
          go_wp2_with fail
          obtain ⟨w5, hw5, hk5, hb5, ho5⟩ := stored4 HB0.out (Nat.le_refl _) HB4.out (.bool false) (.slice A4 (lw m4) c4) (.int .i64 e4) (.int .i64 0)
          rw [hw5]
          have HR := Lib.hid (show XBlk w5 w.heap.size lo ∧ XBlk w5 (w.heap.size + 1) 0 ∧ Blk w5 w2.heap.size 55 #[.int .i64 ff.kind, .int .i64 ff.width, .int .i64 ff.man, .int .i64 ff.bias, U ff.top, U ff.inf, U ff.nan] ∧ Env w5 ∧ Below w.heap.size w w5 from
            ⟨⟨A4, m4, c4, e4, hk5, HN4.out.off HB0.out (by simp [noU]) ho5, x4.out.1, by rw [HL.out]; exact x4.out.2⟩, HX14.out.off (by omega) HB0.out (by simp [noU]) ho5, (ho5.block w2.heap.size (by omega)).trans HKF4.out, HE0.out.below hb5, hb5⟩)
          clear hk5 ho5 hw5
          go_meet
          exact ⟨rfl, HR⟩
      case rest =>
        obtain ⟨rfl, hwc⟩ := hcut
        obtain ⟨wd, rfl⟩ : ∃ wd, wd = wc := ⟨_, rfl⟩
        clear j0 j1 j2 j3 j4 j5 j6 HX0 HX1 HKF3 HE3 HB3 HLO HFK tg tg2 HG
        have HX0 := Lib.hid hwc.out.1
        have HX1 := Lib.hid hwc.out.2.1
        have HKF := Lib.hid hwc.out.2.2.1
        have HE3 := Lib.hid hwc.out.2.2.2.1
        have HB3 := Lib.hid hwc.out.2.2.2.2
        clear hwc
        obtain ⟨j0, j1, j2, j3, j4, j5, j6⟩ := rest7 HKF.out
        obtain ⟨hc, hhc⟩ : ∃ hc, hc = highC ff M ky := ⟨_, rfl⟩
        have HHC := Lib.hid hhc
        clear hhc
        go_upto_region 13 with (fail)
        go_cut [72] from 57 to 72 (fun x wz => x = .bool hc ∧ Hid (wz = wd))
        case first =>
          have hor : (highC ff M ky = true ∧ ((decide ((ky : Int) < (M : Int)) = true ∧ decide (ky < M) = true) ∨ ((decide ((ky : Int) < (M : Int)) = false ∧ decide (ky < M) = false) ∧ (ff.kind != 1) = true ∧ ((o1 : Int) != 0) = true))) ∨
              (highC ff M ky = false ∧ (decide ((ky : Int) < (M : Int)) = false ∧ decide (ky < M) = false) ∧ ((ff.kind != 1) = false ∨ ((ff.kind != 1) = true ∧ ((o1 : Int) != 0) = false))) := high_cases HOZ.out
          rw [← HHC.out] at hor
          rcases hor with ⟨rfl, ⟨t1, t1'⟩ | ⟨⟨t1, t1'⟩, t2, t3⟩⟩ | ⟨rfl, ⟨t1, t1'⟩, t2 | ⟨t2, t3⟩⟩
          all_goals
            go_wp2_with fail
            go_meet
            exact ⟨rfl, Lib.hid rfl⟩
        case rest =>
          obtain ⟨rfl, hwc⟩ := hcut
          obtain rfl := hwc.out
          obtain ⟨wr, rfl⟩ : ∃ wr, wr = wc := ⟨_, rfl⟩
          clear hwc j0 j1 j2 j3 j4 j5 j6
          go_upto_if 72 with (fail)
          go_cut [14] from 73 to 75 (fun x wz => x = U fk ∧ Hid (XBlk wz w.heap.size lo ∧ XBlk wz (w.heap.size + 1) hi ∧ Below w.heap.size w wz))
          case first =>
            cases hc
            · have hge : ¬ (ky < M ∨ (ff.kind ≠ 1 ∧ ¬ (ff.inf = 0 ∧ ff.nan = 0))) := by have := HHC.out; unfold highC at this; exact of_decide_eq_false this.symm
              have HL := Lib.hid (show hi = 0 by rw [HHI.out, if_neg hge])
              clear hge
              go_wp2_with fail
              have HR := Lib.hid (show XBlk wr w.heap.size lo ∧ XBlk wr (w.heap.size + 1) hi ∧ Below w.heap.size w wr from
                ⟨HX0.out, by rw [HL.out]; exact HX1.out, HB3.out⟩)
              go_meet
              exact ⟨rfl, HR⟩
            · have hge : (ky < M ∨ (ff.kind ≠ 1 ∧ ¬ (ff.inf = 0 ∧ ff.nan = 0))) := by have := HHC.out; unfold highC at this; exact of_decide_eq_true this.symm
              have HL := Lib.hid (show hi = BV ff ky by rw [HHI.out, if_pos hge])
              clear hge
              have hkm := HKM.out
              go_wp2_with fail
              ((with_reducible refine (Bh.out ky hkm _ HE3.out).mono ?_); rintro r w4 ⟨A4, c4, m4, e4, rfl, n4, x4, g4⟩)
              obtain ⟨A0, m0, c0, e0, hb0, hn0, hx0⟩ := HX1.out.below g4
              have HB0 := Lib.hid hb0
              have HX04 := Lib.hid (HX0.out.below g4)
              have HB4 := Lib.hid (HB3.out.trans (g4.mono HB3.out.size))
              have HN4 := Lib.hid n4
              obtain ⟨k0, k1, k2, k3⟩ := rest4 hb0
              have q0 : ∀ o, w4.frozen? ⟨w.heap.size + 1, o, none⟩ = false := fun o => Blk.frozen hb0 o
              clear g4 hb0 hn0 hx0 n4
              go_wp2_with fail
              obtain ⟨w5, hw5, hk5, hb5, ho5⟩ := stored4 HB0.out (Nat.le_succ _) HB4.out (.bool false) (.slice A4 (lw m4) c4) (.int .i64 e4) (.int .i64 0)
              rw [hw5]
              have HR := Lib.hid (show XBlk w5 w.heap.size lo ∧ XBlk w5 (w.heap.size + 1) hi ∧ Below w.heap.size w w5 from
                ⟨HX04.out.off (by omega) HB0.out (by simp [noU]) ho5, ⟨A4, m4, c4, e4, hk5, HN4.out.off HB0.out (by simp [noU]) ho5, x4.out.1, by rw [HL.out]; exact x4.out.2⟩, hb5⟩)
              clear hk5 ho5 hw5
              go_meet
              exact ⟨rfl, HR⟩
          case rest =>
            obtain ⟨rfl, hwc⟩ := hcut
            clear HX0 HX1 HB3 HHC HHI HE3 HKF
            obtain ⟨ws, rfl⟩ : ∃ ws, ws = wc := ⟨_, rfl⟩
            obtain ⟨⟨A1, m1, c1, e1, hb1, hn1, hx1⟩, ⟨A2, m2, c2, e2, hb2, hn2, hx2⟩, hbb⟩ := hwc.out
            clear hwc
            have HB1 := Lib.hid hb1
            have HB2' := Lib.hid hb2
            have HN1 := Lib.hid hn1
            have HN2 := Lib.hid hn2
            have HX := Lib.hid (And.intro hx1 hx2)
            have HBB := Lib.hid hbb
            obtain ⟨k0, k1, k2, k3⟩ := rest4 hb1
            obtain ⟨j0, j1, j2, j3⟩ := rest4 hb2
            have q0 : ∀ o, ws.frozen? ⟨w.heap.size, o, none⟩ = false := fun o => Blk.frozen hb1 o
            have q1 : ∀ o, ws.frozen? ⟨w.heap.size + 1, o, none⟩ = false := fun o => Blk.frozen hb2 o
            clear hb1 hb2 hn1 hn2 hx1 hx2 hbb
            have hev : (bits .and .u64 (ky : Int) 1 == 0) = ev := by
              rw [HEV.out, HOD.out]
              by_cases z : ky % 2 = 0
              · rw [z, decide_eq_true rfl]; rfl
              · rw [decide_eq_false z, beq_eq_false_iff_ne]; omega
            clear hor1 Bh hlt2 hky64
            go_upto_region 15 with (fail)
            go_region
            obtain ⟨w5, hw5, hk5, hb5, ho5⟩ := stored4 HB1.out (Nat.le_refl _) HBB.out (.bool false) (.slice A1 (lw m1) c1) (.int .i64 e1) (.int .i64 0)
            have hk25 : Blk w5 (w.heap.size + 1) 25 #[.bool false, .slice A2 (lw m2) c2, .int .i64 e2, .int .i64 0] := (ho5.block (w.heap.size + 1) (by omega)).trans HB2'.out
            have hn15 := HN1.out.off HB1.out (by simp [noU]) ho5
            have hn25 := HN2.out.off HB1.out (by simp [noU]) ho5
            obtain ⟨w6, hw6, hk6, hb6, ho6⟩ := stored4 hk25 (Nat.le_succ _) hb5 (.bool false) (.slice A2 (lw m2) c2) (.int .i64 e2) (.int .i64 0)
            have hk16 : Blk w6 w.heap.size 25 #[.bool false, .slice A1 (lw m1) c1, .int .i64 e1, .int .i64 0] := (ho6.block w.heap.size (by omega)).trans hk5
            have hn16 := hn15.off hk25 (by simp [noU]) ho6
            have hn26 := hn25.off hk25 (by simp [noU]) ho6
            rw [hw5, hw6]
            have HF := Lib.hid (show Num w6 (.slice A1 (lw m1) c1) m1 ∧ Num w6 (.slice A2 (lw m2) c2) m2 ∧ Below w.heap.size w w6 from ⟨hn16, hn26, hb6⟩)
            clear k0 k1 k2 k3 j0 j1 j2 j3 q0 q1 hw5 hw6 hn15 hn25 hn16 hn26 ho5 ho6 hb5 hb6 hk25 hk5
            obtain ⟨r0, r1, r2, r3⟩ := rest4 hk16
            obtain ⟨s0, s1, s2, s3⟩ := rest4 hk6
            go_wp2_with fail
            exact bodyPost_ret (v := .tuple #[.agg #[.bool false, .slice A1 (lw m1) c1, .int .i64 e1, .int .i64 0], .agg #[.bool false, .slice A2 (lw m2) c2, .int .i64 e2, .int .i64 0], .bool ev, .int .i64 0]) (by simp [results, Tryz.results44, go_sem, r0, r1, r2, r3, s0, s1, s2, s3]) rfl
              ⟨A1, m1, c1, e1, A2, m2, c2, e2, rfl, HF.out.1.drew, HF.out.2.1.drew, Lib.hid ⟨HX.out.1.1, HX.out.2.1, HX.out.1.2, HX.out.2.2⟩, HF.out.2.2.drew⟩
end Go.Proofs.YtnlpkehllihllaaGreatDoor

/-
  Plain law: what is rounded to a pattern lies in its interval.
-/
namespace Go.Proofs.YtnlpkehllihllaaGreatDoor
open Go.RowKit Go.Sort

theorem patN_inj {f : Fm} (hf : FmIs f) {g : Bool} {a b : Nat} (ha : a ≤ mostN f g) (hb : b ≤ mostN f g) (h : patN f g a = patN f g b) : a = b := by
  have hm := most_width hf g
  unfold patN at h
  split at h
  · exact h
  · split at h
    · omega
    · rcases Nat.eq_zero_or_pos a with qa | qa
      · rcases Nat.eq_zero_or_pos b with qb | qb
        · omega
        · rw [qa, Nat.sub_zero, Nat.mod_self, Nat.mod_eq_of_lt (by omega)] at h
          omega
      · rcases Nat.eq_zero_or_pos b with qb | qb
        · rw [qb, Nat.sub_zero, Nat.mod_self, Nat.mod_eq_of_lt (by omega)] at h
          omega
        · rw [Nat.mod_eq_of_lt (by omega), Nat.mod_eq_of_lt (by omega)] at h
          omega
/-- What is told for what is too large is no number, or the greatest one. -/
theorem large_cls {f : Fm} (hf : FmIs f) (hW : FmW f) {g : Bool} {p : Nat} (hp : p < 2 ^ f.width) (hc : clsI f p (pKey f p) = 2) (hg : g = pNeg f p) (h : largeN f 2 g = p) : (f.kind = 1 ∨ (f.inf = 0 ∧ f.nan = 0)) ∧ pKey f p = mostN f g := by
  obtain ⟨q1, q2, q3, q4⟩ := cls_fin hf hp hc
  rw [← hg] at q1 q3 q4
  unfold largeN at h
  by_cases c1 : f.kind = 1 ∨ (f.inf = 0 ∧ f.nan = 0)
  · rw [if_pos (.inr c1)] at h
    exact ⟨c1, patN_inj hf q1 (Nat.le_refl _) (q4.trans h.symm)⟩
  · exfalso
    rw [if_neg (by rintro (q | q); cases q; exact c1 q)] at h
    have hN : pNeg f p = decide (f.kind ≠ 4 ∧ 2 ^ (f.width - 1) ≤ p) := rfl
    have hK : pKey f p = if pNeg f p = false then p else if f.kind = 2 then p - 2 ^ (f.width - 1) else 2 ^ f.width - p := rfl
    by_cases c2 : f.inf = 0
    · rw [if_pos c2] at h
      have hn0 : f.nan ≠ 0 := fun q => c1 (.inr ⟨c2, q⟩)
      have h4 : clsI f p (pKey f p) = 4 := by
        unfold clsI
        rw [if_neg (fun q => q.2.2 c2), if_pos]
        by_cases k2 : f.kind = 2
        · left
          refine ⟨k2, ?_⟩
          have h1 := hW.nan2 k2
          have h2 := hW.nanTop
          have hf : pNeg f p = false := by rw [hN]; exact decide_eq_false (by omega)
          rw [hK, if_pos hf]
          omega
        · exact .inr ⟨k2, hn0, h.symm⟩
      rw [h4] at hc; cases hc
    · rw [if_neg c2] at h
      have k2 : f.kind = 2 := by have := hW.inf2; omega
      have hi := hW.inf
      have hkey : pKey f p = f.inf := by
        cases g with
        | false =>
          rw [if_neg (by decide)] at h
          rw [hK, if_pos hg.symm]
          exact h.symm
        | true =>
          rw [if_pos rfl] at h
          have hs : f.sign = 2 ^ (f.width - 1) := by unfold Fm.sign; rw [if_neg (by omega)]
          have ho : f.inf ||| 2 ^ (f.width - 1) = f.inf + 2 ^ (f.width - 1) := by
            have := Nat.two_pow_add_eq_or_of_lt hi 1
            rw [Nat.mul_one] at this
            rw [Nat.or_comm, ← this, Nat.add_comm]
          rw [hs, ho] at h
          rw [hK, if_neg (by rw [← hg]; decide), if_pos k2]
          omega
      have h3 : clsI f p (pKey f p) = 3 := by
        unfold clsI
        exact if_pos ⟨k2, hkey, c2⟩
      rw [h3] at hc; cases hc
/-- A size outside the interval of a pattern is not rounded to it. -/
theorem round_not {f : Fm} (hf : FmIs f) (hW : FmW f) {p q Y : Nat} (hp : p < 2 ^ f.width) (hc : clsI f p (pKey f p) = 2) (hY : 0 < Y)
    (hI : inI (lowB f (pKey f p)) (highB f (mostN f (pNeg f p)) (pKey f p)) Y (evenB (pKey f p)) = false) (hr : RoundIs f 2 (pNeg f p) Y q) : q ≠ p := by
  intro hqp
  obtain ⟨q1, q2, q3, q4⟩ := cls_fin hf hp hc
  have hm := mostN_ge hf (pNeg f p)
  have hml := mostN_le (f := f) (pNeg f p)
  rcases hr with ⟨r1, r2, r3⟩ | ⟨r1, k, over, hn, r2⟩
  · have h4 : clsI f p (pKey f p) = 4 := by
      unfold clsI
      rw [if_neg (by omega), if_pos]
      refine .inr ⟨by omega, ?_, by omega⟩
      cases hf with
      | posit h w1 w2 t n i => omega
      | signed h w1 w2 m b1 b2 t e t3 e2 => omega
      | turned h w m t n i => omega
      | scale h w b t n i => omega
    rw [h4] at hc; cases hc
  · rcases hn with ⟨rfl, n2, n3⟩ | ⟨rfl, n2, k0, n3, n4⟩
    · rw [if_pos rfl, hqp] at r2
      obtain ⟨s1, s2⟩ := large_cls hf hW hp hc rfl r2.symm
      rw [s2, large_in hf hml (by omega) n3 s1 hY] at hI
      cases hI
    · rw [if_neg (by decide), hqp] at r2
      have hk : k ≤ mostN f (pNeg f p) := near_le (by omega) (.inr ⟨rfl, n2, k0, n3, n4⟩)
      have e := patN_inj hf q1 hk (q4.trans r2)
      rw [e, n4, srch_in hf hml (by omega) n3 hY] at hI
      cases hI
end Go.Proofs.YtnlpkehllihllaaGreatDoor
