/-
  A part of the proofs that calipertop.TopBack, TopFloats and TopNearest return true for every input and leave it as it was: part 29 of 47.
-/
import Derived.Test.YtnlpkehllihllaaGreatDoorGt26
import Derived.Test.YtnlpkehllihllaaGreatDoorGt20
import Derived.Test.YtnlpkehllihllaaGreatDoorGt05
import Derived.Test.YtnlpkehllihllaaGreatDoorGt28
import Derived.Test.YtnlpkehllihllaaGreatDoorGt27
import Derived.Test.YtnlpkehllihllaaGreatDoorGt25
/-
  The walk of short.interval.nearer.
-/
namespace Go.Proofs.YtnlpkehllihllaaGreatDoor
open Go.RowKit Go.Sort

set_option maxHeartbeats 1600000 in
set_option maxRecDepth 100000 in
/-- nat.Even. -/
theorem even_any (va : Value) (x : Nat) (w : World) (ha : Num w va x) : Calls Tryz.prog 78 #[va] w fun r w' => ∃ b, r = .returned (.bool b) ∧ Below w.heap.size w w' := by
  have Bi := Lib.hid (bit_any va x 0 w ha (by omega) (by omega))
  clear ha
  go_enter Tryz.func78, Tryz.ntmps78
  go_wp2_with fail
  refine (Bi.out).mono ?_
  rintro r w1 ⟨rfl, rfl⟩
  go_wp2_with fail
  go_ret
  exact ⟨_, rfl, Below.refl _ _⟩

theorem flR_zero {X T : Nat} : (0 < flR X T) ↔ X % T ≠ 0 := by
  unfold flR cmpI
  split
  · next h => simp [h]
  · next h =>
    refine ⟨fun _ => h, fun _ => ?_⟩
    split
    · omega
    · split <;> omega
theorem flR_rng (X T : Nat) : 0 ≤ flR X T ∧ flR X T ≤ 3 := by
  unfold flR cmpI
  split
  · omega
  · split
    · omega
    · split <;> omega

/-- What nearer gives. -/
def NearPost (lo hi : Nat) (ev : Bool) (X T : Nat) (w : World) (r : Ending) (w' : World) : Prop :=
  ∃ A c d ok, r = .returned (.tuple #[.slice A (lw d) c, .bool ok]) ∧ Num w' (.slice A (lw d) c) d ∧ Hid (NearR lo hi ev X T d ok) ∧ Below w.heap.size w w'

set_option maxHeartbeats 6400000 in
set_option maxRecDepth 100000 in
/-- short.interval.nearer. -/
theorem nearer_any (vl : Value) (nl : Nat) (tl : Int) (vh : Value) (nh : Nat) (th : Int) (ev : Bool) (vn : Value) (x : Nat) (t k : Int) (w : World) (hI : Iv w vl nl tl vh nh th) (hN : Num w vn x) (hx : lw x ≤ 128) (t1 : -2500 ≤ t) (t2 : t ≤ 2500) (k1 : -500 ≤ k) (k2 : k ≤ 500) (hd : ex x t 0 / TT k < 10 ^ 22) :
    Calls Tryz.prog 46 #[.agg (ivc vl tl vh th ev), .agg #[.bool false, vn, .int .i64 t, .int .i64 0], .int .i64 k] w fun r w' => NearPost (ex nl tl 0) (ex nh th 0) ev (ex x t 0) (TT k) w r w' := by
  have hFl : ex x t 0 / TT k = ex x t 0 / ex 1 k k := rfl
  have Fl := Lib.hid fun W (h : Num W vn x) => floor_any false vn x t 0 k W h (by omega) t1 t2 (by omega) (by omega) (by omega) (by omega)
  rw [show ex 1 k k = TT k from rfl] at Fl
  obtain ⟨D, hD⟩ : ∃ D, D = ex x t 0 / TT k := ⟨_, rfl⟩
  rw [← hD] at Fl hd
  have hl1 : lw D ≤ 2 := lw_le (Nat.lt_trans hd (by decide))
  have hl2 : lw (D + 1) ≤ 2 := lw_le (Nat.lt_of_le_of_lt (show D + 1 ≤ 10 ^ 22 by omega) (by decide))
  have Te1 := Lib.hid fun (va : Value) W (h : Num W va D) => ten_any va D k W h (by omega) (by omega) (by omega)
  have Te2 := Lib.hid fun (va : Value) W (h : Num W va (D + 1)) => ten_any va (D + 1) k W h (by omega) (by omega) (by omega)
  have Ad := Lib.hid fun (va vb : Value) W (ha : Num W va D) (hb : Num W vb 1) => add_any va vb D 1 W ha hb (by have : lw 1 ≤ 1 := lw_le (by decide); omega)
  have Ha1 := Lib.hid fun (va : Value) W (hI : Iv W vl nl tl vh nh th) (h : Num W va D) => has_any vl nl tl vh nh th ev false va D k k W hI h ⟨by omega, by omega, by omega, by omega, by omega⟩
  have Ha2 := Lib.hid fun (va : Value) W (hI : Iv W vl nl tl vh nh th) (h : Num W va (D + 1)) => has_any vl nl tl vh nh th ev false va (D + 1) k k W hI h ⟨by omega, by omega, by omega, by omega, by omega⟩
  rw [ex_TT] at Ha1 Ha2
  have HR0 := Lib.hid (flR_zero (X := ex x t 0) (T := TT k))
  have hR3 := flR_rng (ex x t 0) (TT k)
  obtain ⟨lo, hlo⟩ : ∃ lo, lo = ex nl tl 0 := ⟨_, rfl⟩
  obtain ⟨hi, hhi⟩ : ∃ hi, hi = ex nh th 0 := ⟨_, rfl⟩
  rw [← hlo, ← hhi] at Ha1 Ha2
  rw [← hlo, ← hhi]
  obtain ⟨F, hF⟩ : ∃ F, F = flR (ex x t 0) (TT k) := ⟨_, rfl⟩
  rw [← hF] at Fl HR0 hR3
  have hone : oneB lo hi ev (ex x t 0) (TT k) = inI lo hi (D * TT k) ev := by rw [hD]; rfl
  have htwo : twoB lo hi ev (ex x t 0) (TT k) = (decide (0 < F) && inI lo hi ((D + 1) * TT k) ev) := by rw [hD]; unfold twoB; rw [decide_eq_decide.2 HR0.out.symm]
  obtain ⟨a1, ha1⟩ : ∃ a1, a1 = inI lo hi (D * TT k) ev := ⟨_, rfl⟩
  obtain ⟨a2, ha2⟩ : ∃ a2, a2 = inI lo hi ((D + 1) * TT k) ev := ⟨_, rfl⟩
  rw [← ha1] at Ha1 hone
  rw [← ha2] at Ha2 htwo
  have NRo := Lib.hid fun (ok : Bool) (d : Nat) hd => nearR_of (ok := ok) (d := d) hone.symm htwo.symm hd
  rw [← hD] at NRo
  obtain ⟨wz, hwz, hz0, hz1, hzb⟩ := two_blks w 95 25 (ivc vl tl vh th ev) #[.bool false, vn, .int .i64 t, .int .i64 0]
  obtain ⟨Ix1, Ix2, Ix3, Ix4⟩ := id hI
  obtain ⟨Al, cl, rfl, _, _, _⟩ := Ix1
  obtain ⟨Ah, ch, rfl, _, _, _⟩ := Ix2
  have HI := Lib.hid (hI.below hzb)
  have HN := Lib.hid (hN.below hzb)
  have HZ0 := Lib.hid hz0
  have HZ1 := Lib.hid hz1
  have HZB := Lib.hid hzb
  obtain ⟨f1, f2⟩ := hR3
  clear hlo hhi hF hD hone htwo ha1 ha2 hz0 hz1 hzb hI hN hFl Ix3 Ix4 hd HR0 hx t1 t2
  obtain ⟨X, hX⟩ : ∃ X, X = ex x t 0 := ⟨_, rfl⟩
  obtain ⟨T, hT⟩ : ∃ T, T = TT k := ⟨_, rfl⟩
  rw [← hX, ← hT] at NRo
  rw [← hX, ← hT]
  clear hX hT
  obtain ⟨k0, k1', k2', k3, k4, k5, k6, k7, k8⟩ := rest9 HZ0.out
  obtain ⟨j0, j1, j2, j3⟩ := rest4 HZ1.out
  go_enter Tryz.func46, Tryz.ntmps46
  go_upto_region 1 with (fail)
  rw [← hwz]
  clear hwz
  go_wp2_with fail
  ((with_reducible refine (Fl.out _ HN.out).mono ?_); rintro r w1 ⟨vd, rfl, n1, g1⟩)
  have ND := Lib.hid n1
  have HZ01 := Lib.hid (Blk.below HZ0.out g1 HZ0.out.lt)
  have HI1 := Lib.hid (HI.out.below g1)
  have HB1 := Lib.hid (HZB.out.trans (g1.mono HZB.out.size))
  clear n1 g1 HZ0 HZ1 HI HN HZB k0 k1' k2' k3 k4 k5 k6 k7 k8 j0 j1 j2 j3
  go_wp2_with fail
  refine (of_any 1 _ (by omega)).mono ?_
  rintro r w2 ⟨v1, rfl, n2, g2⟩
  have N1 := Lib.hid n2
  have ND2 := Lib.hid (ND.out.below g2)
  have HZ02 := Lib.hid (Blk.below HZ01.out g2 HZ01.out.lt)
  have HI2 := Lib.hid (HI1.out.below g2)
  have HB2 := Lib.hid (HB1.out.trans (g2.mono HB1.out.size))
  clear n2 g2 HZ01 HI1 HB1 ND
  go_wp2_with fail
  ((with_reducible refine (Ad.out _ _ _ ND2.out N1.out).mono ?_); rintro r w3 ⟨vm, rfl, n3, g3⟩)
  have NM := Lib.hid n3
  have ND3 := Lib.hid (ND2.out.below g3)
  have HZ03 := Lib.hid (Blk.below HZ02.out g3 HZ02.out.lt)
  have HI3 := Lib.hid (HI2.out.below g3)
  have HB3 := Lib.hid (HB2.out.trans (g3.mono HB2.out.size))
  clear n3 g3 HZ02 HI2 HB2 ND2 N1
  obtain ⟨wx, rfl⟩ : ∃ wx, wx = w3 := ⟨_, rfl⟩
  obtain ⟨Ad, cd, rfl, _, _, _⟩ := id ND3.out
  obtain ⟨Am, cm, rfl, _, _, _⟩ := id NM.out
  have Ev := Lib.hid fun (va : Value) W (h : Num W va D) => even_any va D W h
  obtain ⟨k0, k1', k2', k3, k4, k5, k6, k7, k8⟩ := rest9 HZ03.out
  have hlt3 := HZ03.out.lt
  have hgo : (0 < F) ∨ ¬ (0 < F) := by omega
  rcases hgo with hF0 | hF0
  · have tF : decide (0 < F) = true := by simpa using hF0
    have e2 : (decide (0 < F) && a2) = a2 := by rw [tF]; rfl
    rw [e2] at NRo
    clear e2 hF0
    go_upto_region 3 with (fail)
    go_region_held3 (fun w' => w'.cell? ⟨w.heap.size, 0, none⟩ = some (.bool false) ∧ w'.cell? ⟨w.heap.size, 1, none⟩ = some (.slice Al (lw nl) cl) ∧ w'.cell? ⟨w.heap.size, 2, none⟩ = some (.int .i64 tl) ∧ w'.cell? ⟨w.heap.size, 3, none⟩ = some (.int .i64 0) ∧
        w'.cell? ⟨w.heap.size, 4, none⟩ = some (.bool false) ∧ w'.cell? ⟨w.heap.size, 5, none⟩ = some (.slice Ah (lw nh) ch) ∧ w'.cell? ⟨w.heap.size, 6, none⟩ = some (.int .i64 th) ∧ w'.cell? ⟨w.heap.size, 7, none⟩ = some (.int .i64 0) ∧ w'.cell? ⟨w.heap.size, 8, none⟩ = some (.bool ev))
      (first
        | go_keep
        | (go_split_ands
           refine ⟨?_, ?_, ?_, ?_, ?_, ?_, ?_, ?_, ?_⟩ <;> (rw [gg.cell (World.block_lt_of_cell? _ _ (by assumption))]; assumption)))
      ((first
        | (go_at_call 77; (with_reducible refine (Te1.out _ _ (by exact ND3.out.drew)).mono ?_); rintro r ws ⟨u1, rfl, m1, gg⟩; have ga := gg)
        | (go_at_call 76; (with_reducible refine (Ha1.out _ _ (by exact HI3.out.drew.below ga) (by exact m1)).mono ?_); rintro r ws ⟨rfl, gg⟩; have gb := gg)
        | (go_at_call 77; (with_reducible refine (Te2.out _ _ (by exact (NM.out.drew.below ga).below gb)).mono ?_); rintro r ws ⟨u2, rfl, m2, gg⟩; have gc := gg)
        | (go_at_call 76; (with_reducible refine (Ha2.out _ _ (by exact ((HI3.out.drew.below ga).below gb).below gc) (by exact m2)).mono ?_); rintro r ws ⟨rfl, gg⟩; have gd := gg)))
    have g4 := ga.trans (gb.mono ga.size)
    have g5 := g4.trans (gc.mono g4.size)
    have g6 := g5.trans (gd.mono g5.size)
    have B4 := Lib.hid (HB3.out.trans ((below_of_drew g6).mono HB3.out.size))
    have NDx := Lib.hid (ND3.out.drew.below g6)
    have NMx := Lib.hid (NM.out.drew.below g6)
    clear ga gb gc gd gg g4 g5 g6 m1 m2 k0 k1' k2' k3 k4 k5 k6 k7 k8 Te1 Te2 Ha1 Ha2 HZ03 HI3 HB3 ND3 NM
    cases a1
    · cases a2
      · go_wp2_with fail
        exact bodyPost_ret (v := .tuple #[.slice Ad (lw (D)) cd, .bool false]) (by simp [results, Tryz.results46, go_sem]) rfl ⟨Ad, cd, D, false, rfl, NDx.out, Lib.hid (NRo.out false (D) (by simp)), B4.out⟩
      · go_wp2_with fail
        exact bodyPost_ret (v := .tuple #[.slice Am (lw (D + 1)) cm, .bool true]) (by simp [results, Tryz.results46, go_sem]) rfl ⟨Am, cm, D + 1, true, rfl, NMx.out, Lib.hid (NRo.out true (D + 1) (by simp)), B4.out⟩
    · cases a2
      · go_wp2_with fail
        exact bodyPost_ret (v := .tuple #[.slice Ad (lw (D)) cd, .bool true]) (by simp [results, Tryz.results46, go_sem]) rfl ⟨Ad, cd, D, true, rfl, NDx.out, Lib.hid (NRo.out true (D) (by simp)), B4.out⟩
      · have hF3 : F = 1 ∨ F = 2 ∨ F = 3 := by have := of_decide_eq_true tF; omega
        clear tF f1 f2
        rcases hF3 with rfl | rfl | rfl
        · go_wp2_with fail
          exact bodyPost_ret (v := .tuple #[.slice Ad (lw (D)) cd, .bool true]) (by simp [results, Tryz.results46, go_sem]) rfl ⟨Ad, cd, D, true, rfl, NDx.out, Lib.hid (NRo.out true (D) (by simp)), B4.out⟩
        · go_wp2_with fail
          ((with_reducible refine (Ev.out _ _ NDx.out).mono ?_); rintro r w8 ⟨bb, rfl, g8⟩)
          cases bb
          · go_wp2_with fail
            exact bodyPost_ret (v := .tuple #[.slice Am (lw (D + 1)) cm, .bool true]) (by simp [results, Tryz.results46, go_sem]) rfl ⟨Am, cm, D + 1, true, rfl, NMx.out.below g8, Lib.hid (NRo.out true (D + 1) (by simp)), B4.out.trans (g8.mono B4.out.size)⟩
          · go_wp2_with fail
            exact bodyPost_ret (v := .tuple #[.slice Ad (lw (D)) cd, .bool true]) (by simp [results, Tryz.results46, go_sem]) rfl ⟨Ad, cd, D, true, rfl, NDx.out.below g8, Lib.hid (NRo.out true (D) (by simp)), B4.out.trans (g8.mono B4.out.size)⟩
        · go_wp2_with fail
          exact bodyPost_ret (v := .tuple #[.slice Am (lw (D + 1)) cm, .bool true]) (by simp [results, Tryz.results46, go_sem]) rfl ⟨Am, cm, D + 1, true, rfl, NMx.out, Lib.hid (NRo.out true (D + 1) (by simp)), B4.out⟩
  · obtain rfl : F = 0 := by omega
    have e2 : (decide ((0 : Int) < 0) && a2) = false := rfl
    rw [e2] at NRo
    clear e2 hF0 f1 f2
    go_upto_region 3 with (fail)
    go_cut [11, 12] from 22 to 35 (fun p q wz => p = .bool a1 ∧ q = .bool false ∧ Hid (Below wx.heap.size wx wz))
    case first =>
      have HZ03d := Lib.hid (show Blk wx.drew w.heap.size 95 (ivc (.slice Al (lw nl) cl) tl (.slice Ah (lw nh) ch) th ev) from HZ03.out)
      first
      | (go_region_with ((first
        | (go_at_call 77; (with_reducible refine (Te1.out _ _ (by first | exact ND3.out | exact ND3.out.drew)).mono ?_); rintro r ws ⟨u1, rfl, m1, gg⟩; have ga := gg; obtain ⟨k0, k1', k2', k3, k4, k5, k6, k7, k8⟩ := rest9 (Blk.below HZ03d.out gg HZ03d.out.lt))
        | (go_at_call 76; (with_reducible refine (Ha1.out _ _ (by first | exact HI3.out.drew.below ga | exact HI3.out.below ga) (by exact m1)).mono ?_); rintro r ws ⟨rfl, gg⟩; have gb := gg))))
      | fail
      all_goals
        have B := Lib.hid (below_of_drew (ga.trans (gb.mono ga.size)))
        clear ga gb k0 k1' k2' k3 k4 k5 k6 k7 k8 m1
        go_wp2_with fail
        go_meet
        exact ⟨rfl, rfl, B⟩
    case rest =>
      obtain ⟨rfl, rfl, hwc⟩ := hcut
      have B4 := Lib.hid (HB3.out.trans (hwc.out.mono HB3.out.size))
      have NDx := Lib.hid (ND3.out.below hwc.out)
      clear hwc k0 k1' k2' k3 k4 k5 k6 k7 k8 Te1 Te2 Ha1 Ha2 HZ03 HI3 HB3 ND3 NM
      cases a1
      · go_wp2_with fail
        exact bodyPost_ret (v := .tuple #[.slice Ad (lw (D)) cd, .bool false]) (by simp [results, Tryz.results46, go_sem]) rfl ⟨Ad, cd, D, false, rfl, NDx.out, Lib.hid (NRo.out false (D) (by simp)), B4.out⟩
      · go_wp2_with fail
        exact bodyPost_ret (v := .tuple #[.slice Ad (lw (D)) cd, .bool true]) (by simp [results, Tryz.results46, go_sem]) rfl ⟨Ad, cd, D, true, rfl, NDx.out, Lib.hid (NRo.out true (D) (by simp)), B4.out⟩
end Go.Proofs.YtnlpkehllihllaaGreatDoor

/-
  The walk of short.Short of what is Finite.
-/
namespace Go.Proofs.YtnlpkehllihllaaGreatDoor
open Go.RowKit Go.Sort

/-- Nine cells of one block written, one behind the other. -/
theorem stored9 {w w2 : World} {B b : Nat} {t : TypeId} {x0 x1 x2 x3 x4 x5 x6 x7 x8 : Value} (hk : Blk w2 b t #[x0, x1, x2, x3, x4, x5, x6, x7, x8]) (hB : B ≤ b) (hb : Below B w w2) (a0 a1 a2 a3 a4 a5 a6 a7 a8 : Value) :
    ∃ w4, ((((((((w2.setCell ⟨b, 0, none⟩ a0).setCell ⟨b, 1, none⟩ a1).setCell ⟨b, 2, none⟩ a2).setCell ⟨b, 3, none⟩ a3).setCell ⟨b, 4, none⟩ a4).setCell ⟨b, 5, none⟩ a5).setCell ⟨b, 6, none⟩ a6).setCell ⟨b, 7, none⟩ a7).setCell ⟨b, 8, none⟩ a8 = w4 ∧ Blk w4 b t #[a0, a1, a2, a3, a4, a5, a6, a7, a8] ∧ Below B w w4 ∧ Off b w2 w4 := by
  refine ⟨_, rfl, ?_, ((((((((hb.setCell hB _).setCell hB _).setCell hB _).setCell hB _).setCell hB _).setCell hB _).setCell hB _).setCell hB _).setCell hB _, (((((((((Off.refl b w2).set_ 0 a0).set_ 1 a1).set_ 2 a2).set_ 3 a3).set_ 4 a4).set_ 5 a5).set_ 6 a6).set_ 7 a7).set_ 8 a8⟩
  have h := ((((((((hk.set_ 0 a0).set_ 1 a1).set_ 2 a2).set_ 3 a3).set_ 4 a4).set_ 5 a5).set_ 6 a6).set_ 7 a7).set_ 8 a8
  simpa using h

theorem seeks_small {lo hi X : Nat} {ev : Bool} {L k : Int} (hL : IsLg X L) (h : Seeks lo hi ev X L k) : X / TT k < 10 ^ 22 := by
  have h1 : X < TT (L + 1) := hL.2.1
  have h2 := hL.2.2.1
  have hb := h.bot
  have ht := h.top
  obtain ⟨m, hm⟩ : ∃ m : Nat, L + 1 = k + m := ⟨(L + 1 - k).toNat, by omega⟩
  rw [hm, TT_add _ (by omega)] at h1
  have h3 : X / TT k < 10 ^ m := by rw [Nat.div_lt_iff_lt_mul (TT_pos k), Nat.mul_comm]; exact h1
  have h4 : 10 ^ m ≤ 10 ^ 22 := Nat.pow_le_pow_right (by omega) (by omega)
  omega
theorem found_small {lo hi X d : Nat} {ev : Bool} {L k : Int} (hL : IsLg X L) (h : Found lo hi ev X L k d) : d ≠ 0 ∧ d < 10 ^ 22 ∧ lw d ≤ 128 := by
  obtain ⟨a, b⟩ := found_le hL h
  have hb := h.bot
  have h4 : 10 ^ (L + 1 - k).toNat ≤ 10 ^ 21 := Nat.pow_le_pow_right (by omega) (by omega)
  have h5 : d < 10 ^ 22 := by omega
  exact ⟨by omega, h5, Nat.le_trans (lw_le (k := 2) (Nat.lt_trans h5 (by decide))) (by omega)⟩

set_option maxHeartbeats 6400000 in
set_option maxRecDepth 100000 in
/-- short.Short. -/
theorem short_pat (n p : Nat) (w : World) (h1 : 1 ≤ n) (h2 : n < 15) (hp : p < 2 ^ (formAt n).width) (hc : clsI (formAt n) p (pKey (formAt n) p) = 2) (hE : Env w) :
    Calls Tryz.prog 19 #[.int .i64 n, U p] w fun r w' => ∃ A c D K, r = .returned (.tuple #[.agg #[.bool (pNeg (formAt n) p), .slice A (lw D) c, .int .i64 K], .int .i64 0]) ∧ Num w' (.slice A (lw D) c) D ∧ Hid (ShortIs (pLo n p) (pHi n p) (pEv n p) (pX n p) D K ∧ lw D ≤ 128) ∧ Below w.heap.size w w' := by
  have hpn := pnum h1 h2 hp hc
  have hX := holds_p h1 h2 hp hc
  obtain ⟨hk0, hb0⟩ := new3 w 49 (.bool false) (.slice none 0 0) (.int .i64 0)
  have HE0 := Lib.hid (hE.below hb0)
  obtain ⟨w0, hw0⟩ : ∃ w0, w0 = w.alloc (.cells #[.bool false, .slice none 0 0, .int .i64 0] 49) := ⟨_, rfl⟩
  rw [← hw0] at hk0 hb0 HE0
  have Fi := Lib.hid (finite_any n p w0 h1 h2 hp hc HE0.out)
  have Li := Lib.hid fun W (hE : Env W) => limits_any n p W h1 h2 hp hc hE
  have Lg := Lib.hid fun (vn : Value) W (h : Num W vn (pMan n p)) => log10_any false vn (pMan n p) (pExp n p) W h hpn.pos hpn.lt (by have := hpn.e1; omega) (by have := hpn.e2; omega)
  have hlM : lw (pMan n p) ≤ 1 := lw_le (k := 1) hpn.lt
  have Nr := Lib.hid fun (vl : Value) (nl : Nat) (tl : Int) (vh : Value) (nh : Nat) (th : Int) (ev : Bool) (vn : Value) (k : Int) W (hI : Iv W vl nl tl vh nh th) (hN : Num W vn (pMan n p)) (k1 : -500 ≤ k) (k2 : k ≤ 500) (hd : ex (pMan n p) (pExp n p) 0 / TT k < 10 ^ 22) =>
    nearer_any vl nl tl vh nh th ev vn (pMan n p) (pExp n p) k W hI hN (by omega) (by have := hpn.e1; omega) (by have := hpn.e2; omega) k1 k2 hd
  have Dg := Lib.hid fun (ng : Bool) (vn : Value) (d : Nat) (k : Int) W (h : Num W vn d) (h1 : lw d ≤ 128) (h2 : d ≠ 0) (h3 : d < 10 ^ 22) (k1 : -5000 ≤ k) (k2 : k ≤ 5000) => digits_any ng vn d k 22 W h h1 h2 h3 (by omega) k1 k2
  rw [hpn.is] at Lg Nr
  rw [show evenB (pKey (formAt n) p) = pEv n p from rfl, show lowB (formAt n) (pKey (formAt n) p) = pLo n p from rfl, show highB (formAt n) (mostN (formAt n) (pNeg (formAt n) p)) (pKey (formAt n) p) = pHi n p from rfl] at Li
  obtain ⟨M, hM⟩ : ∃ M, M = pMan n p := ⟨_, rfl⟩
  obtain ⟨E, hEE⟩ : ∃ E, E = pExp n p := ⟨_, rfl⟩
  obtain ⟨ng, hng⟩ : ∃ ng, ng = pNeg (formAt n) p := ⟨_, rfl⟩
  obtain ⟨lo, hlo⟩ : ∃ lo, lo = pLo n p := ⟨_, rfl⟩
  obtain ⟨hi, hhi⟩ : ∃ hi, hi = pHi n p := ⟨_, rfl⟩
  obtain ⟨ev, hev⟩ : ∃ ev, ev = pEv n p := ⟨_, rfl⟩
  obtain ⟨X, hXX⟩ : ∃ X, X = pX n p := ⟨_, rfl⟩
  rw [← hM, ← hEE, ← hng] at Fi
  rw [← hM, ← hEE, ← hXX] at Lg Nr
  rw [← hlo, ← hhi, ← hev] at Li
  rw [← hlo, ← hhi, ← hXX] at hX
  rw [← hlo, ← hhi, ← hev, ← hXX, ← hng]
  have HX := Lib.hid hX
  have HK0 := Lib.hid hk0
  have HB0 := Lib.hid hb0
  have HEw := Lib.hid hE
  clear hM hEE hng hlo hhi hev hXX hpn hX hk0 hb0 hE hc hp hlM
  go_enter Tryz.func19, Tryz.ntmps19
  go_upto_region 1 with (fail)
  rw [← hw0]
  clear hw0
  go_wp2_with fail
  ((with_reducible refine (Fi.out).mono ?_); rintro r w1 ⟨A1, c1, rfl, n1, g1⟩)
  obtain ⟨wz, hwz, hz0, hz1, hzb⟩ := two_blks w1 91 25 #[.int .i64 2, .bool ng, U M, .int .i64 E] #[.bool false, .slice A1 (lw M) c1, .int .i64 E, .int .i64 0]
  have HKR := Lib.hid (Blk.below (Blk.below HK0.out g1 HK0.out.lt) hzb (Nat.lt_of_lt_of_le HK0.out.lt g1.size))
  have HZ0 := Lib.hid hz0
  have HZ1 := Lib.hid hz1
  have HB1 := Lib.hid (HB0.out.trans ((g1.trans (hzb.mono g1.size)).mono HB0.out.size))
  have HE1 := Lib.hid (HE0.out.below (g1.trans (hzb.mono g1.size)))
  have HN1 := Lib.hid (n1.below hzb)
  have hlw : w.heap.size < w1.heap.size := Nat.lt_of_lt_of_le HK0.out.lt g1.size
  clear n1 g1 hz0 hz1 hzb HK0 HB0 HE0 Fi
  go_upto_region 2 with (fail)
  rw [← hwz]
  clear hwz
  go_upto_region 5 with (fail)
  obtain ⟨wy, hwy⟩ : ∃ wy, wy = wz.alloc (.cells #[.bool false, .slice none 0 0, .int .i64 0, .int .i64 0, .bool false, .slice none 0 0, .int .i64 0, .int .i64 0, .bool false] 95) := ⟨_, rfl⟩
  have hy0 : Blk wy wz.heap.size 95 #[.bool false, .slice none 0 0, .int .i64 0, .int .i64 0, .bool false, .slice none 0 0, .int .i64 0, .int .i64 0, .bool false] := by rw [hwy]; exact Blk.new wz _ _
  have hyb : Below wz.heap.size wz wy := by rw [hwy]; exact (Below.refl _ _).alloc (Nat.le_refl _) _
  rw [← hwy]
  clear hwy
  have HKR2 := Lib.hid (Blk.below HKR.out hyb HKR.out.lt)
  have HZ02 := Lib.hid (Blk.below HZ0.out hyb HZ0.out.lt)
  have HZ12 := Lib.hid (Blk.below HZ1.out hyb HZ1.out.lt)
  have HB2 := Lib.hid (HB1.out.trans (hyb.mono HB1.out.size))
  have HE2 := Lib.hid (HE1.out.below hyb)
  have HN2 := Lib.hid (HN1.out.below hyb)
  have HY := Lib.hid hy0
  have hlz : w1.heap.size + 1 < wz.heap.size := HZ1.out.lt
  clear hy0 hyb HKR HZ0 HZ1 HB1 HE1 HN1
  go_wp2_with fail
  ((with_reducible refine (Li.out _ HE2.out).mono ?_); rintro r w2 ⟨Aa, m1, ca, e1, Ab, m2, cb, e2, rfl, na, nb, hx, g2⟩)
  have HKR3 := Lib.hid (Blk.below HKR2.out g2 HKR2.out.lt)
  have HZ03 := Lib.hid (Blk.below HZ02.out g2 HZ02.out.lt)
  have HZ13 := Lib.hid (Blk.below HZ12.out g2 HZ12.out.lt)
  have HY3 := Lib.hid (Blk.below HY.out g2 HY.out.lt)
  have HB3 := Lib.hid (HB2.out.trans (g2.mono HB2.out.size))
  have HN3 := Lib.hid (HN2.out.below g2)
  have NA := Lib.hid na
  have NB := Lib.hid nb
  clear na nb g2 HKR2 HZ02 HZ12 HY HB2 HE2 HN2
  obtain ⟨k0, k1, k2, k3, k4, k5, k6, k7, k8⟩ := rest9 HY3.out
  have q0 : ∀ o, w2.frozen? ⟨wz.heap.size, o, none⟩ = false := fun o => Blk.frozen HY3.out o
  go_upto_region 6 with (fail)
  obtain ⟨w4, hw4, hk4, hb4, ho4⟩ := stored9 HY3.out (show w.heap.size ≤ wz.heap.size by omega) HB3.out (.bool false) (.slice Aa (lw m1) ca) (.int .i64 e1) (.int .i64 0) (.bool false) (.slice Ab (lw m2) cb) (.int .i64 e2) (.int .i64 0) (.bool ev)
  rw [hw4]
  have HI4 := Lib.hid (show Iv w4 (.slice Aa (lw m1) ca) m1 e1 (.slice Ab (lw m2) cb) m2 e2 from ⟨NA.out.off HY3.out (by simp [noU]) ho4, NB.out.off HY3.out (by simp [noU]) ho4, hx.out.1, hx.out.2.1⟩)
  have HN4 := Lib.hid (HN3.out.off HY3.out (by simp [noU]) ho4)
  have HKR4 := Lib.hid (show Blk w4 w.heap.size 49 #[.bool false, .slice none 0 0, .int .i64 0] from (ho4.block w.heap.size (by omega)).trans HKR3.out)
  have HZ04 := Lib.hid (show Blk w4 w1.heap.size 91 #[.int .i64 2, .bool ng, U M, .int .i64 E] from (ho4.block w1.heap.size (by omega)).trans HZ03.out)
  have HZ14 := Lib.hid (show Blk w4 (w1.heap.size + 1) 25 #[.bool false, .slice A1 (lw M) c1, .int .i64 E, .int .i64 0] from (ho4.block (w1.heap.size + 1) (by omega)).trans HZ13.out)
  have HY4 := Lib.hid hk4
  have HB4 := Lib.hid hb4
  have nr2 := Nr.out (.slice Aa (lw m1) ca) m1 e1 (.slice Ab (lw m2) cb) m2 e2 ev (.slice A1 (lw M) c1)
  rw [hx.out.2.2.1, hx.out.2.2.2] at nr2
  have Nr2 := Lib.hid nr2
  clear hw4 hk4 hb4 ho4 k0 k1 k2 k3 k4 k5 k6 k7 k8 q0 HKR3 HZ03 HZ13 HY3 HB3 HN3 NA NB nr2 Nr hx Li
  obtain ⟨j0, j1, j2, j3⟩ := rest4 HZ14.out
  go_wp2_with fail
  ((with_reducible refine (Lg.out _ _ HN4.out).mono ?_); rintro r w5 ⟨L, rfl, hL, g5⟩)
  have HI5 := Lib.hid (HI4.out.below g5)
  have HN5 := Lib.hid (HN4.out.below g5)
  have HKR5 := Lib.hid (Blk.below HKR4.out g5 HKR4.out.lt)
  have HZ05 := Lib.hid (Blk.below HZ04.out g5 HZ04.out.lt)
  have HZ15 := Lib.hid (Blk.below HZ14.out g5 HZ14.out.lt)
  have HY5 := Lib.hid (Blk.below HY4.out g5 HY4.out.lt)
  have HB5 := Lib.hid (HB4.out.trans (g5.mono HB4.out.size))
  have L1 := hL.out.2.2.1
  have L2 := hL.out.2.2.2
  clear g5 j0 j1 j2 j3 HI4 HN4 HKR4 HZ04 HZ14 HY4 HB4 Lg
  go_wp2_with fail
  go_loopw [10] (fun k wr => ∃ kk : Int, k = .int .i64 kk ∧ -460 ≤ kk ∧ kk ≤ 421 ∧ Hid (Seeks lo hi ev X L kk) ∧ Hid (Below w5.heap.size w5 wr)) (fun k _ => (intOf k + 500).toNat)
  case atStart => exact ⟨L, rfl, by omega, by omega, Lib.hid seeks_first, Lib.hid (Below.refl _ _)⟩
  case round =>
    obtain ⟨kk, rfl, b1, b2, hS, hbe⟩ := hrel
    have HIr := Lib.hid (HI5.out.below hbe.out)
    have HNr := Lib.hid (HN5.out.below hbe.out)
    have HZ0r := Lib.hid (Blk.below HZ05.out hbe.out HZ05.out.lt)
    have HZ1r := Lib.hid (Blk.below HZ15.out hbe.out HZ15.out.lt)
    have HYr := Lib.hid (Blk.below HY5.out hbe.out HY5.out.lt)
    obtain ⟨k0, k1, k2, k3, k4, k5, k6, k7, k8⟩ := rest9 HYr.out
    obtain ⟨j0, j1, j2, j3⟩ := rest4 HZ1r.out
    have hsm := Lib.hid (seeks_small hL.out hS.out)
    go_wp2_with fail
    ((with_reducible refine (Nr2.out kk _ HIr.out HNr.out (by omega) (by omega) hsm.out).mono ?_); rintro r w6 ⟨Ad, cd, d, ok, rfl, nd, hn, g6⟩)
    have HND := Lib.hid nd
    have HZ06 := Lib.hid (Blk.below HZ0r.out g6 HZ0r.out.lt)
    have HB6 := Lib.hid (hbe.out.trans (g6.mono hbe.out.size))
    clear nd g6 k0 k1 k2 k3 k4 k5 k6 k7 k8 j0 j1 j2 j3 hsm HIr HNr HZ0r HZ1r HYr
    cases ok
    · have hnx := Lib.hid (seeks_next HX.out hL.out hS.out hn.out)
      have hk20 := hnx.out.1
      go_wp2_with fail
      go_roundw
      case rel => exact ⟨kk - 1, rfl, by omega, by omega, Lib.hid hnx.out.2, HB6⟩
      case measure => simp [intOf]; omega
    · have HFd := Lib.hid (seeks_found hS.out hn.out)
      have HSm := Lib.hid (found_small hL.out HFd.out)
      obtain ⟨k0, k1, k2, k3⟩ := rest4 HZ06.out
      clear hn
      go_wp2_with fail
      ((with_reducible refine (Dg.out _ _ _ _ _ HND.out HSm.out.2.2 HSm.out.1 HSm.out.2.1 (by omega) (by omega)).mono ?_); rintro r w7 ⟨A, c, D, j, rfl, nD, hD, g7⟩)
      have HB7 := Lib.hid (HB6.out.trans (g7.mono HB6.out.size))
      have HK7 := Lib.hid (Blk.below HKR5.out HB7.out HKR5.out.lt)
      have HBw := Lib.hid (HB5.out.trans (HB7.out.mono HB5.out.size))
      have hDd : D ≤ d := by
        rw [← hD.out.1]
        exact Nat.le_mul_of_pos_right _ (Nat.pow_pos (by omega))
      have HDl := Lib.hid (Nat.le_trans (lw_mono hDd) HSm.out.2.2)
      have HJ := Lib.hid hD.out.2.2
      have hj22 := hD.out.2.2
      obtain ⟨x0, x1, x2⟩ := rest3 HK7.out
      have q0 : ∀ o, w7.frozen? ⟨w.heap.size, o, none⟩ = false := fun o => Blk.frozen HK7.out o
      clear g7 k0 k1 k2 k3 hDd
      go_wp2_with fail
      obtain ⟨w8, hw8, hk8, hb8, ho8⟩ := stored3 HK7.out (Nat.le_refl _) HBw.out (.bool ng) (.slice A (lw D) c) (.int .i64 (kk + (j : Nat)))
      have hn8 := nD.off HK7.out (by simp [noU]) ho8
      obtain ⟨r0, r1, r2⟩ := rest3 hk8
      rw [hw8]
      exact bodyPost_ret (v := .tuple #[.agg #[.bool ng, .slice A (lw D) c, .int .i64 (kk + (j : Nat))], .int .i64 0]) (by simp [results, Tryz.results19, go_sem, r0, r1, r2]) rfl
        ⟨A, c, D, kk + (j : Nat), rfl, hn8, Lib.hid ⟨⟨L, kk, d, j, hL.out, HFd.out, hD.out.1, hD.out.2.1, rfl⟩, HDl.out⟩, hb8⟩
end Go.Proofs.YtnlpkehllihllaaGreatDoor

/-
  The walks of print.told and print.Print, of what is Finite.
-/
namespace Go.Proofs.YtnlpkehllihllaaGreatDoor
open Go.RowKit Go.Sort

set_option maxHeartbeats 3200000 in
set_option maxRecDepth 100000 in
/-- print.told of shortest digits. -/
theorem told_fin (n p : Nat) (w : World) (h1 : 1 ≤ n) (h2 : n < 15) (hp : p < 2 ^ (formAt n).width) (hc : clsI (formAt n) p (pKey (formAt n) p) = 2) (hE : Env w) (hT : Tab w) :
    Calls Tryz.prog 34 #[.int .i64 n, U p, .func (.func 19) #[] #[]] w fun r w' => ∃ D K, r = .returned (.tuple #[S ((if pNeg (formAt n) p = true then [45] else []) ++ layT D K), .int .i64 0]) ∧ Hid (ShortIs (pLo n p) (pHi n p) (pEv n p) (pX n p) D K) ∧ Below w.heap.size w w' := by
  obtain ⟨d1, d2, d3⟩ := dec_is hc
  have De := Lib.hid fun W (hE : Env W) => decode_any n p W h1 h2 hp hE
  rw [hc, d1, d2, d3] at De
  have So := Lib.hid fun W (hE : Env W) => short_pat n p W h1 h2 hp hc hE
  have SI := Lib.hid fun (D : Nat) (K : Int) (h : ShortIs (pLo n p) (pHi n p) (pEv n p) (pX n p) D K) => short_in h1 h2 hp hc h
  have HE := Lib.hid hE
  have HT := Lib.hid hT
  obtain ⟨M, hM⟩ : ∃ M, M = pMan n p := ⟨_, rfl⟩
  obtain ⟨E, hEE⟩ : ∃ E, E = pExp n p := ⟨_, rfl⟩
  obtain ⟨ng, hng⟩ : ∃ ng, ng = pNeg (formAt n) p := ⟨_, rfl⟩
  rw [← hM, ← hEE, ← hng] at De
  rw [← hng] at So ⊢
  have La := Lib.hid fun (A : Option Addr) (c D : Nat) (K : Int) W (h : Num W (.slice A (lw D) c) D) (hD : D % 10 ≠ 0) (hb : D < 10 ^ 22) (k1 : -500 ≤ K) (k2 : K ≤ 500) (hT : Tab W) => lay_any ng A c D K W h hD hb k1 k2 hT
  obtain ⟨pre, hpre⟩ : ∃ pre : List UInt8, pre = if ng = true then [45] else [] := ⟨_, rfl⟩
  rw [← hpre] at La ⊢
  clear hM hEE hng hpre hE hT hp hc d1 d2 d3
  go_enter Tryz.func34, Tryz.ntmps34
  go_wp2_with fail
  ((with_reducible refine (De.out _ HE.out).mono ?_); rintro r w1 ⟨rfl, g1⟩)
  obtain ⟨hka, ba⟩ := new4 w1 91 (.int .i64 2) (.bool ng) (U M) (.int .i64 E)
  obtain ⟨wa, hwa⟩ : ∃ wa, wa = w1.alloc (.cells #[.int .i64 2, .bool ng, U M, .int .i64 E] 91) := ⟨_, rfl⟩
  rw [← hwa] at hka ba
  have ga := g1.trans (ba.mono g1.size)
  have HE1 := Lib.hid (HE.out.below ga)
  have HT1 := Lib.hid (HT.out.below ga (Nat.le_refl _))
  have HB1 := Lib.hid ga
  obtain ⟨k0, k1, k2, k3⟩ := rest4 hka
  clear g1 ba ga hka HE HT De
  go_upto_region 2 with (fail)
  rw [← hwa]
  clear hwa
  go_wp2_with fail
  ((with_reducible refine (So.out _ HE1.out).mono ?_); rintro r w2 ⟨A, c, D, K, rfl, nD, hS, g2⟩)
  obtain ⟨hkb, bb⟩ := new3 w2 49 (.bool ng) (.slice A (lw D) c) (.int .i64 K)
  obtain ⟨wb, hwb⟩ : ∃ wb, wb = w2.alloc (.cells #[.bool ng, .slice A (lw D) c, .int .i64 K] 49) := ⟨_, rfl⟩
  rw [← hwb] at hkb bb
  have gb := g2.trans (bb.mono g2.size)
  have HT2 := Lib.hid (HT1.out.below gb (Nat.le_refl _))
  have HB2 := Lib.hid (HB1.out.trans (gb.mono HB1.out.size))
  have ND := Lib.hid (nD.below bb)
  obtain ⟨q1, q2, q3, q4, q5, q6⟩ := SI.out D K hS.out.1
  have La2 := Lib.hid (La.out A c D K wb ND.out q2 q3 q4 q5 HT2.out)
  obtain ⟨T, hTT⟩ : ∃ T, T = pre ++ layT D K := ⟨_, rfl⟩
  rw [← hTT] at La2
  have HTT := Lib.hid hTT
  have HS := Lib.hid hS.out.1
  obtain ⟨x0, x1, x2⟩ := rest3 hkb
  clear g2 bb gb nD hkb hS q1 q2 q3 q4 q5 q6 hTT La So SI HE1 HT1 HB1 k0 k1 k2 k3
  go_upto_region 6 with (fail)
  rw [← hwb]
  clear hwb
  go_wp2_with fail
  ((with_reducible refine La2.out.mono ?_); rintro r w3 ⟨rfl, g3⟩)
  have HB3 := Lib.hid (HB2.out.trans (g3.mono HB2.out.size))
  clear g3
  go_wp2_with fail
  exact bodyPost_ret (v := .tuple #[S T, .int .i64 0]) (by simp [results, Tryz.results34, go_sem]) rfl ⟨D, K, by rw [HTT.out], HS, HB3.out⟩

set_option maxRecDepth 100000 in
/-- print.Print of what is Finite. -/
theorem print_fin (n p : Nat) (w : World) (h1 : 1 ≤ n) (h2 : n < 15) (hp : p < 2 ^ (formAt n).width) (hc : clsI (formAt n) p (pKey (formAt n) p) = 2) (hE : Env w) (hT : Tab w) :
    Calls Tryz.prog 14 #[.int .i64 n, U p] w fun r w' => ∃ D K, r = .returned (.tuple #[S ((if pNeg (formAt n) p = true then [45] else []) ++ layT D K), .int .i64 0]) ∧ Hid (ShortIs (pLo n p) (pHi n p) (pEv n p) (pX n p) D K) ∧ Below w.heap.size w w' := by
  have To := Lib.hid (told_fin n p w h1 h2 hp hc hE hT)
  obtain ⟨pre, hpre⟩ : ∃ pre : List UInt8, pre = if pNeg (formAt n) p = true then [45] else [] := ⟨_, rfl⟩
  rw [← hpre] at To ⊢
  clear hpre hE hT hp hc
  go_enter Tryz.func14, Tryz.ntmps14
  go_wp2_with fail
  ((with_reducible refine To.out.mono ?_); rintro r w1 ⟨D, K, rfl, hS, g1⟩)
  obtain ⟨T, hTT⟩ : ∃ T, T = pre ++ layT D K := ⟨_, rfl⟩
  have G := Lib.hid g1
  have HTT := Lib.hid hTT
  rw [← hTT]
  clear g1 hTT To
  go_wp2_with fail
  exact bodyPost_ret (v := .tuple #[S T, .int .i64 0]) (by simp [results, Tryz.results14, go_sem]) rfl ⟨D, K, by rw [HTT.out], hS, G.out⟩
end Go.Proofs.YtnlpkehllihllaaGreatDoor

/-
  The walks of print.Print of what is not Finite, and of what may not be.
-/
namespace Go.Proofs.YtnlpkehllihllaaGreatDoor
open Go.RowKit Go.Sort

/-- The map of words is laid. -/
def PTab (w : World) : Prop := ∃ (bm : Nat) (es : Array MapEntry) (clock : Nat), w.cell? ⟨3, 0, none⟩ = some (.map (some bm)) ∧ w.heap[bm]? = some (.map es clock) ∧
  ∀ (W : World) (k : Int), W.heap[bm]? = some (.map es clock) → (k = 1 ∨ k = 3 ∨ k = 4) → (Instr.lookup 118 (.map (some bm)) (.int .i64 k) false).run Tryz.prog W = .ok (S (wordP k)) W
theorem PTab.below {w w' : World} (h : PTab w) (hb : Below w.heap.size w w') : PTab w' := by
  obtain ⟨bm, es, clock, h1, h2, h3⟩ := h
  have hbm : bm < w.heap.size := by
    rcases Nat.lt_or_ge bm w.heap.size with q | q
    · exact q
    · rw [Array.getElem?_eq_none q] at h2; cases h2
  exact ⟨bm, es, clock, (hb.cell (p := ⟨3, 0, none⟩) (World.block_lt_of_cell? _ _ h1)).trans h1, (hb.block bm hbm).trans h2, h3⟩
theorem run_words (w : World) (h : PTab w) : ∃ bm, ∀ W, Below w.heap.size w W → W.cell? ⟨3, 0, none⟩ = some (.map (some bm)) ∧ ∀ k, k = 1 ∨ k = 3 ∨ k = 4 → (Instr.lookup 118 (.map (some bm)) (.int .i64 k) false).run Tryz.prog W = .ok (S (wordP k)) W := by
  obtain ⟨bm, es, clock, h1, h2, h3⟩ := h
  have hbm : bm < w.heap.size := by
    rcases Nat.lt_or_ge bm w.heap.size with q | q
    · exact q
    · rw [Array.getElem?_eq_none q] at h2; cases h2
  exact ⟨bm, fun W hb => ⟨(hb.cell (p := ⟨3, 0, none⟩) (World.block_lt_of_cell? _ _ h1)).trans h1, fun k hk => h3 W k ((hb.block bm hbm).trans h2) hk⟩⟩

/-- What is printed of a pattern that is not Finite. -/
def textW (f : Fm) (p : Nat) : List UInt8 := if clsI f p (pKey f p) = 4 then (if f.kind = 1 then [78, 97, 82] else [110, 97, 110]) else sgnL (pNeg f p) ++ wordP (clsI f p (pKey f p))

set_option maxHeartbeats 3200000 in
set_option maxRecDepth 100000 in
/-- print.told of what is not Finite. -/
theorem told_word (n p : Nat) (w : World) (h1 : 1 ≤ n) (h2 : n < 15) (hp : p < 2 ^ (formAt n).width) (hc : clsI (formAt n) p (pKey (formAt n) p) ≠ 2) (hE : Env w) (hP : PTab w) :
    Calls Tryz.prog 34 #[.int .i64 n, U p, .func (.func 19) #[] #[]] w fun r w' => r = .returned (.tuple #[S (textW (formAt n) p), .int .i64 0]) ∧ Below w.heap.size w w' := by
  have De := Lib.hid fun W (hE : Env W) => decode_any n p W h1 h2 hp hE
  have Fo := Lib.hid fun W (hE : Env W) => fof_any n W h1 h2 hE.ft hE.ft.lt
  have hcl : clsI (formAt n) p (pKey (formAt n) p) = 1 ∨ clsI (formAt n) p (pKey (formAt n) p) = 3 ∨ clsI (formAt n) p (pKey (formAt n) p) = 4 := by
    rcases cls_four (formAt n) p (pKey (formAt n) p) with q | q | q | q
    · exact .inl q
    · exact absurd q hc
    · exact .inr (.inl q)
    · exact .inr (.inr q)
  have hdN : decNeg (formAt n) p = if clsI (formAt n) p (pKey (formAt n) p) = 4 then false else pNeg (formAt n) p := rfl
  have HT := Lib.hid (show textW (formAt n) p = if clsI (formAt n) p (pKey (formAt n) p) = 4 then (if (formAt n).kind = 1 then [78, 97, 82] else [110, 97, 110]) else sgnL (pNeg (formAt n) p) ++ wordP (clsI (formAt n) p (pKey (formAt n) p)) from rfl)
  have HE := Lib.hid hE
  obtain ⟨bm, hbm⟩ := run_words w hP
  have Hw := Lib.hid hbm
  clear hbm hE hP hp hc h1 h2
  obtain ⟨f, hff⟩ : ∃ f, f = formAt n := ⟨_, rfl⟩
  rw [← hff] at De Fo hcl hdN HT ⊢
  clear hff
  obtain ⟨c, hcc⟩ : ∃ c, c = clsI f p (pKey f p) := ⟨_, rfl⟩
  rw [← hcc] at De hcl hdN HT
  clear hcc
  obtain ⟨ng, hng⟩ : ∃ ng, ng = pNeg f p := ⟨_, rfl⟩
  rw [← hng] at hdN HT
  clear hng
  obtain ⟨tx, htx⟩ : ∃ tx, tx = textW f p := ⟨_, rfl⟩
  rw [← htx] at HT ⊢
  clear htx
  obtain ⟨dN, h⟩ : ∃ dN, dN = decNeg f p := ⟨_, rfl⟩
  rw [← h] at hdN De
  clear h
  obtain ⟨dM, h⟩ : ∃ dM, dM = decM f p := ⟨_, rfl⟩
  rw [← h] at De
  clear h
  obtain ⟨dE, h⟩ : ∃ dE, dE = decE f p := ⟨_, rfl⟩
  rw [← h] at De
  clear h
  have HDN := Lib.hid hdN
  clear hdN
  obtain ⟨a0, a1, a2, a3, a4, a5, a6⟩ := f
  simp only at HT
  go_enter Tryz.func34, Tryz.ntmps34
  go_wp2_with fail
  ((with_reducible refine (De.out _ HE.out).mono ?_); rintro r w1 ⟨rfl, g1⟩)
  obtain ⟨hka, ba⟩ := new4 w1 91 (.int .i64 c) (.bool dN) (U dM) (.int .i64 dE)
  obtain ⟨wa, hwa⟩ : ∃ wa, wa = w1.alloc (.cells #[.int .i64 c, .bool dN, U dM, .int .i64 dE] 91) := ⟨_, rfl⟩
  rw [← hwa] at hka ba
  have ga := g1.trans (ba.mono g1.size)
  have HE1 := Lib.hid (HE.out.below ga)
  have HB1 := Lib.hid ga
  have HKV := Lib.hid hka
  obtain ⟨k0, k1, k2, k3⟩ := rest4 hka
  clear g1 ba ga hka HE De
  go_upto_region 2 with (fail)
  rw [← hwa]
  clear hwa
  have tc : (c == 2) = false := by rcases hcl with rfl | rfl | rfl <;> rfl
  go_wp2_with fail
  ((with_reducible refine (Fo.out _ HE1.out).mono ?_); rintro r w2 ⟨rfl, g2⟩)
  have G2 := Lib.hid (HB1.out.trans (g2.mono HB1.out.size))
  obtain ⟨wb, hwb, hkb, B2, b2⟩ := alloc7 (w := w) ⟨a0, a1, a2, a3, a4, a5, a6⟩ w2 G2.out
  simp only at hwb hkb
  have HV2 := Lib.hid (Blk.below (Blk.below HKV.out g2 HKV.out.lt) b2 (Nat.lt_of_lt_of_le HKV.out.lt g2.size))
  have HB2 := Lib.hid B2
  obtain ⟨hm1, hm2⟩ := Hw.out wb B2
  obtain ⟨j0, j1, j2, j3, j4, j5, j6⟩ := rest7 hkb
  clear k0 k1 k2 k3
  obtain ⟨k0, k1, k2, k3⟩ := rest4 HV2.out
  have hm3 := hm2 c hcl
  clear hm2 g2 G2 B2 b2 hkb HE1 HB1 HKV Hw Fo
  go_upto_region 8 with (fail)
  rw [← hwb]
  clear hwb
  obtain ⟨wd, hwd⟩ : ∃ wd, wd = wordP c := ⟨_, rfl⟩
  rw [← hwd] at hm3 HT
  have hwl : ¬ 9223372036854775807 < 1 + wd.length := by
    rw [hwd]
    unfold wordP
    split
    · decide
    · split
      · decide
      · split <;> decide
  have HWD := Lib.hid hwd
  clear hwd
  rcases hcl with rfl | rfl | rfl
  case inr.inr =>
    have e := HT.out
    rw [if_pos rfl] at e
    by_cases hk : a0 = 1
    · have t1 : (a0 == 1) = true := by simpa using hk
      rw [if_pos hk] at e
      have HX := Lib.hid e
      clear e hk HT
      go_wp2_with fail
      exact bodyPost_ret (v := .tuple #[S [78, 97, 82], .int .i64 0]) (by simp [results, Tryz.results34, go_sem]) rfl ⟨by rw [HX.out], HB2.out⟩
    · have t1 : (a0 == 1) = false := by simpa using hk
      rw [if_neg hk] at e
      have hn : dN = false := by rw [HDN.out, if_pos rfl]
      subst hn
      have hww : wd = [110, 97, 110] := HWD.out
      subst hww
      have HX := Lib.hid e
      clear e hk HT
      go_wp2_with fail
      exact bodyPost_ret (v := .tuple #[S [110, 97, 110], .int .i64 0]) (by simp [results, Tryz.results34, go_sem]) rfl ⟨by rw [HX.out], HB2.out⟩
  all_goals
    have e := HT.out
    rw [if_neg (by decide)] at e
    have hn : dN = ng := by rw [HDN.out, if_neg (by decide)]
    subst hn
    have HX := Lib.hid e
    clear e HT
    cases dN
    · go_wp2_with fail
      exact bodyPost_ret (v := .tuple #[S wd, .int .i64 0]) (by simp [results, Tryz.results34, go_sem]) rfl ⟨by rw [HX.out]; rfl, HB2.out⟩
    · have hcat : (⟨#[45]⟩ : ByteArray) ++ ⟨wd.toArray⟩ = ⟨(45 :: wd).toArray⟩ := bytes_cat [45] wd
      go_wp2_with fail
      exact bodyPost_ret (v := .tuple #[S (45 :: wd), .int .i64 0]) (by simp [results, Tryz.results34, go_sem]) rfl ⟨by rw [HX.out]; rfl, HB2.out⟩

set_option maxHeartbeats 1600000 in
set_option maxRecDepth 100000 in
/-- print.Print of what is not Finite. -/
theorem print_word (n p : Nat) (w : World) (h1 : 1 ≤ n) (h2 : n < 15) (hp : p < 2 ^ (formAt n).width) (hc : clsI (formAt n) p (pKey (formAt n) p) ≠ 2) (hE : Env w) (hP : PTab w) :
    Calls Tryz.prog 14 #[.int .i64 n, U p] w fun r w' => r = .returned (.tuple #[S (textW (formAt n) p), .int .i64 0]) ∧ Below w.heap.size w w' := by
  have To := Lib.hid (told_word n p w h1 h2 hp hc hE hP)
  obtain ⟨T, hT⟩ : ∃ T, T = textW (formAt n) p := ⟨_, rfl⟩
  rw [← hT] at To ⊢
  clear hT hE hP hp hc
  go_enter Tryz.func14, Tryz.ntmps14
  go_wp2_with fail
  ((with_reducible refine To.out.mono ?_); rintro r w1 ⟨rfl, g1⟩)
  have G := Lib.hid g1
  clear g1 To
  go_wp2_with fail
  exact bodyPost_ret (v := .tuple #[S T, .int .i64 0]) (by simp [results, Tryz.results14, go_sem]) rfl ⟨rfl, G.out⟩

set_option maxHeartbeats 1600000 in
set_option maxRecDepth 100000 in
/-- print.told of what may not be. -/
theorem told_bad (n : Int) (p : Nat) (w : World) (hp : p < 18446744073709551616) (he : fitE n p ≠ 0) (hE : Env w) :
    Calls Tryz.prog 34 #[.int .i64 n, U p, .func (.func 19) #[] #[]] w fun r w' => r = .returned (.tuple #[S [], .int .i64 (fitE n p)]) ∧ Below w.heap.size w w' := by
  have De := Lib.hid (decode_bad n p w hp he hE)
  obtain ⟨e, hee⟩ : ∃ e, e = fitE n p := ⟨_, rfl⟩
  rw [← hee] at De he ⊢
  have te : (e != 0) = true := by simpa using he
  clear hee he hE
  go_enter Tryz.func34, Tryz.ntmps34
  go_wp2_with fail
  ((with_reducible refine (De.out).mono ?_); rintro r w1 ⟨rfl, g1⟩)
  obtain ⟨hka, ba⟩ := new4 w1 91 (.int .i64 0) (.bool false) (.int .u64 0) (.int .i64 0)
  have HB := Lib.hid (g1.trans (ba.mono g1.size))
  clear hka ba g1
  go_wp2_with fail
  exact bodyPost_ret (v := .tuple #[S [], .int .i64 e]) (by simp [results, Tryz.results34, go_sem]) rfl ⟨rfl, HB.out⟩
set_option maxRecDepth 100000 in
/-- print.Print of what may not be. -/
theorem print_bad (n : Int) (p : Nat) (w : World) (hp : p < 18446744073709551616) (he : fitE n p ≠ 0) (hE : Env w) :
    Calls Tryz.prog 14 #[.int .i64 n, U p] w fun r w' => r = .returned (.tuple #[S [], .int .i64 (fitE n p)]) ∧ Below w.heap.size w w' := by
  have To := Lib.hid (told_bad n p w hp he hE)
  obtain ⟨e, hee⟩ : ∃ e, e = fitE n p := ⟨_, rfl⟩
  rw [← hee] at To ⊢
  clear hee hE hp he
  go_enter Tryz.func14, Tryz.ntmps14
  go_wp2_with fail
  ((with_reducible refine To.out.mono ?_); rintro r w1 ⟨rfl, g1⟩)
  have G := Lib.hid g1
  clear g1 To
  go_wp2_with fail
  exact bodyPost_ret (v := .tuple #[S [], .int .i64 e]) (by simp [results, Tryz.results14, go_sem]) rfl ⟨rfl, G.out⟩
end Go.Proofs.YtnlpkehllihllaaGreatDoor
