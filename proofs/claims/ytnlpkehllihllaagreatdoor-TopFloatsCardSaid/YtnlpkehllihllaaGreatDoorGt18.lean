/-
  A part of the proofs that calipertop.TopBack, TopFloats and TopNearest return true for every input and leave it as it was: part 18 of 47.
-/
import Derived.Test.YtnlpkehllihllaaGreatDoorGt10
import Derived.Test.YtnlpkehllihllaaGreatDoorGt16
import Derived.Test.YtnlpkehllihllaaGreatDoorGt17
import Derived.Test.YtnlpkehllihllaaGreatDoorGt15
/-
  The walks of exact.Of and exact.Dec.
-/
namespace Go.Proofs.YtnlpkehllihllaaGreatDoor
open Go.RowKit Go.Sort

theorem norm_num (va : Value) (x : Nat) (w : World) (ha : Num w va x) (hs : lw x ≤ 17592186044416) :
    Calls Tryz.prog 30 #[va] w fun e w' => ∃ v, e = .returned v ∧ Num w' v x ∧ Below w.heap.size w w' := by
  obtain ⟨A, c, rfl, hc, hm, hr⟩ := ha
  refine (norm_any A (lw x) c (wds x) w hr (wds_length x) hc hm (okw_wds x) hs).mono ?_
  rintro e w' ⟨v, rfl, h1, h2⟩
  rw [val_wds] at h1
  exact ⟨v, rfl, h1, h2⟩

set_option maxHeartbeats 1600000 in
set_option maxRecDepth 100000 in
/-- exact.Dec of what is right. -/
theorem dec_any (g : Bool) (vn : Value) (x : Nat) (k : Int) (w : World) (h : Num w vn x) (hx : lw x ≤ 128) (k1 : -5000 ≤ k) (k2 : k ≤ 5000) :
    Calls Tryz.prog 72 #[.bool g, vn, .int .i64 k] w fun e w' => ∃ v, e = .returned (.tuple #[.agg #[.bool g, v, .int .i64 k, .int .i64 k], .bool true]) ∧ Num w' v x ∧ Below w.heap.size w w' := by
  have Nm := Lib.hid fun W (h : Num W vn x) => norm_num vn x W h (by omega)
  have Rt := Lib.hid fun (va : Value) W (h : Num W va x) => right_any g va x k k W h hx k1 k2 k1 k2
  have HN := Lib.hid (h.below ((Below.refl _ _).alloc (Nat.le_refl _) (.cells #[.bool false, .slice none 0 0, .int .i64 0, .int .i64 0] 25)))
  clear h
  go_enter Tryz.func72, Tryz.ntmps72
  go_wp2_with fail
  refine (Nm.out _ HN.out).mono ?_
  rintro e w1 ⟨v1, rfl, n1, b1⟩
  have N1 := n1
  obtain ⟨A1, c1, rfl, _, _, _⟩ := n1
  have hz : w.heap.size + 1 ≤ w1.heap.size := by have := b1.size; simpa using this
  go_wp2_with fail
  obtain ⟨wa, hwa⟩ : ∃ wa, wa = w1.alloc (.cells #[.bool g, .slice A1 (lw x) c1, .int .i64 k, .int .i64 k] 25) := ⟨_, rfl⟩
  have hka : Blk wa w1.heap.size 25 #[.bool g, .slice A1 (lw x) c1, .int .i64 k, .int .i64 k] := by rw [hwa]; exact Blk.new w1 _ _
  have hba : Below w1.heap.size w1 wa := by rw [hwa]; exact (Below.refl _ _).alloc (Nat.le_refl _) _
  have hkr : Blk wa w.heap.size 25 #[.bool false, .slice none 0 0, .int .i64 0, .int .i64 0] := Blk.below (Blk.below (Blk.new w _ _) b1 (by simp)) hba (by omega)
  have hB : Below w.heap.size w wa := ((Below.refl _ _).alloc (Nat.le_refl _) _).trans ((b1.trans (hba.mono b1.size)).mono (by simp))
  have HNa := Lib.hid (N1.below hba)
  rw [← hwa]
  clear hba hwa b1 N1
  refine (Rt.out _ _ HNa.out).mono ?_
  rintro e w2 ⟨rfl, g2⟩
  have HKA := Lib.hid (Blk.below hka g2 hka.lt)
  have HKR := Lib.hid (Blk.below hkr g2 hkr.lt)
  have HB2 := Lib.hid (hB.trans (g2.mono hB.size))
  have HN2 := Lib.hid (HNa.out.below g2)
  clear hka hkr hB g2 HNa
  have k0 : w2.cell? ⟨w1.heap.size, 0, none⟩ = some (.bool g) := Blk.cell HKA.out 0
  have k1 : w2.cell? ⟨w1.heap.size, 1, none⟩ = some (.slice A1 (lw x) c1) := Blk.cell HKA.out 1
  have k2 : w2.cell? ⟨w1.heap.size, 2, none⟩ = some (.int .i64 k) := Blk.cell HKA.out 2
  have k3 : w2.cell? ⟨w1.heap.size, 3, none⟩ = some (.int .i64 k) := Blk.cell HKA.out 3
  have j0 : w2.cell? ⟨w.heap.size, 0, none⟩ = some (.bool false) := Blk.cell HKR.out 0
  have j1 : w2.cell? ⟨w.heap.size, 1, none⟩ = some (.slice none 0 0) := Blk.cell HKR.out 1
  have j2 : w2.cell? ⟨w.heap.size, 2, none⟩ = some (.int .i64 0) := Blk.cell HKR.out 2
  have j3 : w2.cell? ⟨w.heap.size, 3, none⟩ = some (.int .i64 0) := Blk.cell HKR.out 3
  have q0 : ∀ o, w2.frozen? ⟨w.heap.size, o, none⟩ = false := fun o => Blk.frozen HKR.out o
  go_wp2_with fail
  obtain ⟨w4, hw4, hk4, hb4, ho4⟩ := stored4 HKR.out (Nat.le_refl _) HB2.out (.bool g) (.slice A1 (lw x) c1) (.int .i64 k) (.int .i64 k)
  have hn4 := HN2.out.off HKR.out (by simp [noU]) ho4
  have r0 := Blk.cell hk4 0
  have r1 := Blk.cell hk4 1
  have r2 := Blk.cell hk4 2
  have r3 := Blk.cell hk4 3
  rw [hw4]
  exact bodyPost_ret (v := .tuple #[.agg #[.bool g, .slice A1 (lw x) c1, .int .i64 k, .int .i64 k], .bool true]) (by simp [results, Tryz.results72, go_sem, r0, r1, r2, r3]) rfl ⟨_, rfl, hn4, hb4⟩
end Go.Proofs.YtnlpkehllihllaaGreatDoor

/-
  The walks of round.size, behind, zero, within.
-/
namespace Go.Proofs.YtnlpkehllihllaaGreatDoor
open Go.RowKit Go.Sort

set_option maxHeartbeats 1600000 in
set_option maxRecDepth 100000 in
/-- round.size of what is not 0. -/
theorem rsize_any (m : Nat) (e : Int) (w : World) (hm : m < 18446744073709551616) (h0 : m ≠ 0) (e1 : -5000 ≤ e) (e2 : e ≤ 5000) :
    Calls Tryz.prog 88 #[U m, .int .i64 e] w fun r w' => ∃ v, r = .returned (.agg #[.bool false, v, .int .i64 e, .int .i64 0]) ∧ Num w' v m ∧ Below w.heap.size w w' := by
  have Of := Lib.hid fun W => xof_fin false m e W hm e1 e2
  have t0 : ((m : Int) == 0) = false := by rw [beq_eq_false_iff_ne]; omega
  have HK := Lib.hid (new4 w 25 (.bool false) (.slice none 0 0) (.int .i64 0) (.int .i64 0)).1
  have HB := Lib.hid (new4 w 25 (.bool false) (.slice none 0 0) (.int .i64 0) (.int .i64 0)).2
  clear h0
  go_enter Tryz.func88, Tryz.ntmps88
  go_wp2_with fail
  ((with_reducible refine (Of.out _).mono ?_); rintro r w1 ⟨v1, rfl, n1, g1⟩)
  have hk1 : Blk w1 w.heap.size 25 #[.bool false, .slice none 0 0, .int .i64 0, .int .i64 0] := Blk.below HK.out g1 HK.out.lt
  have n1c := n1
  obtain ⟨A1, c1, rfl, _, _, _⟩ := n1c
  obtain ⟨hka, b2⟩ := new4 w1 25 (.bool false) (.slice A1 (lw m) c1) (.int .i64 e) (.int .i64 0)
  obtain ⟨wa, hwa⟩ : ∃ wa, wa = w1.alloc (.cells #[.bool false, .slice A1 (lw m) c1, .int .i64 e, .int .i64 0] 25) := ⟨_, rfl⟩
  rw [← hwa] at hka b2
  have HKR := Lib.hid (Blk.below hk1 b2 hk1.lt)
  have B1 := Lib.hid (HB.out.trans ((g1.trans (b2.mono g1.size)).mono HB.out.size))
  have N1 := Lib.hid (n1.below b2)
  obtain ⟨j0, j1, j2, j3⟩ := rest4 hka
  obtain ⟨k0, k1, k2, k3⟩ := rest4 HKR.out
  have q0 : ∀ o, wa.frozen? ⟨w.heap.size, o, none⟩ = false := fun o => Blk.frozen HKR.out o
  clear g1 b2 hka hk1 n1
  go_upto_region 5 with (fail)
  rw [← hwa]
  clear hwa
  go_wp2_with fail
  obtain ⟨w4, hw4, hk4, hb4, ho4⟩ := stored4 HKR.out (Nat.le_refl _) B1.out (.bool false) (.slice A1 (lw m) c1) (.int .i64 e) (.int .i64 0)
  have hn4 := N1.out.off HKR.out (by simp [noU]) ho4
  obtain ⟨r0, r1, r2, r3⟩ := rest4 hk4
  rw [hw4]
  exact bodyPost_ret (v := .agg #[.bool false, .slice A1 (lw m) c1, .int .i64 e, .int .i64 0]) (by simp [results, Tryz.results88, go_sem, r0, r1, r2, r3]) rfl ⟨_, rfl, hn4, hb4⟩

set_option maxHeartbeats 1600000 in
set_option maxRecDepth 100000 in
/-- round.behind. -/
theorem behind_any (n key : Nat) (w : World) (h1 : 1 ≤ n) (h2 : n < 15) (hk : key ≤ (formAt n).most) (hE : Env w) :
    Calls Tryz.prog 54 #[.int .i64 n, U key] w fun r w' => ∃ v, r = .returned (.agg #[.bool false, v, .int .i64 (oE (formAt n) 1 (2 * key + 1)), .int .i64 0]) ∧ Num w' v (oM (formAt n) 1 (2 * key + 1)) ∧ Below w.heap.size w w' := by
  have hf := form_is h1 h2
  have hok := keyOk_btw (f := formAt n) hk
  have hM1 := oM_lt hf hok
  have hM2 := oM_pos hf hok
  have hEb := oE_bd hf hok
  have HK := Lib.hid (new4 w 25 (.bool false) (.slice none 0 0) (.int .i64 0) (.int .i64 0)).1
  have hb0 := (new4 w 25 (.bool false) (.slice none 0 0) (.int .i64 0) (.int .i64 0)).2
  have Bt := Lib.hid (between_any n key _ h1 h2 hk (hE.below hb0))
  have HB := Lib.hid hb0
  obtain ⟨M, hM⟩ : ∃ M, M = oM (formAt n) 1 (2 * key + 1) := ⟨_, rfl⟩
  obtain ⟨E, hEE⟩ : ∃ E, E = oE (formAt n) 1 (2 * key + 1) := ⟨_, rfl⟩
  rw [← hM, ← hEE] at Bt ⊢
  rw [← hM] at hM1 hM2
  rw [← hEE] at hEb
  have Rs := Lib.hid fun W => rsize_any M E W hM1 hM2 (by omega) (by omega)
  clear hM hEE hb0 hE hok hf hk hM1 hM2 hEb
  go_enter Tryz.func54, Tryz.ntmps54
  go_wp2_with fail
  ((with_reducible refine (Bt.out).mono ?_); rintro r w1 ⟨rfl, g1⟩)
  have HK1 := Lib.hid (Blk.below HK.out g1 HK.out.lt)
  have B1 := Lib.hid (HB.out.trans (g1.mono HB.out.size))
  clear g1
  go_wp2_with fail
  ((with_reducible refine (Rs.out _).mono ?_); rintro r w2 ⟨v, rfl, n2, g2⟩)
  have hk2 : Blk w2 w.heap.size 25 #[.bool false, .slice none 0 0, .int .i64 0, .int .i64 0] := Blk.below HK1.out g2 HK1.out.lt
  have HK2 := Lib.hid hk2
  have B2 := Lib.hid (B1.out.trans (g2.mono B1.out.size))
  have N2 := Lib.hid n2
  obtain ⟨A1, c1, rfl, _, _, _⟩ := n2
  obtain ⟨k0, k1, k2, k3⟩ := rest4 hk2
  have q0 : ∀ o, w2.frozen? ⟨w.heap.size, o, none⟩ = false := fun o => Blk.frozen hk2 o
  clear hk2 g2
  go_wp2_with fail
  obtain ⟨w4, hw4, hk4, hb4, ho4⟩ := stored4 HK2.out (Nat.le_refl _) B2.out (.bool false) (.slice A1 (lw M) c1) (.int .i64 E) (.int .i64 0)
  have hn4 := N2.out.off HK2.out (by simp [noU]) ho4
  obtain ⟨r0, r1, r2, r3⟩ := rest4 hk4
  rw [hw4]
  exact bodyPost_ret (v := .agg #[.bool false, .slice A1 (lw M) c1, .int .i64 E, .int .i64 0]) (by simp [results, Tryz.results54, go_sem, r0, r1, r2, r3]) rfl ⟨_, rfl, hn4, hb4⟩

theorem ret_b {x y : Bool} (h : x = y) : Ending.returned (.bool x) = .returned (.bool y) := by rw [h]
set_option maxHeartbeats 1600000 in
set_option maxRecDepth 100000 in
/-- round.zero. -/
theorem rzero_any (g : Bool) (vn : Value) (x : Nat) (t f : Int) (w : World) (h : Num w vn x) :
    Calls Tryz.prog 24 #[.agg #[.bool g, vn, .int .i64 t, .int .i64 f]] w fun r w' => r = .returned (.bool (decide (x = 0))) ∧ Below w.heap.size w w' := by
  have hl := h.len
  unfold maxLen at hl
  obtain ⟨A, c, rfl, _, _, _⟩ := h
  have hb := (new4 w 25 (.bool g) (.slice A (lw x) c) (.int .i64 t) (.int .i64 f)).2
  have HB := Lib.hid hb
  have hz := lw_eq_zero (n := x)
  clear hb
  by_cases h0 : x = 0
  · have t0 : ((lw x : Int) == 0) = true := by rw [hz.2 h0]; rfl
    have H := Lib.hid h0
    clear h0 hz
    go_enter Tryz.func24, Tryz.ntmps24
    go_wp2_with fail
    go_ret
    exact ⟨ret_b (decide_eq_true H.out).symm, HB.out⟩
  · have t0 : ((lw x : Int) == 0) = false := by
      rw [beq_eq_false_iff_ne]
      intro q
      exact h0 (hz.1 (by omega))
    have H := Lib.hid h0
    clear h0 hz
    go_enter Tryz.func24, Tryz.ntmps24
    go_wp2_with fail
    go_ret
    exact ⟨ret_b (decide_eq_false H.out).symm, HB.out⟩
end Go.Proofs.YtnlpkehllihllaaGreatDoor

/-
  The walk of round.within.
-/
namespace Go.Proofs.YtnlpkehllihllaaGreatDoor
open Go.RowKit Go.Sort

/-- An exact number within what is reckoned. -/
structure XOk (x : Nat) (t f : Int) : Prop where
  lw : lw x ≤ 128
  t1 : -2500 ≤ t
  t2 : t ≤ 2500
  f1 : -2500 ≤ f
  f2 : f ≤ 2500

theorem odd_word (key : Nat) (h : key < 18446744073709551616) : bits .and .u64 (key : Int) 1 = ((key % 2 : Nat) : Int) := by
  rw [show (1 : Int) = ((1 : Nat) : Int) from rfl, u64_and_nat _ _ h (by omega)]
  congr 1
  exact Nat.and_one_is_mod key

set_option maxHeartbeats 3200000 in
set_option maxRecDepth 100000 in
/-- round.within. -/
theorem within_any (n key : Nat) (g : Bool) (vn : Value) (x : Nat) (t f : Int) (w : World) (h1 : 1 ≤ n) (h2 : n < 15) (hk : key ≤ (formAt n).most) (hN : Num w vn x) (hx : XOk x t f) (hE : Env w) :
    Calls Tryz.prog 22 #[.int .i64 n, .agg #[.bool g, vn, .int .i64 t, .int .i64 f], U key] w fun r w' => r = .returned (.bool (wth (formAt n) (ex x t f) key)) ∧ Below w.heap.size w w' := by
  have hf := form_is h1 h2
  have hok := keyOk_btw (f := formAt n) hk
  have hM1 := oM_lt hf hok
  have hEb := oE_bd hf hok
  have hex := o_ex hf hok
  have hk64 : key < 18446744073709551616 := by have := (most_lt hf).1; omega
  have hodd := odd_word key hk64
  obtain ⟨x1, x2, x3, x4, x5⟩ := hx
  have Bh := Lib.hid fun W (hE : Env W) => behind_any n key W h1 h2 hk hE
  have HW := Lib.hid (show wth (formAt n) (ex x t f) key = (decide (ex x t f < BV (formAt n) key) || (decide (ex x t f = BV (formAt n) key) && decide (key % 2 = 0))) from rfl)
  have hb0 := (new4 w 25 (.bool g) vn (.int .i64 t) (.int .i64 f)).2
  have hk0 := (new4 w 25 (.bool g) vn (.int .i64 t) (.int .i64 f)).1
  have HE := Lib.hid (hE.below hb0)
  have HN := Lib.hid (hN.below hb0)
  have HB := Lib.hid hb0
  have HK := Lib.hid hk0
  obtain ⟨M, hM⟩ : ∃ M, M = oM (formAt n) 1 (2 * key + 1) := ⟨_, rfl⟩
  obtain ⟨E, hEE⟩ : ∃ E, E = oE (formAt n) 1 (2 * key + 1) := ⟨_, rfl⟩
  rw [← hM, ← hEE] at Bh hex
  rw [← hM] at hM1
  rw [← hEE] at hEb
  have hlM : lw M ≤ 256 := Nat.le_trans (lw_le (k := 1) hM1) (by omega)
  have Cm := Lib.hid fun (vb : Value) W (ha : Num W vn x) (hb : Num W vb M) => cmpx_any g false vn vb x M t f E 0 W ha hb (by omega) hlM x2 x3 (by omega) (by omega) x4 x5 (by omega) (by omega)
  rw [show BV (formAt n) key = ex M E 0 from hex.symm] at HW
  obtain ⟨Y, hY⟩ : ∃ Y, Y = ex x t f := ⟨_, rfl⟩
  rw [← hY] at HW Cm ⊢
  obtain ⟨Z, hZ⟩ : ∃ Z, Z = ex M E 0 := ⟨_, rfl⟩
  rw [← hZ] at HW Cm
  obtain ⟨c, hc⟩ : ∃ c, c = cmpI (Y : Int) (Z : Int) := ⟨_, rfl⟩
  rw [← hc] at Cm
  have HC := Lib.hid (show c = if (Y : Int) < Z then -1 else if (Z : Int) < Y then 1 else 0 from hc)
  obtain ⟨b, hb⟩ : ∃ b, b = wth (formAt n) Y key := ⟨_, rfl⟩
  rw [← hb] at HW ⊢
  have HOD := Lib.hid hodd
  clear hM hEE hex hY hZ hc hb hb0 hk0 hodd hE hN hok hf hk hM1 hEb hlM x1 x2 x3 x4 x5 hk64
  go_enter Tryz.func22, Tryz.ntmps22
  go_upto_region 1 with (fail)
  obtain ⟨wx, hwx⟩ : ∃ wx, wx = w.alloc (.cells #[.bool g, vn, .int .i64 t, .int .i64 f] 25) := ⟨_, rfl⟩
  rw [← hwx] at HE HN HB HK ⊢
  clear hwx
  obtain ⟨k0, k1, k2, k3⟩ := rest4 HK.out
  have hlt : w.heap.size < wx.heap.size := HK.out.lt
  go_cut [7] from 8 to 12 (fun cc wz => cc = .int .i64 c ∧ Hid (Below w.heap.size w wz))
  case first =>
    go_region_held3 (fun w' => w'.cell? ⟨w.heap.size, 0, none⟩ = some (.bool g) ∧ w'.cell? ⟨w.heap.size, 1, none⟩ = some vn ∧ w'.cell? ⟨w.heap.size, 2, none⟩ = some (.int .i64 t) ∧ w'.cell? ⟨w.heap.size, 3, none⟩ = some (.int .i64 f))
      (first
        | go_keep
        | (go_split_ands
           refine ⟨?_, ?_, ?_, ?_⟩ <;> (rw [gg.cell (World.block_lt_of_cell? _ _ (by assumption))]; assumption)))
      ((first
        | (go_at_call 54; (with_reducible refine (Bh.out _ (by exact HE.out.drew)).mono ?_); rintro r ws ⟨v1, rfl, n1, gg⟩; have n1c := n1; obtain ⟨A1, c1, rfl, _, _, _⟩ := n1c; have ga := gg)
        | (go_at_call 13; (with_reducible refine (Cm.out _ _ (by exact HN.out.drew.below ga) n1).mono ?_); rintro r ws ⟨rfl, gg⟩; have gb := gg)))
    have B3 := Lib.hid (HB.out.trans ((below_of_drew (ga.trans (gb.mono ga.size))).mono HB.out.size))
    go_wp2_with fail
    go_meet
    exact ⟨rfl, B3⟩
  case rest =>
    obtain ⟨rfl, hwz⟩ := hcut
    clear k0 k1 k2 k3 hlt HN HE HK HB
    have hor : (c = -1 ∧ b = true) ∨ (c = 1 ∧ b = false) ∨ (c = 0 ∧ b = decide (key % 2 = 0)) := by
      have h1 := HC.out
      have h2 := HW.out
      rcases Nat.lt_trichotomy Y Z with q | q | q
      · left
        rw [if_pos (by omega)] at h1
        rw [decide_eq_true q] at h2
        exact ⟨h1, h2⟩
      · right; right
        rw [if_neg (by omega), if_neg (by omega)] at h1
        rw [decide_eq_false (by omega), decide_eq_true q] at h2
        exact ⟨h1, by simpa using h2⟩
      · right; left
        rw [if_neg (by omega), if_pos (by omega)] at h1
        rw [decide_eq_false (by omega), decide_eq_false (by omega)] at h2
        exact ⟨h1, by simpa using h2⟩
    clear HC HW
    rcases hor with ⟨rfl, rfl⟩ | ⟨rfl, rfl⟩ | ⟨rfl, hb⟩
    · go_wp2_with fail
      go_ret
      exact ⟨rfl, hwz.out⟩
    · go_wp2_with fail
      go_ret
      exact ⟨rfl, hwz.out⟩
    · by_cases h0 : key % 2 = 0
      · have hod := HOD.out
        rw [h0] at hod
        have H := Lib.hid (hb.trans (decide_eq_true h0))
        clear hb h0
        have hod' : bits .and .u64 (key : Int) 1 = 0 := hod
        clear hod
        go_wp2_with fail
        go_ret
        exact ⟨ret_b H.out.symm, hwz.out⟩
      · have hod := HOD.out
        rw [show key % 2 = 1 by omega] at hod
        have H := Lib.hid (hb.trans (decide_eq_false h0))
        clear hb h0
        have hod' : bits .and .u64 (key : Int) 1 = 1 := hod
        clear hod
        go_wp2_with fail
        go_ret
        exact ⟨ret_b H.out.symm, hwz.out⟩
end Go.Proofs.YtnlpkehllihllaaGreatDoor

/-
  The walk of round.Nearest.
-/
namespace Go.Proofs.YtnlpkehllihllaaGreatDoor
open Go.RowKit Go.Sort

/-- The search for a magnitude under way: the next bit is half of 2 to the power j. -/
structure Seek (f : Fm) (most Y key j : Nat) : Prop where
  le : key ≤ most
  low : key = 0 ∨ wth f Y (key - 1) = false
  high : most < key + 2 ^ j ∨ wth f Y (key + 2 ^ j - 1) = true
theorem seek_up {f : Fm} {most Y key j : Nat} (h : Seek f most Y key (j + 1)) (h1 : key + 2 ^ j ≤ most) (h2 : wth f Y (key + 2 ^ j - 1) = false) : Seek f most Y (key + 2 ^ j) j := by
  refine ⟨h1, .inr h2, ?_⟩
  have := h.high
  rw [Nat.pow_succ] at this
  rwa [Nat.add_assoc, ← Nat.two_mul, Nat.mul_comm]
theorem seek_stay {f : Fm} {most Y key j : Nat} (h : Seek f most Y key (j + 1)) (h1 : most < key + 2 ^ j ∨ wth f Y (key + 2 ^ j - 1) = true) : Seek f most Y key j := ⟨h.le, h.low, h1⟩
theorem seek_end {f : Fm} {most Y key : Nat} (h : Seek f most Y key 0) (hw : wth f Y most = true) : Srch f most Y key := by
  refine ⟨h.le, h.low, ?_⟩
  have hl := h.le
  rcases h.high with q | q
  · rw [Nat.pow_zero] at q
    obtain rfl : key = most := by omega
    exact hw
  · rw [Nat.pow_zero, Nat.add_sub_cancel] at q
    exact q
/-- What Nearest tells. -/
def NearIs (f : Fm) (most Y k : Nat) (over : Bool) : Prop := (over = true ∧ k = most ∧ wth f Y most = false) ∨ (over = false ∧ wth f Y most = true ∧ ∃ k0, Srch f most Y k0 ∧ k = lifted f Y k0)

theorem most_width {f : Fm} (hf : FmIs f) (neg : Bool) : mostN f neg < 2 ^ f.width := by
  obtain ⟨w1, w2⟩ := width_bd hf
  have hp : 2 ^ f.width = 2 ^ (f.width - 1) * 2 := by rw [← Nat.pow_succ]; congr 1; omega
  have hp2 := Nat.two_pow_pos (f.width - 1)
  have h := mostN_le (f := f) neg
  cases hf with
  | posit k w1 w2 t n i =>
    have e : f.most = f.top := by unfold Fm.most; rw [if_neg (by omega)]
    omega
  | signed k w1 w2 m b1 b2 t e t3 e2 =>
    have e : f.most = f.top := by unfold Fm.most; rw [if_neg (by omega)]
    omega
  | turned k w m t n i =>
    have e : f.most = f.top + 1 := by unfold Fm.most; rw [if_pos k]
    rw [w]; omega
  | scale k w b t n i =>
    have e : f.most = f.top := by unfold Fm.most; rw [if_neg (by omega)]
    rw [w]; omega
theorem half_pow (j : Nat) : 2 ^ (j + 1) / 2 = 2 ^ j := by rw [Nat.pow_succ]; omega
theorem ret_near {a b : Nat} {x y : Bool} {e : Int} (h1 : a = b) (h2 : x = y) : Ending.returned (.tuple #[U a, .bool x, .int .i64 e]) = .returned (.tuple #[U b, .bool y, .int .i64 e]) := by rw [h1, h2]

set_option maxHeartbeats 6400000 in
set_option maxRecDepth 100000 in
/-- round.Nearest. -/
theorem nearest_any (n : Nat) (neg g : Bool) (vn : Value) (x : Nat) (t f : Int) (w : World) (h1 : 1 ≤ n) (h2 : n < 15) (hn : neg = true → (formAt n).kind ≠ 4) (hN : Num w vn x) (hx : XOk x t f) (hE : Env w) :
    Calls Tryz.prog 7 #[.int .i64 n, .bool neg, .agg #[.bool g, vn, .int .i64 t, .int .i64 f]] w fun r w' => ∃ k over, r = .returned (.tuple #[U k, .bool over, .int .i64 0]) ∧ Hid (NearIs (formAt n) (mostN (formAt n) neg) (ex x t f) k over) ∧ Below w.heap.size w w' := by
  have hf := form_is h1 h2
  obtain ⟨wd1, wd2⟩ := width_bd hf
  have hmw := most_width hf neg
  have hml := mostN_le (f := formAt n) neg
  have hm63 := (most_lt hf).1
  obtain ⟨x1, x2, x3, x4, x5⟩ := hx
  have hb0 := (new4 w 25 (.bool g) vn (.int .i64 t) (.int .i64 f)).2
  have HK := Lib.hid (new4 w 25 (.bool g) vn (.int .i64 t) (.int .i64 f)).1
  have HB := Lib.hid hb0
  have HE := Lib.hid (hE.below hb0)
  have HN := Lib.hid (hN.below hb0)
  have Mo := Lib.hid (most_any n neg _ h1 h2 hn (hE.below hb0))
  have Rt := Lib.hid fun W (h : Num W vn x) => right_any g vn x t f W h x1 (by omega) (by omega) (by omega) (by omega)
  have Wi := Lib.hid fun key (hk : key ≤ mostN (formAt n) neg) W (h : Num W vn x) (hE : Env W) => within_any n key g vn x t f W h1 h2 (Nat.le_trans hk hml) h ⟨x1, x2, x3, x4, x5⟩ hE
  have Fo := Lib.hid fun W (hE : Env W) => fof_any n W h1 h2 hE.ft hE.ft.lt
  have Ze := Lib.hid fun W (h : Num W vn x) => rzero_any g vn x t f W h
  have HX := Lib.hid (show x = 0 ↔ ex x t f = 0 from ⟨fun q => by rw [q, ex_zero], fun q => Classical.byContradiction fun r => by have := ex_pos r t f; omega⟩)
  obtain ⟨Y, hY⟩ : ∃ Y, Y = ex x t f := ⟨_, rfl⟩
  rw [← hY] at Wi HX ⊢
  obtain ⟨ff, hff⟩ : ∃ ff, ff = formAt n := ⟨_, rfl⟩
  rw [← hff] at Mo Wi Fo hf hmw hml hm63 wd1 wd2 ⊢
  obtain ⟨M, hM⟩ : ∃ M, M = mostN ff neg := ⟨_, rfl⟩
  rw [← hM] at Mo Wi hmw hml ⊢
  have HM64 := Lib.hid (show M < 9223372036854775808 by omega)
  have hMw := Lib.hid hmw
  have hL : ∀ k, lifted ff Y k = if ff.kind = 1 ∧ k = 0 ∧ Y ≠ 0 then 1 else k := fun _ => rfl
  have HL := Lib.hid hL
  have hp1 : IntKind.u64.wrap ((2 : Int) ^ (ff.width - 1)) = ((2 ^ (ff.width - 1) : Nat) : Int) := wrap_two (by omega)
  have hp2 : 2 ^ ff.width / 2 = 2 ^ (ff.width - 1) := by rw [show ff.width = (ff.width - 1) + 1 by omega, half_pow]; rfl
  obtain ⟨wi, hwi⟩ : ∃ wi, ff.width = wi + 1 := ⟨ff.width - 1, by omega⟩
  rw [hwi] at hp1 hp2
  rw [show wi + 1 - 1 = wi from rfl] at hp1 hp2
  have HWI := Lib.hid hwi
  have hi63 : wi ≤ 63 := by omega
  have HP2 := Lib.hid hp2
  clear hY hff hM hm63 hml hmw hL wd1 wd2 hb0 hE hN hn x1 x2 x3 x4 x5 hf hp2 hwi
  go_enter Tryz.func7, Tryz.ntmps7
  go_wp2_with fail
  ((with_reducible refine (Mo.out).mono ?_); rintro r w1 ⟨rfl, g1⟩)
  have HK1 := Lib.hid (Blk.below HK.out g1 HK.out.lt)
  have HN1 := Lib.hid (HN.out.below g1)
  have HE1 := Lib.hid (HE.out.below g1)
  have HB1 := Lib.hid (HB.out.trans (g1.mono HB.out.size))
  clear g1 HK HN HE HB Mo
  obtain ⟨k0, k1, k2, k3⟩ := rest4 HK1.out
  go_wp2_with fail
  ((with_reducible refine (Rt.out _ HN1.out).mono ?_); rintro r w2 ⟨rfl, g2⟩)
  have HK2 := Lib.hid (Blk.below HK1.out g2 HK1.out.lt)
  have HN2 := Lib.hid (HN1.out.below g2)
  have HE2 := Lib.hid (HE1.out.below g2)
  have HB2 := Lib.hid (HB1.out.trans (g2.mono HB1.out.size))
  clear g2 HK1 HN1 HE1 HB1 Rt k0 k1 k2 k3
  obtain ⟨k0, k1, k2, k3⟩ := rest4 HK2.out
  go_wp2_with fail
  ((with_reducible refine (Wi.out M (Nat.le_refl _) _ HN2.out HE2.out).mono ?_); rintro r w3 ⟨rfl, g3⟩)
  have HK3 := Lib.hid (Blk.below HK2.out g3 HK2.out.lt)
  have HN3 := Lib.hid (HN2.out.below g3)
  have HE3 := Lib.hid (HE2.out.below g3)
  have HB3 := Lib.hid (HB2.out.trans (g3.mono HB2.out.size))
  clear g3 HK2 HN2 HE2 HB2 k0 k1 k2 k3
  obtain ⟨k0, k1, k2, k3⟩ := rest4 HK3.out
  obtain ⟨b, hb⟩ : ∃ b, b = wth ff Y M := ⟨_, rfl⟩
  rw [← hb]
  have Hb := Lib.hid hb
  clear hb
  cases b
  · go_wp2_with fail
    go_ret3
    exact ⟨M, true, rfl, Lib.hid (.inl ⟨rfl, rfl, Hb.out.symm⟩), HB3.out⟩
  · go_wp2_with fail
    ((with_reducible refine (Fo.out _ HE3.out).mono ?_); rintro r w4 ⟨rfl, g4⟩)
    have HK4 := Lib.hid (Blk.below HK3.out g4 HK3.out.lt)
    have HN4 := Lib.hid (HN3.out.below g4)
    have HE4 := Lib.hid (HE3.out.below g4)
    have HB4 := Lib.hid (HB3.out.trans (g4.mono HB3.out.size))
    clear g4 HK3 HN3 HE3 HB3 k0 k1 k2 k3 Fo
    obtain ⟨wf, hwf⟩ : ∃ wf, wf = w4.alloc (.cells #[.int .i64 ff.kind, .int .i64 ff.width, .int .i64 ff.man, .int .i64 ff.bias, U ff.top, U ff.inf, U ff.nan] 55) := ⟨_, rfl⟩
    have hkf : Blk wf w4.heap.size 55 #[.int .i64 ff.kind, .int .i64 ff.width, .int .i64 ff.man, .int .i64 ff.bias, U ff.top, U ff.inf, U ff.nan] := by rw [hwf]; exact Blk.new w4 _ _
    have hbf : Below w4.heap.size w4 wf := by rw [hwf]; exact (Below.refl _ _).alloc (Nat.le_refl _) _
    have HKX := Lib.hid (Blk.below HK4.out hbf HK4.out.lt)
    have HKF := Lib.hid hkf
    have HNF := Lib.hid (HN4.out.below hbf)
    have HEF := Lib.hid (HE4.out.below hbf)
    have HBF := Lib.hid (HB4.out.trans (hbf.mono HB4.out.size))
    have hlt4 := HK4.out.lt
    clear HK4 HN4 HE4 HB4 hbf
    have f1 : wf.cell? ⟨w4.heap.size, 1, none⟩ = some (.int .i64 ff.width) := Blk.cell hkf 1
    go_upto_region 9 with (fail)
    rw [← hwf]
    clear hwf hkf
    have hw1 : IntKind.i64.wrap ((ff.width : Int) - 1) = (wi : Int) := by rw [HWI.out, IntKind.wrap_i64]; omega
    have hw2 : ((ff.width : Int) - 1) = (wi : Int) := by rw [HWI.out]; omega
    have hw3 : (ff.width : Int) ≤ 64 := by rw [HWI.out]; omega
    have hw4 : 0 ≤ (ff.width : Int) := by omega
    go_wp2_with fail
    clear f1 hw1 hw2 hw3 hw4 hp1
    go_loopw [13, 14] (fun a b wr => ∃ k B j : Nat, a = U k ∧ b = U B ∧ k ≤ M ∧ B ≤ 9223372036854775808 ∧ Hid (B = 2 ^ j / 2 ∧ j ≤ wi + 1 ∧ Seek ff M Y k j) ∧ Hid (Below wf.heap.size wf wr)) (fun _ b _ => (intOf b).toNat)
    case atStart =>
      have e : 2 ^ (wi + 1) / 2 = 2 ^ wi := half_pow wi
      refine ⟨0, 2 ^ (wi + 1) / 2, wi + 1, rfl, ?_, Nat.zero_le _, ?_, Lib.hid ⟨rfl, Nat.le_refl _, ⟨Nat.zero_le _, .inl rfl, .inl ?_⟩⟩, Lib.hid (Below.refl _ _)⟩
      · rw [e]; simp
      · rw [e]; exact Nat.pow_le_pow_right (n := 2) (by omega) hi63
      · have := hMw.out; rw [HWI.out] at this; rwa [Nat.zero_add]
    case round =>
      obtain ⟨k, B, j, rfl, rfl, hk, hB, hj, hbe⟩ := hrel
      have HKr := Lib.hid (Blk.below HKX.out hbe.out HKX.out.lt)
      have HKFr := Lib.hid (Blk.below HKF.out hbe.out HKF.out.lt)
      have HNr := Lib.hid (HNF.out.below hbe.out)
      have HEr := Lib.hid (HEF.out.below hbe.out)
      obtain ⟨k0, k1, k2, k3⟩ := rest4 HKr.out
      rcases Nat.eq_zero_or_pos j with hj0 | hj0
      · have hB0 : B = 0 := by rw [hj.out.1, hj0]
        have HS := Lib.hid (seek_end (show Seek ff M Y k 0 by rw [← hj0]; exact hj.out.2.2) Hb.out.symm)
        subst hB0
        clear hj hj0
        have f0 : wr.cell? ⟨w4.heap.size, 0, none⟩ = some (.int .i64 ff.kind) := Blk.cell HKFr.out 0
        have HBr := Lib.hid (HBF.out.trans (hbe.out.mono HBF.out.size))
        have HLk := Lib.hid (HL.out k)
        by_cases c1 : ff.kind = 1
        · have t1 : (ff.kind == 1) = true := by simpa using c1
          have C1 := Lib.hid c1
          clear c1
          by_cases c2 : k = 0
          · have t2 : ((k : Int) == 0) = true := by simp [c2]
            have C2 := Lib.hid c2
            clear c2
            go_wp2_with fail
            ((with_reducible refine (Ze.out _ HNr.out).mono ?_); rintro r w7 ⟨rfl, g7⟩)
            have B7 := Lib.hid (HBr.out.trans (g7.mono HBr.out.size))
            clear g7 k0 k1 k2 k3
            by_cases c3 : x = 0
            · have C3 := Lib.hid (HX.out.1 c3)
              rw [decide_eq_true c3]
              clear c3
              go_wp2_with fail
              go_ret3
              exact ⟨k, false, rfl, Lib.hid (.inr ⟨rfl, Hb.out.symm, k, HS.out, by rw [HLk.out, if_neg (fun q => q.2.2 C3.out)]⟩), B7.out⟩
            · have C3 := Lib.hid (fun q => c3 (HX.out.2 q))
              rw [decide_eq_false c3]
              clear c3
              go_wp2_with fail
              go_ret3
              exact ⟨1, false, rfl, Lib.hid (.inr ⟨rfl, Hb.out.symm, k, HS.out, by rw [HLk.out, if_pos ⟨C1.out, C2.out, C3.out⟩]⟩), B7.out⟩
          · have t2 : ((k : Int) == 0) = false := by rw [beq_eq_false_iff_ne]; omega
            have C2 := Lib.hid c2
            clear c2
            go_wp2_with fail
            go_ret3
            exact ⟨k, false, rfl, Lib.hid (.inr ⟨rfl, Hb.out.symm, k, HS.out, by rw [HLk.out, if_neg (fun q => C2.out q.2.1)]⟩), HBr.out⟩
        · have t1 : (ff.kind == 1) = false := by simpa using c1
          have C1 := Lib.hid c1
          clear c1
          go_wp2_with fail
          go_ret3
          exact ⟨k, false, rfl, Lib.hid (.inr ⟨rfl, Hb.out.symm, k, HS.out, by rw [HLk.out, if_neg (fun q => C1.out q.1)]⟩), HBr.out⟩
      · obtain ⟨i, rfl⟩ : ∃ i, j = i + 1 := ⟨j - 1, by omega⟩
        have hBi : B = 2 ^ i := by rw [hj.out.1, half_pow]
        have hBp : 0 < B := by rw [hBi]; exact Nat.two_pow_pos _
        have hjw := hj.out.2.1
        have hsk := hj.out.2.2
        have HSK := Lib.hid hsk
        have HBI := Lib.hid hBi
        have HJW := Lib.hid hjw
        have hM64 := HM64.out
        obtain ⟨nx, hnx⟩ : ∃ nx, nx = k + B := ⟨_, rfl⟩
        obtain ⟨pv, hpv⟩ : ∃ pv, pv = k + B - 1 := ⟨_, rfl⟩
        obtain ⟨hf2, hhf⟩ : ∃ hf2, hf2 = B / 2 := ⟨_, rfl⟩
        have e1 : IntKind.u64.wrap ((k : Int) + B) = (nx : Int) := by rw [IntKind.wrap_u64]; omega
        have e2 : IntKind.u64.wrap (pv : Int) = (pv : Int) := by rw [IntKind.wrap_u64]; omega
        have e2' : (nx : Int) - 1 = (pv : Int) := by omega
        have e3 : (B : Int) / 2 = (hf2 : Int) := by omega
        have tb : decide (0 < (B : Int)) = true := by simp; omega
        have tb2 : decide (0 < B) = true := by simp; omega
        have hhB : hf2 ≤ 9223372036854775808 := by omega
        have hhi : hf2 < B := by omega
        have HPV := Lib.hid hpv
        have HNX := Lib.hid hnx
        have HHF := Lib.hid hhf
        have HHI := Lib.hid hhi
        clear hsk hBi hjw hj hM64 hpv hhf hB hj0 hhi
        by_cases hle : nx ≤ M
        · have tl : decide ((nx : Int) ≤ (M : Int)) = true := by simpa using hle
          have tl2 : decide (nx ≤ M) = true := by simpa using hle
          have hpM : pv ≤ M := by have := HPV.out; omega
          have HLE := Lib.hid hle
          clear hle hnx
          go_wp2_with fail
          ((with_reducible refine (Wi.out pv hpM _ HNr.out HEr.out).mono ?_); rintro r w7 ⟨rfl, g7⟩)
          have B7 := Lib.hid (hbe.out.trans (g7.mono hbe.out.size))
          clear g7 k0 k1 k2 k3
          obtain ⟨bb, hbb⟩ : ∃ bb, bb = wth ff Y pv := ⟨_, rfl⟩
          rw [← hbb]
          have HBB := Lib.hid hbb
          clear hbb
          cases bb
          · go_wp2_with fail
            go_roundw
            case rel => exact ⟨nx, hf2, i, rfl, rfl, HLE.out, hhB, Lib.hid ⟨by rw [HHF.out, HBI.out], by have := HJW.out; omega, by rw [HNX.out, HBI.out]; exact seek_up HSK.out (by rw [← HBI.out, ← HNX.out]; exact HLE.out) (by rw [← HBI.out, ← HPV.out]; exact HBB.out.symm)⟩, B7⟩
            case measure => have := HHI.out; simp [intOf]; omega
          · go_wp2_with fail
            go_roundw
            case rel => exact ⟨k, hf2, i, rfl, rfl, hk, hhB, Lib.hid ⟨by rw [HHF.out, HBI.out], by have := HJW.out; omega, seek_stay HSK.out (.inr (by rw [← HBI.out, ← HPV.out]; exact HBB.out.symm))⟩, B7⟩
            case measure => have := HHI.out; simp [intOf]; omega
        · have tl : decide ((nx : Int) ≤ (M : Int)) = false := by simpa using hle
          have tl2 : decide (nx ≤ M) = false := by simpa using hle
          have HLE := Lib.hid hle
          clear hle hnx
          go_wp2_with fail
          go_roundw
          case rel => exact ⟨k, hf2, i, rfl, rfl, hk, hhB, Lib.hid ⟨by rw [HHF.out, HBI.out], by have := HJW.out; omega, seek_stay HSK.out (.inl (by rw [← HBI.out, ← HNX.out]; have := HLE.out; omega))⟩, hbe⟩
          case measure => have := HHI.out; simp [intOf]; omega
end Go.Proofs.YtnlpkehllihllaaGreatDoor

/-
  The walk of round.large.
-/
namespace Go.Proofs.YtnlpkehllihllaaGreatDoor
open Go.RowKit Go.Sort

/-- What a form has beside its numbers. -/
structure FmW (f : Fm) : Prop where
  inf : f.inf < 2 ^ (f.width - 1)
  nan : f.nan < 2 ^ f.width
  infTop : f.inf = 0 ∨ f.top < f.inf
  nanTop : f.nan = 0 ∨ f.top < f.nan
  nan2 : f.kind = 2 → f.nan < 2 ^ (f.width - 1)
  inf2 : f.kind = 2 ∨ f.inf = 0
def fmW (f : Fm) : Bool := decide (f.inf < 2 ^ (f.width - 1)) && decide (f.nan < 2 ^ f.width) && decide (f.inf = 0 ∨ f.top < f.inf) && decide (f.nan = 0 ∨ f.top < f.nan) && decide (f.kind = 2 → f.nan < 2 ^ (f.width - 1)) && decide (f.kind = 2 ∨ f.inf = 0)
theorem fmW_all : ∀ n, n < 15 → 1 ≤ n → fmW (formAt n) = true := by decide +kernel
theorem form_w {n : Nat} (h1 : 1 ≤ n) (h2 : n < 15) : FmW (formAt n) := by
  have h := fmW_all n h2 h1
  unfold fmW at h
  simp only [Bool.and_eq_true, decide_eq_true_eq] at h
  exact ⟨h.1.1.1.1.1, h.1.1.1.1.2, h.1.1.1.2, h.1.1.2, h.1.2, h.2⟩

/-- What becomes of a number that is too large. -/
def largeN (f : Fm) (mode : Int) (neg : Bool) : Nat :=
  if mode = 1 ∨ f.kind = 1 ∨ (f.inf = 0 ∧ f.nan = 0) then patN f neg (mostN f neg) else if f.inf = 0 then f.nan else if neg = true then f.inf ||| f.sign else f.inf

theorem ret_uu {a b : Nat} (h : a = b) : Ending.returned (U a) = .returned (U b) := by rw [h]
theorem or_zero (a b : Nat) : (a ||| b = 0) ↔ (a = 0 ∧ b = 0) := by
  constructor
  · intro h
    exact ⟨by have := Nat.left_le_or (n := a) (m := b); omega, by have := Nat.right_le_or (n := a) (m := b); omega⟩
  · rintro ⟨rfl, rfl⟩; rfl

set_option maxHeartbeats 3200000 in
set_option maxRecDepth 100000 in
/-- round.large. -/
theorem large_any (n : Nat) (mode : Int) (neg : Bool) (w : World) (h1 : 1 ≤ n) (h2 : n < 15) (hn : neg = true → (formAt n).kind ≠ 4) (hE : Env w) :
    Calls Tryz.prog 70 #[(formAt n).v, .int .i64 n, .int .i64 mode, .bool neg] w fun r w' => r = .returned (U (largeN (formAt n) mode neg)) ∧ Below w.heap.size w w' := by
  have hf := form_is h1 h2
  have hW := form_w h1 h2
  obtain ⟨wd1, wd2⟩ := width_bd hf
  have h64 : (2 : Nat) ^ 64 = 18446744073709551616 := rfl
  have hpw : 2 ^ (formAt n).width ≤ 2 ^ 64 := Nat.pow_le_pow_right (by omega) wd2
  have hpw1 : 2 ^ ((formAt n).width - 1) ≤ 2 ^ 64 := Nat.pow_le_pow_right (by omega) (by omega)
  have hinf : (formAt n).inf < 18446744073709551616 := by have := hW.inf; omega
  have hnan : (formAt n).nan < 18446744073709551616 := by have := hW.nan; omega
  have hsg : (formAt n).sign < 18446744073709551616 := by
    show (if (formAt n).kind = 4 then 0 else 2 ^ ((formAt n).width - 1)) < _
    have : 2 ^ ((formAt n).width - 1) < 2 ^ 64 := Nat.pow_lt_pow_right (by omega) (by omega)
    split <;> omega
  have hor1 := u64_or_nat _ _ hinf hnan
  have hor2 := u64_or_nat _ _ hinf hsg
  have hoz := or_zero (formAt n).inf (formAt n).nan
  have hb0 : Below w.heap.size w (w.alloc (.cells (formAt n).cells 55)) := (Below.refl _ _).alloc (Nat.le_refl _) _
  have HB := Lib.hid hb0
  have HK := Lib.hid (Blk.new w 55 (formAt n).cells)
  have HE := Lib.hid (hE.below hb0)
  have Mo := Lib.hid fun W (hE : Env W) => most_any n neg W h1 h2 hn hE
  have Pt := Lib.hid fun W (hE : Env W) => pattern_any n neg (mostN (formAt n) neg) W h1 h2 hn (Nat.le_refl _) hE
  have Sg := Lib.hid fun W => sign_any (formAt n) W (by omega) wd2
  have HL := Lib.hid (show largeN (formAt n) mode neg = if mode = 1 ∨ (formAt n).kind = 1 ∨ ((formAt n).inf = 0 ∧ (formAt n).nan = 0) then patN (formAt n) neg (mostN (formAt n) neg) else if (formAt n).inf = 0 then (formAt n).nan else if neg = true then (formAt n).inf ||| (formAt n).sign else (formAt n).inf from rfl)
  obtain ⟨L, hL⟩ : ∃ L, L = largeN (formAt n) mode neg := ⟨_, rfl⟩
  rw [← hL] at HL ⊢
  obtain ⟨M, hM⟩ : ∃ M, M = mostN (formAt n) neg := ⟨_, rfl⟩
  rw [← hM] at Mo Pt HL
  obtain ⟨P, hP⟩ : ∃ P, P = patN (formAt n) neg M := ⟨_, rfl⟩
  rw [← hP] at Pt HL
  clear hL hM hP hb0 hE hn hf hW wd1 wd2 h64 hpw hpw1 hinf hnan hsg
  obtain ⟨sg, hs⟩ : ∃ sg, sg = (formAt n).sign := ⟨_, rfl⟩
  rw [← hs] at Sg HL hor2
  clear hs
  obtain ⟨ff, hff⟩ : ∃ ff, ff = formAt n := ⟨_, rfl⟩
  rw [← hff] at HL HB HK HE hor1 hor2 hoz Sg ⊢
  clear hff
  obtain ⟨a0, a1, a2, a3, a4, a5, a6⟩ := ff
  simp only [Fm.cells] at HL HB HK HE hor1 hor2 hoz
  obtain ⟨o1, ho1⟩ : ∃ o1, o1 = a5 ||| a6 := ⟨_, rfl⟩
  obtain ⟨o2, ho2⟩ : ∃ o2, o2 = a5 ||| sg := ⟨_, rfl⟩
  rw [← ho1] at hor1 hoz
  rw [← ho2] at hor2 HL
  have HOZ := Lib.hid hoz
  clear ho1 ho2 hoz
  show Calls Tryz.prog 70 #[.agg #[.int .i64 a0, .int .i64 a1, .int .i64 a2, .int .i64 a3, U a4, U a5, U a6], .int .i64 n, .int .i64 mode, .bool neg] w fun r w' => r = .returned (U L) ∧ Below w.heap.size w w'
  go_enter Tryz.func70, Tryz.ntmps70
  go_wp2_with fail
  ((with_reducible refine (Mo.out _ HE.out).mono ?_); rintro r w1 ⟨rfl, g1⟩)
  have HK1 := Lib.hid (Blk.below HK.out g1 HK.out.lt)
  have HE1 := Lib.hid (HE.out.below g1)
  have HB1 := Lib.hid (HB.out.trans (g1.mono HB.out.size))
  clear g1 HK HE HB
  go_wp2_with fail
  ((with_reducible refine (Pt.out _ HE1.out).mono ?_); rintro r w2 ⟨rfl, g2⟩)
  have HK2 := Lib.hid (Blk.below HK1.out g2 HK1.out.lt)
  have HB2 := Lib.hid (HB1.out.trans (g2.mono HB1.out.size))
  clear g2 HK1 HE1 HB1
  have k0 : w2.cell? ⟨w.heap.size, 0, none⟩ = some (.int .i64 a0) := Blk.cell HK2.out 0
  have k1 : w2.cell? ⟨w.heap.size, 1, none⟩ = some (.int .i64 a1) := Blk.cell HK2.out 1
  have k2 : w2.cell? ⟨w.heap.size, 2, none⟩ = some (.int .i64 a2) := Blk.cell HK2.out 2
  have k3 : w2.cell? ⟨w.heap.size, 3, none⟩ = some (.int .i64 a3) := Blk.cell HK2.out 3
  have k4 : w2.cell? ⟨w.heap.size, 4, none⟩ = some (U a4) := Blk.cell HK2.out 4
  have k5 : w2.cell? ⟨w.heap.size, 5, none⟩ = some (U a5) := Blk.cell HK2.out 5
  have k6 : w2.cell? ⟨w.heap.size, 6, none⟩ = some (U a6) := Blk.cell HK2.out 6
  by_cases c0 : mode = 1 ∨ a0 = 1 ∨ (a5 = 0 ∧ a6 = 0)
  · have H := Lib.hid (show L = P by rw [HL.out, if_pos c0])
    have hcs : (mode == 1) = true ∨ ((mode == 1) = false ∧ (a0 == 1) = true) ∨ ((mode == 1) = false ∧ (a0 == 1) = false ∧ ((o1 : Int) == 0) = true) := by
      by_cases q1 : mode = 1
      · left; simpa using q1
      · right
        by_cases q2 : a0 = 1
        · left; exact ⟨by simpa using q1, by simpa using q2⟩
        · right
          refine ⟨by simpa using q1, by simpa using q2, ?_⟩
          have : a5 = 0 ∧ a6 = 0 := by
            rcases c0 with q | q | q
            · exact absurd q q1
            · exact absurd q q2
            · exact q
          have := HOZ.out.2 this
          simp [this]
    clear c0 HL
    rcases hcs with q1 | ⟨q1, q2⟩ | ⟨q1, q2, q3⟩
    all_goals
      go_wp2_with fail
      go_ret
      exact ⟨ret_uu H.out.symm, HB2.out⟩
  · have q1 : (mode == 1) = false := by rw [beq_eq_false_iff_ne]; exact fun q => c0 (.inl q)
    have q2 : (a0 == 1) = false := by rw [beq_eq_false_iff_ne]; exact fun q => c0 (.inr (.inl q))
    have q3 : ((o1 : Int) == 0) = false := by
      rw [beq_eq_false_iff_ne]
      intro q
      exact c0 (.inr (.inr (HOZ.out.1 (by omega))))
    by_cases c1 : a5 = 0
    · have H := Lib.hid (show L = a6 by rw [HL.out, if_neg c0, if_pos c1])
      have q4 : ((a5 : Int) == 0) = true := by simp [c1]
      clear c0 c1 HL
      go_wp2_with fail
      go_ret
      exact ⟨ret_uu H.out.symm, HB2.out⟩
    · have q4 : ((a5 : Int) == 0) = false := by rw [beq_eq_false_iff_ne]; omega
      cases neg
      · have H := Lib.hid (show L = a5 by rw [HL.out, if_neg c0, if_neg c1, if_neg (by decide)])
        clear c0 c1 HL
        go_wp2_with fail
        go_ret
        exact ⟨ret_uu H.out.symm, HB2.out⟩
      · have H := Lib.hid (show L = o2 by rw [HL.out, if_neg c0, if_neg c1, if_pos rfl])
        clear c0 c1 HL
        have hlt := HK2.out.lt
        go_wp2_with fail
        go_region_held3 (fun w' => w'.cell? ⟨w.heap.size, 0, none⟩ = some (.int .i64 a0) ∧ w'.cell? ⟨w.heap.size, 1, none⟩ = some (.int .i64 a1) ∧ w'.cell? ⟨w.heap.size, 2, none⟩ = some (.int .i64 a2) ∧ w'.cell? ⟨w.heap.size, 3, none⟩ = some (.int .i64 a3) ∧
            w'.cell? ⟨w.heap.size, 4, none⟩ = some (U a4) ∧ w'.cell? ⟨w.heap.size, 5, none⟩ = some (U a5) ∧ w'.cell? ⟨w.heap.size, 6, none⟩ = some (U a6))
          (first
            | go_keep
            | (go_split_ands
               refine ⟨?_, ?_, ?_, ?_, ?_, ?_, ?_⟩ <;> (rw [gg.cell (World.block_lt_of_cell? _ _ (by assumption))]; assumption)))
          ((go_at_call 64; (with_reducible refine (Sg.out _).mono ?_); rintro e ws ⟨rfl, gg⟩; have ga := gg))
        go_wp2_with fail
        go_ret
        exact ⟨ret_uu H.out.symm, HB2.out.trans ((below_of_drew ga).mono HB2.out.size)⟩
end Go.Proofs.YtnlpkehllihllaaGreatDoor

/-
  The walk of round.Round.
-/
namespace Go.Proofs.YtnlpkehllihllaaGreatDoor
open Go.RowKit Go.Sort

/-- What Round tells. -/
def RoundIs (f : Fm) (mode : Int) (g : Bool) (Y q : Nat) : Prop :=
  (f.kind = 4 ∧ (g = true ∨ Y = 0) ∧ q = f.nan) ∨ ((f.kind = 4 → g = false ∧ Y ≠ 0) ∧ ∃ k over, NearIs f (mostN f g) Y k over ∧ q = if over = true then largeN f mode g else patN f g k)
/-- Is there no magnitude? -/
def NoneIs (f : Fm) (g : Bool) (Y : Nat) (bb : Bool) : Prop := (bb = true ∧ f.kind = 4 ∧ (g = true ∨ Y = 0)) ∨ (bb = false ∧ (f.kind = 4 → g = false ∧ Y ≠ 0))
theorem near_le {f : Fm} {most Y k : Nat} {over : Bool} (hm : 1 ≤ most) (h : NearIs f most Y k over) : k ≤ most := by
  rcases h with ⟨_, rfl, _⟩ | ⟨_, _, k0, h1, rfl⟩
  · exact Nat.le_refl _
  · have := h1.le
    unfold lifted
    split <;> omega

theorem alloc7 {w : World} (f : Fm) (w1 : World) (g : Below w.heap.size w w1) :
    ∃ wa, wa = w1.alloc (.cells #[.int .i64 f.kind, .int .i64 f.width, .int .i64 f.man, .int .i64 f.bias, U f.top, U f.inf, U f.nan] 55) ∧ Blk wa w1.heap.size 55 #[.int .i64 f.kind, .int .i64 f.width, .int .i64 f.man, .int .i64 f.bias, U f.top, U f.inf, U f.nan] ∧ Below w.heap.size w wa ∧ Below w1.heap.size w1 wa :=
  ⟨_, rfl, Blk.new w1 _ _, g.trans (((Below.refl _ _).alloc (Nat.le_refl _) _).mono g.size), (Below.refl _ _).alloc (Nat.le_refl _) _⟩
theorem rest7 {w2 : World} {b : Nat} {t : TypeId} {x0 x1 x2 x3 x4 x5 x6 : Value} (hk : Blk w2 b t #[x0, x1, x2, x3, x4, x5, x6]) :
    w2.cell? ⟨b, 0, none⟩ = some x0 ∧ w2.cell? ⟨b, 1, none⟩ = some x1 ∧ w2.cell? ⟨b, 2, none⟩ = some x2 ∧ w2.cell? ⟨b, 3, none⟩ = some x3 ∧ w2.cell? ⟨b, 4, none⟩ = some x4 ∧ w2.cell? ⟨b, 5, none⟩ = some x5 ∧ w2.cell? ⟨b, 6, none⟩ = some x6 :=
  ⟨Blk.cell hk 0, Blk.cell hk 1, Blk.cell hk 2, Blk.cell hk 3, Blk.cell hk 4, Blk.cell hk 5, Blk.cell hk 6⟩

set_option maxHeartbeats 6400000 in
set_option maxRecDepth 100000 in
/-- round.Round. -/
theorem round_any (n : Nat) (mode : Int) (g : Bool) (vn : Value) (x : Nat) (t f : Int) (w : World) (h1 : 1 ≤ n) (h2 : n < 15) (hmode : mode = 1 ∨ mode = 2) (hN : Num w vn x) (hx : XOk x t f) (hE : Env w) :
    Calls Tryz.prog 41 #[.int .i64 n, .int .i64 mode, .agg #[.bool g, vn, .int .i64 t, .int .i64 f]] w fun r w' => ∃ q, r = .returned (.tuple #[U q, .int .i64 0]) ∧ Hid (RoundIs (formAt n) mode g (ex x t f) q) ∧ Below w.heap.size w w' := by
  have hf := form_is h1 h2
  have hm1 := mostN_ge hf g
  have hb0 := (new4 w 25 (.bool g) vn (.int .i64 t) (.int .i64 f)).2
  have HK := Lib.hid (new4 w 25 (.bool g) vn (.int .i64 t) (.int .i64 f)).1
  have HB := Lib.hid hb0
  have HE := Lib.hid (hE.below hb0)
  have HN := Lib.hid (hN.below hb0)
  have Fo := Lib.hid fun W (hE : Env W) => fof_any n W h1 h2 hE.ft hE.ft.lt
  have Rt := Lib.hid fun W (h : Num W vn x) => right_any g vn x t f W h hx.lw (by have := hx.t1; omega) (by have := hx.t2; omega) (by have := hx.f1; omega) (by have := hx.f2; omega)
  have Ze := Lib.hid fun W (h : Num W vn x) => rzero_any g vn x t f W h
  have HX := Lib.hid (show x = 0 ↔ ex x t f = 0 from ⟨fun q => by rw [q, ex_zero], fun q => Classical.byContradiction fun r => by have := ex_pos r t f; omega⟩)
  have Ne := Lib.hid fun (hn : g = true → (formAt n).kind ≠ 4) W (h : Num W vn x) (hE : Env W) => nearest_any n g g vn x t f W h1 h2 hn h hx hE
  have La := Lib.hid fun (hn : g = true → (formAt n).kind ≠ 4) W (hE : Env W) => large_any n mode g W h1 h2 hn hE
  have Pt := Lib.hid fun (hn : g = true → (formAt n).kind ≠ 4) k (hk : k ≤ mostN (formAt n) g) W (hE : Env W) => pattern_any n g k W h1 h2 hn hk hE
  obtain ⟨Y, hY⟩ : ∃ Y, Y = ex x t f := ⟨_, rfl⟩
  rw [← hY] at HX Ne ⊢
  obtain ⟨ff, hff⟩ : ∃ ff, ff = formAt n := ⟨_, rfl⟩
  rw [← hff] at Fo Ne La Pt hm1 ⊢
  have HM1 := Lib.hid (show 1 ≤ mostN ff g by omega)
  clear hY hff hm1 hb0 hE hN hx hf
  have tm : ((mode != 1) = false) ∨ ((mode != 1) = true ∧ (mode != 2) = false) := by
    rcases hmode with rfl | rfl
    · left; rfl
    · right; exact ⟨rfl, rfl⟩
  clear hmode
  go_enter Tryz.func41, Tryz.ntmps41
  go_wp2_with fail
  ((with_reducible refine (Fo.out _ HE.out).mono ?_); rintro r w1 ⟨rfl, g1⟩)
  have G1 := Lib.hid (HB.out.trans (g1.mono HB.out.size))
  obtain ⟨wa, hwa, hka, B1, b2⟩ := alloc7 (w := w) ff w1 G1.out
  have HKX := Lib.hid (Blk.below (Blk.below HK.out g1 HK.out.lt) b2 (Nat.lt_of_lt_of_le HK.out.lt g1.size))
  have HKF := Lib.hid hka
  have HN1 := Lib.hid (HN.out.below (g1.trans (b2.mono g1.size)))
  have HE1 := Lib.hid (HE.out.below (g1.trans (b2.mono g1.size)))
  have HB1 := Lib.hid B1
  clear g1 b2 hka B1 HK HN HE HB G1 Fo
  obtain ⟨k0, k1, k2, k3⟩ := rest4 HKX.out
  obtain ⟨j0, j1, j2, j3, j4, j5, j6⟩ := rest7 HKF.out
  go_upto_region 4 with (fail)
  rw [← hwa]
  clear hwa
  go_cut [21] from 22 to 32 (fun c wz => c = .bool false ∧ Hid (Below wa.heap.size wa wz))
  case first =>
    rcases tm with t1 | ⟨t1, t2⟩
    all_goals
      go_wp2_with fail
      ((with_reducible refine (Rt.out _ HN1.out).mono ?_); rintro r w2 ⟨rfl, g2⟩)
      have G2 := Lib.hid g2
      clear g2
      go_wp2_with fail
      go_meet
      exact ⟨rfl, G2⟩
  case rest =>
    obtain ⟨rfl, hwz⟩ := hcut
    clear k0 k1 k2 k3 j0 j1 j2 j3 j4 j5 j6 Rt tm
    have HKX1 := Lib.hid (Blk.below HKX.out hwz.out HKX.out.lt)
    have HKF1 := Lib.hid (Blk.below HKF.out hwz.out HKF.out.lt)
    have HN2 := Lib.hid (HN1.out.below hwz.out)
    have HE2 := Lib.hid (HE1.out.below hwz.out)
    have HB2 := Lib.hid (HB1.out.trans (hwz.out.mono HB1.out.size))
    clear HKX HKF HN1 HE1 HB1 hwz
    obtain ⟨wd, rfl⟩ : ∃ wd, wd = wc := ⟨_, rfl⟩
    obtain ⟨k0, k1, k2, k3⟩ := rest4 HKX1.out
    obtain ⟨j0, j1, j2, j3, j4, j5, j6⟩ := rest7 HKF1.out
    go_upto_region 6 with (fail)
    go_cut [33] from 34 to 44 (fun c wz => ∃ bb : Bool, c = .bool bb ∧ Hid (NoneIs ff g Y bb) ∧ Hid (Below wd.heap.size wd wz))
    case first =>
      by_cases c4 : ff.kind = 4
      · have t4 : (ff.kind == 4) = true := by simpa using c4
        have C4 := Lib.hid c4
        clear c4
        cases g
        · go_wp2_with fail
          ((with_reducible refine (Ze.out _ HN2.out).mono ?_); rintro r w2 ⟨rfl, g2⟩)
          have G2 := Lib.hid g2
          clear g2
          by_cases c3 : x = 0
          · have C3 := Lib.hid (HX.out.1 c3)
            rw [decide_eq_true c3]
            clear c3
            go_wp2_with fail
            go_meet
            exact ⟨true, rfl, Lib.hid (.inl ⟨rfl, C4.out, .inr C3.out⟩), G2⟩
          · have C3 := Lib.hid (fun q => c3 (HX.out.2 q))
            rw [decide_eq_false c3]
            clear c3
            go_wp2_with fail
            go_meet
            exact ⟨false, rfl, Lib.hid (.inr ⟨rfl, fun _ => ⟨rfl, C3.out⟩⟩), G2⟩
        · go_wp2_with fail
          go_meet
          exact ⟨true, rfl, Lib.hid (.inl ⟨rfl, C4.out, .inl rfl⟩), Lib.hid (Below.refl _ _)⟩
      · have t4 : (ff.kind == 4) = false := by simpa using c4
        have C4 := Lib.hid c4
        clear c4
        go_wp2_with fail
        go_meet
        exact ⟨false, rfl, Lib.hid (.inr ⟨rfl, fun q => absurd q C4.out⟩), Lib.hid (Below.refl _ _)⟩
    case rest =>
      obtain ⟨bb, rfl, hbb, hwz⟩ := hcut
      clear k0 k1 k2 k3 j0 j1 j2 j3 j4 j5 j6 Ze HX
      have HKX3 := Lib.hid (Blk.below HKX1.out hwz.out HKX1.out.lt)
      have HKF3 := Lib.hid (Blk.below HKF1.out hwz.out HKF1.out.lt)
      have HN3 := Lib.hid (HN2.out.below hwz.out)
      have HE3 := Lib.hid (HE2.out.below hwz.out)
      have HB3 := Lib.hid (HB2.out.trans (hwz.out.mono HB2.out.size))
      clear HKX1 HKF1 HN2 HE2 HB2 hwz
      obtain ⟨we, rfl⟩ : ∃ we, we = wc := ⟨_, rfl⟩
      obtain ⟨k0, k1, k2, k3⟩ := rest4 HKX3.out
      obtain ⟨j0, j1, j2, j3, j4, j5, j6⟩ := rest7 HKF3.out
      rcases hbb.out with ⟨rfl, q1, q2⟩ | ⟨rfl, q1⟩
      · have Q := Lib.hid (And.intro q1 q2)
        clear q1 q2 hbb
        go_wp2_with fail
        go_ret2
        exact ⟨ff.nan, rfl, Lib.hid (.inl ⟨Q.out.1, Q.out.2, rfl⟩), HB3.out⟩
      · have Q := Lib.hid q1
        have hn : g = true → ff.kind ≠ 4 := by
          intro a b
          have := (q1 b).1
          rw [a] at this; cases this
        have HNN := Lib.hid hn
        clear q1 hbb hn
        go_wp2_with fail
        ((with_reducible refine (Ne.out HNN.out _ HN3.out HE3.out).mono ?_); rintro r w6 ⟨k, over, rfl, hne, g6⟩)
        have HKX4 := Lib.hid (Blk.below HKX3.out g6 HKX3.out.lt)
        have HKF4 := Lib.hid (Blk.below HKF3.out g6 HKF3.out.lt)
        have HE4 := Lib.hid (HE3.out.below g6)
        have HB4 := Lib.hid (HB3.out.trans (g6.mono HB3.out.size))
        clear g6 k0 k1 k2 k3 j0 j1 j2 j3 j4 j5 j6
        obtain ⟨k0, k1, k2, k3⟩ := rest4 HKX4.out
        obtain ⟨j0, j1, j2, j3, j4, j5, j6⟩ := rest7 HKF4.out
        cases over
        · have hkl := Lib.hid (near_le HM1.out hne.out)
          go_wp2_with fail
          ((with_reducible refine (Pt.out HNN.out k hkl.out _ HE4.out).mono ?_); rintro r w7 ⟨rfl, g7⟩)
          go_wp2_with fail
          go_ret2
          exact ⟨_, rfl, Lib.hid (.inr ⟨Q.out, k, false, hne.out, by rw [if_neg (by decide)]⟩), HB4.out.trans (g7.mono HB4.out.size)⟩
        · go_wp2_with fail
          ((with_reducible refine (La.out HNN.out _ HE4.out).mono ?_); rintro r w7 ⟨rfl, g7⟩)
          go_wp2_with fail
          go_ret2
          exact ⟨_, rfl, Lib.hid (.inr ⟨Q.out, k, true, hne.out, by rw [if_pos rfl]⟩), HB4.out.trans (g7.mono HB4.out.size)⟩
end Go.Proofs.YtnlpkehllihllaaGreatDoor
