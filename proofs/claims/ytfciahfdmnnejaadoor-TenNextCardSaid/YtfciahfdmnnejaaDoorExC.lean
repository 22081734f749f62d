/-
  The walks of exact.size, exact.scaled and exact.Cmp, of numbers without fives.
-/
import Derived.Test.YtfciahfdmnnejaaDoorAdd
import Derived.Test.YtfciahfdmnnejaaDoorSigA
import Derived.Test.YtfciahfdmnnejaaDoorGoes
import Derived.Deep.RegionHeld3
namespace Go.Proofs.YtfciahfdmnnejaaDoor
open Go.RowKit Go.Sort

theorem below_of_drew {w w' : World} (h : Below w.drew.heap.size w.drew w') : Below w.heap.size w w' := ⟨h.os, h.tape, h.output, h.size, h.block⟩
set_option maxHeartbeats 1600000 in
set_option maxRecDepth 100000 in
/-- exact.size. -/
theorem size_any (g : Bool) (vn : Value) (x : Nat) (t : Int) (w : World) (h : Num w vn x) (hx : lw x ≤ 64) (h1 : -5000 ≤ t) (h2 : t ≤ 5000) :
    Calls Tryd.prog 56 #[.agg #[.bool g, vn, .int .i64 t, .int .i64 0]] w fun e w' => e = .returned (.int .i64 ((blen x : Int) + t)) ∧ Below w.heap.size w w' := by
  have hb := blen_le_lw x
  have hN := h.below ((Below.refl _ _).alloc (Nat.le_refl _) (.cells #[.bool g, vn, .int .i64 t, .int .i64 0] 43))
  have hW : Below w.heap.size w (w.alloc (.cells #[.bool g, vn, .int .i64 t, .int .i64 0] 43)) := (Below.refl _ _).alloc (Nat.le_refl _) _
  have hk : Blk (w.alloc (.cells #[.bool g, vn, .int .i64 t, .int .i64 0] 43)) w.heap.size 43 #[.bool g, vn, .int .i64 t, .int .i64 0] := Blk.new w 43 _
  have Hb := Lib.hid fun W (h : Num W vn x) => bits_any vn x W h (by omega)
  obtain ⟨n, hn⟩ : ∃ n, n = blen x := ⟨_, rfl⟩
  rw [← hn] at Hb hb ⊢
  have HW := Lib.hid hW
  have HN := Lib.hid hN
  have HK := Lib.hid hk
  clear hW hN hk hn h
  go_enter Tryd.func56, Tryd.ntmps56
  go_wp2_with fail
  obtain ⟨w1, hw1⟩ : ∃ w1, w1 = w.alloc (.cells #[.bool g, vn, .int .i64 t, .int .i64 0] 43) := ⟨_, rfl⟩
  rw [← hw1] at HW HN HK ⊢
  have k1 : w1.cell? ⟨w.heap.size, 1, none⟩ = some vn := Blk.cell HK.out 1
  have k2 : w1.cell? ⟨w.heap.size, 2, none⟩ = some (.int .i64 t) := Blk.cell HK.out 2
  have k3 : w1.cell? ⟨w.heap.size, 3, none⟩ = some (.int .i64 0) := Blk.cell HK.out 3
  clear hw1
  go_quiet ((go_at_call 26; exact Calls.quiet_of_same ((Hb.out _ (HN.out.drewN _)).mono fun _ _ h => ⟨h.1, h.2.symm⟩)))
  go_wp2_with fail
  go_ret
  exact ⟨rfl, below_drewN HW.out _⟩

set_option maxHeartbeats 1600000 in
set_option maxRecDepth 100000 in
/-- exact.scaled without fives. -/
theorem scaled_any (vn : Value) (x : Nat) (t : Int) (w : World) (h : Num w vn x) (hx : lw x ≤ 64) (h1 : -5000 ≤ t) (h2 : t ≤ 5000) :
    Calls Tryd.prog 57 #[vn, .int .i64 t, .int .i64 0] w fun e w' => ∃ v, e = .returned v ∧ Num w' v (x * 2 ^ t.toNat) ∧ Below w.heap.size w w' := by
  obtain ⟨m, hm⟩ : ∃ m, m = t.toNat := ⟨_, rfl⟩
  rw [← hm]
  have em : max t 0 = (m : Int) := by omega
  have hm5 : m ≤ 5000 := by omega
  have e0 : min (0 : Int) 20000 = 0 := by omega
  have Hs := Lib.hid fun W (h : Num W vn x) k hk => shl_of vn x k m W h hk hm5 (by omega)
  have H := Lib.hid h
  clear hm h
  go_enter Tryd.func57, Tryd.ntmps57
  go_wp2_with fail
  go_loopw [0, 2] (fun a f wr => a = vn ∧ f = .int .i64 0 ∧ Hid (wr = w)) (fun _ _ _ => 0)
  case atStart => exact ⟨rfl, rfl, rfl⟩
  case round =>
    obtain ⟨rfl, rfl, hwr⟩ := hrel
    go_wp2_with fail
    refine (Hs.out _ (by rw [hwr.out]; exact H.out) _ rfl).mono ?_
    rintro e w1 ⟨v1, rfl, n1, g1⟩
    rw [hwr.out] at g1
    go_wp2_with fail
    go_ret
    exact ⟨v1, rfl, n1, g1⟩

set_option maxHeartbeats 3200000 in
set_option maxRecDepth 100000 in
/-- exact.Cmp of two numbers without fives that are about as great. -/
theorem cmpE_any (g k : Bool) (va vb : Value) (x y : Nat) (t5 t6 : Int) (w : World) (ha : Num w va x) (hb : Num w vb y) (hx : lw x ≤ 16) (hy : lw y ≤ 16) (hx0 : x ≠ 0) (hy0 : y ≠ 0)
    (a1 : -2400 ≤ t5) (a2 : t5 ≤ 2400) (b1 : -2400 ≤ t6) (b2 : t6 ≤ 2400) (f1 : (blen x : Int) + t5 - ((blen y : Int) + t6) ≤ 6) (f2 : -6 ≤ (blen x : Int) + t5 - ((blen y : Int) + t6)) :
    Calls Tryd.prog 32 #[.agg #[.bool g, va, .int .i64 t5, .int .i64 0], .agg #[.bool k, vb, .int .i64 t6, .int .i64 0]] w fun e w' => e = .returned (.int .i64 (cmpI ((x * 2 ^ (t5 - t6).toNat : Nat) : Int) ((y * 2 ^ (-(t5 - t6)).toNat : Nat) : Int))) ∧ Below w.heap.size w w' := by
  have Sa := Lib.hid fun W (h : Num W va x) => size_any g va x t5 W h (by omega) (by omega) (by omega)
  have Sb := Lib.hid fun W (h : Num W vb y) => size_any k vb y t6 W h (by omega) (by omega) (by omega)
  have Ca := Lib.hid fun W (h : Num W va x) => scaled_any va x (t5 - t6) W h (by omega) (by omega) (by omega)
  have Cb := Lib.hid fun W (h : Num W vb y) => scaled_any vb y (-(t5 - t6)) W h (by omega) (by omega) (by omega)
  have hbx := blen_le_lw x
  have hby := blen_le_lw y
  have hlX : lw (x * 2 ^ (t5 - t6).toNat) ≤ 17592186044416 := by
    have h3 := lw_mul x (2 ^ (t5 - t6).toNat)
    have h4 : lw (2 ^ (t5 - t6).toNat) ≤ 5001 := lw_twos (by omega)
    omega
  have lx := lw_pos hx0
  have ly := lw_pos hy0
  obtain ⟨X, hX⟩ : ∃ X, X = x * 2 ^ (t5 - t6).toNat := ⟨_, rfl⟩
  obtain ⟨Y, hY⟩ : ∃ Y, Y = y * 2 ^ (-(t5 - t6)).toNat := ⟨_, rfl⟩
  rw [← hX] at Ca hlX ⊢
  rw [← hY] at Cb ⊢
  obtain ⟨fa, hfa⟩ : ∃ fa, fa = (blen x : Int) + t5 := ⟨_, rfl⟩
  obtain ⟨fb, hfb⟩ : ∃ fb, fb = (blen y : Int) + t6 := ⟨_, rfl⟩
  have fa1 : -10000 ≤ fa := by omega
  have fa2 : fa ≤ 10000 := by omega
  have fb1 : -10000 ≤ fb := by omega
  have fb2 : fb ≤ 10000 := by omega
  rw [← hfa] at Sa f1 f2
  rw [← hfb] at Sb f1 f2
  have hWx : Below w.heap.size w ((w.alloc (.cells #[.bool g, va, .int .i64 t5, .int .i64 0] 43)).alloc (.cells #[.bool k, vb, .int .i64 t6, .int .i64 0] 43)) := ((Below.refl _ _).alloc (Nat.le_refl _) _).alloc (by simp) _
  have hka : Blk ((w.alloc (.cells #[.bool g, va, .int .i64 t5, .int .i64 0] 43)).alloc (.cells #[.bool k, vb, .int .i64 t6, .int .i64 0] 43)) w.heap.size 43 #[.bool g, va, .int .i64 t5, .int .i64 0] := (Blk.new w 43 _).alloc _
  have hkb : Blk ((w.alloc (.cells #[.bool g, va, .int .i64 t5, .int .i64 0] 43)).alloc (.cells #[.bool k, vb, .int .i64 t6, .int .i64 0] 43)) (w.heap.size + 1) 43 #[.bool k, vb, .int .i64 t6, .int .i64 0] := by
    have h := Blk.new (w.alloc (.cells #[.bool g, va, .int .i64 t5, .int .i64 0] 43)) 43 #[.bool k, vb, .int .i64 t6, .int .i64 0]
    simpa using h
  have Ha := Lib.hid (ha.below hWx)
  have Hb := Lib.hid (hb.below hWx)
  have HW := Lib.hid hWx
  have HKa := Lib.hid hka
  have HKb := Lib.hid hkb
  obtain ⟨A, ca, rfl, hca, hma, _⟩ := ha
  obtain ⟨B, cb, rfl, hcb, hmb, _⟩ := hb
  have t1 : ((lw x : Int) == 0) = false := by rw [beq_eq_false_iff_ne]; omega
  have t2 : ((lw y : Int) == 0) = false := by rw [beq_eq_false_iff_ne]; omega
  have t3 : decide ((6 : Int) < fa - fb) = false := by simp; omega
  have t4 : decide (fa - fb < -6) = false := by simp; omega
  have Lx := Lib.hid hlX
  clear hX hY hfa hfb hWx hka hkb hlX hbx hby hx0 hy0
  go_enter Tryd.func32, Tryd.ntmps32
  go_upto_region 3 with (fail)
  obtain ⟨wx, hwx⟩ : ∃ wx, wx = (w.alloc (.cells #[.bool g, .slice A (lw x) ca, .int .i64 t5, .int .i64 0] 43)).alloc (.cells #[.bool k, .slice B (lw y) cb, .int .i64 t6, .int .i64 0] 43) := ⟨_, rfl⟩
  rw [← hwx] at HW HKa HKb Ha Hb ⊢
  clear hwx
  have hlt : w.heap.size + 1 < wx.heap.size := Blk.lt HKb.out
  go_cut [5] from 23 to 27 (fun s wz => s = .int .i64 (fa - fb) ∧ Hid (Below wx.heap.size wx wz))
  case first =>
    have k0 : wx.cell? ⟨w.heap.size, 0, none⟩ = some (.bool g) := Blk.cell HKa.out 0
    have k1 : wx.cell? ⟨w.heap.size, 1, none⟩ = some (.slice A (lw x) ca) := Blk.cell HKa.out 1
    have k2 : wx.cell? ⟨w.heap.size, 2, none⟩ = some (.int .i64 t5) := Blk.cell HKa.out 2
    have k3 : wx.cell? ⟨w.heap.size, 3, none⟩ = some (.int .i64 0) := Blk.cell HKa.out 3
    have j0 : wx.cell? ⟨w.heap.size + 1, 0, none⟩ = some (.bool k) := Blk.cell HKb.out 0
    have j1 : wx.cell? ⟨w.heap.size + 1, 1, none⟩ = some (.slice B (lw y) cb) := Blk.cell HKb.out 1
    have j2 : wx.cell? ⟨w.heap.size + 1, 2, none⟩ = some (.int .i64 t6) := Blk.cell HKb.out 2
    have j3 : wx.cell? ⟨w.heap.size + 1, 3, none⟩ = some (.int .i64 0) := Blk.cell HKb.out 3
    go_region_held3 (fun w' => w'.cell? ⟨w.heap.size, 0, none⟩ = some (.bool g) ∧ w'.cell? ⟨w.heap.size, 1, none⟩ = some (.slice A (lw x) ca) ∧ w'.cell? ⟨w.heap.size, 2, none⟩ = some (.int .i64 t5) ∧ w'.cell? ⟨w.heap.size, 3, none⟩ = some (.int .i64 0) ∧
        w'.cell? ⟨w.heap.size + 1, 0, none⟩ = some (.bool k) ∧ w'.cell? ⟨w.heap.size + 1, 1, none⟩ = some (.slice B (lw y) cb) ∧ w'.cell? ⟨w.heap.size + 1, 2, none⟩ = some (.int .i64 t6) ∧ w'.cell? ⟨w.heap.size + 1, 3, none⟩ = some (.int .i64 0))
      (first
        | go_keep
        | (go_split_ands
           refine ⟨?_, ?_, ?_, ?_, ?_, ?_, ?_, ?_⟩ <;> (rw [gg.cell (World.block_lt_of_cell? _ _ (by assumption))]; assumption)))
      ((first
        | (go_at_call 56; (with_reducible refine (Sa.out _ (by first | exact Ha.out.drew | exact Ha.out.drew.below gb)).mono ?_); rintro e ws ⟨rfl, gg⟩; have ga := gg)
        | (go_at_call 56; (with_reducible refine (Sb.out _ (by first | exact Hb.out.drew | exact Hb.out.drew.below ga)).mono ?_); rintro e ws ⟨rfl, gg⟩; have gb := gg)))
    all_goals
      go_wp2_with fail
      go_meet
      exact ⟨congrArg (Value.int .i64) (by rw [IntKind.wrap_i64]; omega), Lib.hid (below_of_drew (ga.trans (gb.mono ga.size)))⟩
  case rest =>
    obtain ⟨rfl, hb0⟩ := hcut
    have b1 := hb0.out
    have c1 : wc.cell? ⟨w.heap.size, 1, none⟩ = some (.slice A (lw x) ca) := (b1.cell (p := ⟨w.heap.size, 1, none⟩) (by show w.heap.size < _; omega)).trans (Blk.cell HKa.out 1)
    have c2 : wc.cell? ⟨w.heap.size, 2, none⟩ = some (.int .i64 t5) := (b1.cell (p := ⟨w.heap.size, 2, none⟩) (by show w.heap.size < _; omega)).trans (Blk.cell HKa.out 2)
    have c3 : wc.cell? ⟨w.heap.size, 3, none⟩ = some (.int .i64 0) := (b1.cell (p := ⟨w.heap.size, 3, none⟩) (by show w.heap.size < _; omega)).trans (Blk.cell HKa.out 3)
    have d1 : wc.cell? ⟨w.heap.size + 1, 1, none⟩ = some (.slice B (lw y) cb) := (b1.cell (p := ⟨w.heap.size + 1, 1, none⟩) hlt).trans (Blk.cell HKb.out 1)
    have d2 : wc.cell? ⟨w.heap.size + 1, 2, none⟩ = some (.int .i64 t6) := (b1.cell (p := ⟨w.heap.size + 1, 2, none⟩) hlt).trans (Blk.cell HKb.out 2)
    have d3 : wc.cell? ⟨w.heap.size + 1, 3, none⟩ = some (.int .i64 0) := (b1.cell (p := ⟨w.heap.size + 1, 3, none⟩) hlt).trans (Blk.cell HKb.out 3)
    have Na := Lib.hid (Ha.out.below b1)
    have Nb := Lib.hid (Hb.out.below b1)
    have B1 := Lib.hid (HW.out.trans (b1.mono HW.out.size))
    clear b1 hb0 HW HKa HKb Ha Hb hlt
    obtain ⟨wy, rfl⟩ : ∃ wy, wy = wc := ⟨_, rfl⟩
    go_upto_region 8 with (fail)
    go_cut [6, 7] from 34 to 43 (fun p q wz => p = .int .i64 (t5 - t6) ∧ q = .int .i64 0 ∧ ∃ n, Hid (wz = wy.drewN n))
    case first =>
      go_quiet (fail)
      go_wp2_with fail
      go_meet
      exact ⟨rfl, rfl, _, rfl⟩
    case rest =>
      obtain ⟨rfl, rfl, nq, hwz⟩ := hcut
      obtain ⟨wz, rfl⟩ : ∃ wz, wz = wc := ⟨_, rfl⟩
      have e1 : wz.cell? ⟨w.heap.size, 1, none⟩ = some (.slice A (lw x) ca) := by rw [hwz.out]; exact c1
      have e2 : wz.cell? ⟨w.heap.size + 1, 1, none⟩ = some (.slice B (lw y) cb) := by rw [hwz.out]; exact d1
      have Ma := Lib.hid (show Num wz (.slice A (lw x) ca) x by rw [hwz.out]; exact Na.out.drewN _)
      have Mb := Lib.hid (show Num wz (.slice B (lw y) cb) y by rw [hwz.out]; exact Nb.out.drewN _)
      have B2 := Lib.hid (show Below w.heap.size w wz by rw [hwz.out]; exact below_drewN B1.out _)
      clear hwz Na Nb B1 c1 c2 c3 d1 d2 d3
      have gw0 : IntKind.i64.wrap 0 = 0 := rfl
      have nw : IntKind.i64.wrap (-(t5 - t6)) = -(t5 - t6) := by rw [IntKind.wrap_i64]; omega
      go_wp2_with fail
      go_region_held3 (fun w' => w'.cell? ⟨w.heap.size, 1, none⟩ = some (.slice A (lw x) ca) ∧ w'.cell? ⟨w.heap.size + 1, 1, none⟩ = some (.slice B (lw y) cb))
        (first
          | go_keep
          | (go_split_ands
             refine ⟨?_, ?_⟩ <;> (rw [gg.cell (World.block_lt_of_cell? _ _ (by assumption))]; assumption)))
        ((first
          | (go_at_call 57; (with_reducible refine (Ca.out _ (by first | exact Ma.out.drew | exact Ma.out.drew.below gb)).mono ?_); rintro e ws ⟨ua, rfl, na, gg⟩; have ga := gg)
          | (go_at_call 57; (with_reducible refine (Cb.out _ (by first | exact Mb.out.drew | exact Mb.out.drew.below ga)).mono ?_); rintro e ws ⟨ub, rfl, nb, gg⟩; have gb := gg)
          | (go_at_call 15; (with_reducible refine (cmp_any _ _ X Y _ (by exact na.below gb) (by exact nb) Lx.out).mono ?_); rintro e ws ⟨rfl, q, rfl⟩)))
      go_wp2_with fail
      go_ret
      exact ⟨rfl, below_drewN (B2.out.trans ((below_of_drew (ga.trans (gb.mono ga.size))).mono B2.out.size)) q⟩
end Go.Proofs.YtfciahfdmnnejaaDoor
