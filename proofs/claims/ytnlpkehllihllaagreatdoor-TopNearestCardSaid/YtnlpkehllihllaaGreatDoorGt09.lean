/-
  A part of the proofs that calipertop.TopBack, TopFloats and TopNearest return true for every input and leave it as it was: part 9 of 47.
-/
import Derived.Test.YtnlpkehllihllaaGreatDoorGt07
import Derived.Deep.DeepCutAuto
import Derived.Test.YtnlpkehllihllaaGreatDoorGt08
import Derived.Test.YtnlpkehllihllaaGreatDoorGt04
import Derived.Test.YtnlpkehllihllaaGreatDoorGt05
import Derived.Deep.RegionHeld3
/-
  Numbers of two words; bits against words.
-/
namespace Go.Proofs.YtnlpkehllihllaaGreatDoor
open Go.RowKit

/-- A number of two words, in memory. -/
theorem num_two {w : World} {v : Value} {x : Nat} (h : Num w v x) (hx : lw x = 2) : ∃ b off c, v = .slice (some ⟨b, off, none⟩) 2 c ∧ w.cell? ⟨b, off + 1, none⟩ = some (U (x / 18446744073709551616)) ∧ w.cell? ⟨b, off, none⟩ = some (U (x % 18446744073709551616)) := by
  obtain ⟨A, c, rfl, hc, hm, hr⟩ := h
  obtain ⟨b, off, rfl, hb, hcell⟩ := hr.at_ (k := 0) (by rw [wds_length]; omega)
  have h0 := hcell 0 (by rw [wds_length]; omega)
  have h1 := hcell 1 (by rw [wds_length]; omega)
  have hl := lw_lt x
  rw [hx] at hl
  have e1 : (wds x).getD 1 0 = x / 18446744073709551616 := by
    rw [wds_at]
    have : bp 1 = 18446744073709551616 := rfl
    rw [this]
    have hb2 : bp 2 = 18446744073709551616 * 18446744073709551616 := rfl
    rw [hb2] at hl
    exact Nat.mod_eq_of_lt (Nat.div_lt_of_lt_mul hl)
  have e0 : (wds x).getD 0 0 = x % 18446744073709551616 := by rw [wds_at, bp_zero, Nat.div_one]
  rw [e1] at h1
  rw [e0] at h0
  rw [hx]
  exact ⟨b, off, c, rfl, h1, by simpa using h0⟩

theorem lw_two {x : Nat} (h1 : 2 ^ 127 ≤ x) (h2 : x < 2 ^ 128) : lw x = 2 := by
  have h3 : lw x ≤ 2 := lw_le (by rw [bp_two]; exact h2)
  have h4 : ¬ lw x ≤ 1 := fun h => by
    have := lw_lt x
    have := bp_mono h
    have e : bp 1 = 2 ^ 64 := rfl
    rw [e] at this
    have : (2 : Nat) ^ 64 ≤ 2 ^ 127 := Nat.pow_le_pow_right (by omega) (by omega)
    omega
  omega

theorem cutI_nat {n : Nat} (h : n ≤ 5000) : (cutI n).toNat = n := by unfold cutI; omega
theorem lw_pow {b N : Nat} (h1 : 1 ≤ b) (h2 : b < 18446744073709551616) : lw (b ^ N) ≤ N + 1 := lw_le (pow_lt_bp h1 h2)
theorem blen_le_lw (x : Nat) : blen x ≤ 64 * lw x := by
  by_cases h : x = 0
  · subst h; rw [blen_zero]; omega
  · have h1 := blen_words h
    have h2 := blen_le64 (wds_get x (lw x - 1))
    have h3 := lw_pos h
    omega
end Go.Proofs.YtnlpkehllihllaaGreatDoor

/-
  nat.Div by whatever number but 0.
-/
namespace Go.Proofs.YtnlpkehllihllaaGreatDoor
open Go.RowKit

/-- nat.Div by whatever number but 0. -/
theorem div_any (va vb : Value) (x y : Nat) (w : World) (ha : Num w va x) (hb : Num w vb y) (hs : lw x ≤ 1000000) (hy : y ≠ 0) :
    Calls Tryz.prog 79 #[va, vb] w fun e w' => ∃ vq vr, e = .returned (.tuple #[vq, vr, .bool true]) ∧ Num w' vq (x / y) ∧ Num w' vr (x % y) ∧ Below w.heap.size w w' := by
  rcases Nat.lt_or_ge x y with h | h
  · refine (div_less va vb x y w ha hb (by omega) h).mono ?_
    rintro e w' ⟨v, rfl, h1, h2⟩
    exact ⟨_, v, rfl, by rw [Nat.div_eq_of_lt h]; exact num_nil _, by rw [Nat.mod_eq_of_lt h]; exact h1, h2⟩
  · have h0 := lw_pos hy
    by_cases h1 : lw y = 1
    · exact div_word va vb x y w ha hb (by omega) h h1
    · exact div_many va vb x y w ha hb hs h (by omega)
end Go.Proofs.YtnlpkehllihllaaGreatDoor

/-
  The walks of exact.size, exact.scaled and exact.Cmp.
-/
namespace Go.Proofs.YtnlpkehllihllaaGreatDoor
open Go.RowKit Go.Sort

theorem below_of_drew {w w' : World} (h : Below w.drew.heap.size w.drew w') : Below w.heap.size w w' := ⟨h.os, h.tape, h.output, h.size, h.block⟩
set_option maxHeartbeats 1600000 in
set_option maxRecDepth 100000 in
/-- exact.size. -/
theorem size_any (g : Bool) (vn : Value) (x : Nat) (t f : Int) (w : World) (h : Num w vn x) (hx : lw x ≤ 1048576) (h1 : -10000 ≤ t) (h2 : t ≤ 10000) (f1 : -2500 ≤ f) (f2 : f ≤ 2500) :
    Calls Tryz.prog 32 #[.agg #[.bool g, vn, .int .i64 t, .int .i64 f]] w fun e w' => e = .returned (.int .i64 (szx x t f)) ∧ Below w.heap.size w w' := by
  have hb := blen_le_lw x
  have hN := h.below ((Below.refl _ _).alloc (Nat.le_refl _) (.cells #[.bool g, vn, .int .i64 t, .int .i64 f] 25))
  have hW : Below w.heap.size w (w.alloc (.cells #[.bool g, vn, .int .i64 t, .int .i64 f] 25)) := (Below.refl _ _).alloc (Nat.le_refl _) _
  have hk : Blk (w.alloc (.cells #[.bool g, vn, .int .i64 t, .int .i64 f] 25)) w.heap.size 25 #[.bool g, vn, .int .i64 t, .int .i64 f] := Blk.new w 25 _
  have Hb := Lib.hid fun W (h : Num W vn x) => bits_any vn x W h (by omega)
  have hl := lg5_bd f1 f2
  have HE := Lib.hid (show szx x t f = (blen x : Int) + t + lg5 f from rfl)
  obtain ⟨S, hS⟩ : ∃ S, S = szx x t f := ⟨_, rfl⟩
  rw [← hS] at HE ⊢
  obtain ⟨n, hn⟩ : ∃ n, n = blen x := ⟨_, rfl⟩
  rw [← hn] at Hb hb HE
  have m1 : IntKind.i64.wrap (f * 2321928095) = f * 2321928095 := by rw [IntKind.wrap_i64]; omega
  have m2 : (f * 2321928095).tdiv 1000000000 = lg5 f := rfl
  obtain ⟨q, hq⟩ : ∃ q, q = lg5 f := ⟨_, rfl⟩
  rw [← hq] at hl m2 HE
  have m3 : IntKind.i64.wrap q = q := by rw [IntKind.wrap_i64]; omega
  have m4 : IntKind.i64.wrap ((n : Int) + t) = (n : Int) + t := by rw [IntKind.wrap_i64]; omega
  have m5 : IntKind.i64.wrap ((n : Int) + t + q) = (n : Int) + t + q := by rw [IntKind.wrap_i64]; omega
  have HW := Lib.hid hW
  have HN := Lib.hid hN
  have HK := Lib.hid hk
  clear hW hN hk hn h hS hq
  go_enter Tryz.func32, Tryz.ntmps32
  go_wp2_with fail
  obtain ⟨w1, hw1⟩ : ∃ w1, w1 = w.alloc (.cells #[.bool g, vn, .int .i64 t, .int .i64 f] 25) := ⟨_, rfl⟩
  rw [← hw1] at HW HN HK ⊢
  have k1 : w1.cell? ⟨w.heap.size, 1, none⟩ = some vn := Blk.cell HK.out 1
  have k2 : w1.cell? ⟨w.heap.size, 2, none⟩ = some (.int .i64 t) := Blk.cell HK.out 2
  have k3 : w1.cell? ⟨w.heap.size, 3, none⟩ = some (.int .i64 f) := Blk.cell HK.out 3
  clear hw1
  go_quiet ((go_at_call 58; exact Calls.quiet_of_same ((Hb.out _ (HN.out.drewN _)).mono fun _ _ h => ⟨h.1, h.2.symm⟩)))
  go_wp2_with fail
  go_ret
  exact ⟨congrArg (fun z => Ending.returned (Value.int .i64 z)) (by rw [HE.out]), below_drewN HW.out _⟩

theorem shN_of {t : Int} (h : t ≤ 131072) : shN (max t 0) = t.toNat := by unfold shN; omega
theorem powN_of {f : Int} (h : f ≤ 10000) : powN f = f.toNat := by unfold powN; omega
set_option maxHeartbeats 1600000 in
set_option maxRecDepth 100000 in
/-- exact.scaled. -/
theorem scaled_any (vn : Value) (x : Nat) (t f : Int) (w : World) (h : Num w vn x) (hx : lw x ≤ 65536) (h1 : -20000 ≤ t) (h2 : t ≤ 20000) (f1 : -20000 ≤ f) (f2 : f ≤ 5000) :
    Calls Tryz.prog 33 #[vn, .int .i64 t, .int .i64 f] w fun e w' => ∃ v, e = .returned v ∧ Num w' v (scal x t f) ∧ Below w.heap.size w w' := by
  have e0 : min f 20000 = f := by omega
  have H := Lib.hid h
  have HS := Lib.hid (show scal x t f = x * 5 ^ f.toNat * 2 ^ t.toNat from rfl)
  obtain ⟨S, hS⟩ : ∃ S, S = scal x t f := ⟨_, rfl⟩
  rw [← hS] at HS ⊢
  have Hs := Lib.hid fun (va : Value) (y : Nat) W (h : Num W va y) (hl : lw y ≤ 131072) => shl_any va y (max t 0) W h (by omega)
  have HT := Lib.hid (shN_of (t := t) (by omega))
  have Hp := Lib.hid fun W => pow_any 5 f W (by omega) (by omega)
  have HF := Lib.hid (powN_of (f := f) (by omega))
  have hlp : lw (5 ^ f.toNat) ≤ 5001 := Nat.le_trans (lw_pow (by omega) (by omega)) (by omega)
  have hlm := lw_mul x (5 ^ f.toNat)
  obtain ⟨F, hF⟩ : ∃ F, F = 5 ^ f.toNat := ⟨_, rfl⟩
  have HFz := Lib.hid (show f ≤ 0 → F = 1 from fun q => by rw [hF, show f.toNat = 0 by omega, Nat.pow_zero])
  rw [← hF] at HS hlp hlm
  have HFe := Lib.hid hF
  have Hlm := Lib.hid hlm
  have Hm := Lib.hid fun (va vb : Value) W (ha : Num W va x) (hb : Num W vb F) => mul_any va vb x F W ha hb (by omega)
  clear h hS hF hlm
  go_enter Tryz.func33, Tryz.ntmps33
  go_wp2_with fail
  go_loopw [0, 2] (fun a c wr => ∃ (g : Int) (y : Nat), c = .int .i64 g ∧ -25000 ≤ g ∧ g ≤ 5000 ∧ Num wr a y ∧ Hid (Below w.heap.size w wr) ∧ Hid ((g = f ∧ y = x) ∨ (g ≤ 0 ∧ y = x * F))) (fun _ c _ => (intOf c).toNat)
  case atStart => exact ⟨f, x, rfl, by omega, by omega, H.out, Lib.hid (Below.refl _ _), Lib.hid (.inl ⟨rfl, rfl⟩)⟩
  case round =>
    obtain ⟨g, y, rfl, g1, g2, hy, hbe, hor⟩ := hrel
    by_cases hg : 0 < g
    · have hor' := hor.out
      have hgf : g = f ∧ y = x := by
        rcases hor' with q | ⟨q, _⟩
        · exact q
        · omega
      clear hor hor'
      obtain ⟨rfl, rfl⟩ := hgf
      have e5 : min g 5000 = g := by omega
      have HY := Lib.hid hy
      clear hy
      go_wp2_with fail
      refine (Hp.out _).mono ?_
      rintro e w1 ⟨v1, rfl, n1, b1⟩
      rw [HF.out, ← HFe.out] at n1
      have N1 := Lib.hid n1
      have B1 := Lib.hid b1
      have HY1 := Lib.hid (HY.out.below b1)
      clear n1 b1
      go_wp2_with fail
      refine (Hm.out _ _ _ HY1.out N1.out).mono ?_
      rintro e w2 ⟨v2, rfl, n2, b2⟩
      have B2 := Lib.hid (hbe.out.trans ((B1.out.trans (b2.mono B1.out.size)).mono hbe.out.size))
      clear b2
      go_wp2_with fail
      go_roundw
      case rel => exact ⟨g - 5000, y * F, rfl, by omega, by omega, n2, B2, Lib.hid (.inr ⟨by omega, rfl⟩)⟩
      case measure => simp [intOf]; omega
    · have hyy : y = x * F := by
        rcases hor.out with ⟨q1, q2⟩ | ⟨_, q⟩
        · rw [q2, HFz.out (by omega), Nat.mul_one]
        · exact q
      have hyl : lw y ≤ 131072 := by rw [hyy]; have := Hlm.out; omega
      have HY := Lib.hid hyy
      have HN := Lib.hid hy
      clear hyy hor hy
      go_wp2_with fail
      refine (Hs.out _ _ _ HN.out hyl).mono ?_
      rintro e w1 ⟨v1, rfl, n1, b1⟩
      rw [HT.out, HY.out, ← HS.out] at n1
      have B1 := Lib.hid (hbe.out.trans (b1.mono hbe.out.size))
      clear b1
      go_wp2_with fail
      go_ret
      exact ⟨v1, rfl, n1, B1.out⟩
end Go.Proofs.YtnlpkehllihllaaGreatDoor

/-
  The walk of exact.Cmp.
-/
namespace Go.Proofs.YtnlpkehllihllaaGreatDoor
open Go.RowKit Go.Sort

theorem below_two (w : World) (o p : Obj) : Below w.heap.size w ((w.alloc o).alloc p) := ((Below.refl _ _).alloc (Nat.le_refl _) _).alloc (by simp) _

set_option maxHeartbeats 1600000 in
set_option maxRecDepth 100000 in
/-- exact.Cmp where one of both has no words. -/
theorem cmpx_none (g k : Bool) (va vb : Value) (x y : Nat) (t5 f5 t6 f6 : Int) (w : World) (ha : Num w va x) (hb : Num w vb y) (hx : lw x ≤ 256) (h0 : x = 0 ∨ y = 0) :
    Calls Tryz.prog 13 #[.agg #[.bool g, va, .int .i64 t5, .int .i64 f5], .agg #[.bool k, vb, .int .i64 t6, .int .i64 f6]] w fun e w' => e = .returned (.int .i64 (cmpI (x : Int) (y : Int))) ∧ Below w.heap.size w w' := by
  have hWx := below_two w (.cells #[.bool g, va, .int .i64 t5, .int .i64 f5] 25) (.cells #[.bool k, vb, .int .i64 t6, .int .i64 f6] 25)
  have hka : Blk ((w.alloc (.cells #[.bool g, va, .int .i64 t5, .int .i64 f5] 25)).alloc (.cells #[.bool k, vb, .int .i64 t6, .int .i64 f6] 25)) w.heap.size 25 #[.bool g, va, .int .i64 t5, .int .i64 f5] := (Blk.new w 25 _).alloc _
  have hkb : Blk ((w.alloc (.cells #[.bool g, va, .int .i64 t5, .int .i64 f5] 25)).alloc (.cells #[.bool k, vb, .int .i64 t6, .int .i64 f6] 25)) (w.heap.size + 1) 25 #[.bool k, vb, .int .i64 t6, .int .i64 f6] := by
    have h := Blk.new (w.alloc (.cells #[.bool g, va, .int .i64 t5, .int .i64 f5] 25)) 25 #[.bool k, vb, .int .i64 t6, .int .i64 f6]
    simpa using h
  have Ha := Lib.hid (ha.below hWx)
  have Hb := Lib.hid (hb.below hWx)
  have HW := Lib.hid hWx
  have HKa := Lib.hid hka
  have HKb := Lib.hid hkb
  obtain ⟨A, ca, rfl, hca, hma, _⟩ := ha
  obtain ⟨B, cb, rfl, hcb, hmb, _⟩ := hb
  have Hc := Lib.hid fun W (h1 : Num W (.slice A (lw x) ca) x) (h2 : Num W (.slice B (lw y) cb) y) => cmp_any _ _ x y W h1 h2 (by omega)
  have hor : lw x = 0 ∨ lw y = 0 := by
    rcases h0 with h | h
    · exact .inl (lw_eq_zero.2 h)
    · exact .inr (lw_eq_zero.2 h)
  have Hor := Lib.hid hor
  clear h0 hWx hka hkb hor
  by_cases hx0 : lw x = 0
  · have t1 : ((lw x : Int) == 0) = true := by rw [beq_iff_eq]; omega
    clear hx0
    go_enter Tryz.func13, Tryz.ntmps13
    obtain ⟨wx, hwx⟩ : ∃ wx, wx = (w.alloc (.cells #[.bool g, .slice A (lw x) ca, .int .i64 t5, .int .i64 f5] 25)).alloc (.cells #[.bool k, .slice B (lw y) cb, .int .i64 t6, .int .i64 f6] 25) := ⟨_, rfl⟩
    rw [← hwx] at HW HKa HKb Ha Hb
    have k1 : wx.cell? ⟨w.heap.size, 1, none⟩ = some (.slice A (lw x) ca) := Blk.cell HKa.out 1
    have j1 : wx.cell? ⟨w.heap.size + 1, 1, none⟩ = some (.slice B (lw y) cb) := Blk.cell HKb.out 1
    rw [hwx] at k1 j1
    go_wp2_with fail
    rw [← hwx] at k1 j1 ⊢
    refine (Hc.out _ Ha.out Hb.out).mono ?_
    rintro e w1 ⟨rfl, n, rfl⟩
    go_wp2_with fail
    go_ret
    have hh := HW.out
    rw [hwx] at hh
    exact ⟨rfl, below_drewN hh _⟩
  · have hy0 : lw y = 0 := by
      rcases Hor.out with h | h
      · exact absurd h hx0
      · exact h
    have t1 : ((lw x : Int) == 0) = false := by rw [beq_eq_false_iff_ne]; omega
    have t2 : ((lw y : Int) == 0) = true := by rw [beq_iff_eq]; omega
    clear hx0 hy0
    go_enter Tryz.func13, Tryz.ntmps13
    obtain ⟨wx, hwx⟩ : ∃ wx, wx = (w.alloc (.cells #[.bool g, .slice A (lw x) ca, .int .i64 t5, .int .i64 f5] 25)).alloc (.cells #[.bool k, .slice B (lw y) cb, .int .i64 t6, .int .i64 f6] 25) := ⟨_, rfl⟩
    rw [← hwx] at HW HKa HKb Ha Hb
    have k1 : wx.cell? ⟨w.heap.size, 1, none⟩ = some (.slice A (lw x) ca) := Blk.cell HKa.out 1
    have j1 : wx.cell? ⟨w.heap.size + 1, 1, none⟩ = some (.slice B (lw y) cb) := Blk.cell HKb.out 1
    rw [hwx] at k1 j1
    go_wp2_with fail
    rw [← hwx] at k1 j1 ⊢
    refine (Hc.out _ Ha.out Hb.out).mono ?_
    rintro e w1 ⟨rfl, n, rfl⟩
    go_wp2_with fail
    go_ret
    have hh := HW.out
    rw [hwx] at hh
    exact ⟨rfl, below_drewN hh _⟩

set_option maxHeartbeats 3200000 in
set_option maxRecDepth 100000 in
/-- exact.Cmp of two numbers above 0. -/
theorem cmpx_some (g k : Bool) (va vb : Value) (x y : Nat) (t5 f5 t6 f6 : Int) (w : World) (ha : Num w va x) (hb : Num w vb y) (hx : lw x ≤ 256) (hy : lw y ≤ 256) (hx0 : x ≠ 0) (hy0 : y ≠ 0)
    (a1 : -2500 ≤ t5) (a2 : t5 ≤ 2500) (b1 : -2500 ≤ t6) (b2 : t6 ≤ 2500) (c1 : -2500 ≤ f5) (c2 : f5 ≤ 2500) (d1 : -2500 ≤ f6) (d2 : f6 ≤ 2500) :
    Calls Tryz.prog 13 #[.agg #[.bool g, va, .int .i64 t5, .int .i64 f5], .agg #[.bool k, vb, .int .i64 t6, .int .i64 f6]] w fun e w' => e = .returned (.int .i64 (cmpI (ex x t5 f5 : Int) (ex y t6 f6 : Int))) ∧ Below w.heap.size w w' := by
  have Sa := Lib.hid fun W (h : Num W va x) => size_any g va x t5 f5 W h (by omega) (by omega) (by omega) c1 c2
  have Sb := Lib.hid fun W (h : Num W vb y) => size_any k vb y t6 f6 W h (by omega) (by omega) (by omega) d1 d2
  have Ca := Lib.hid fun W (h : Num W va x) => scaled_any va x (t5 - t6) (f5 - f6) W h (by omega) (by omega) (by omega) (by omega) (by omega)
  have Cb := Lib.hid fun W (h : Num W vb y) => scaled_any vb y (-(t5 - t6)) (-(f5 - f6)) W h (by omega) (by omega) (by omega) (by omega) (by omega)
  have hbx := blen_le_lw x
  have hby := blen_le_lw y
  have hlX : lw (scal x (t5 - t6) (f5 - f6)) ≤ 17592186044416 := by
    have h3 := lw_mul (x * 5 ^ (f5 - f6).toNat) (2 ^ (t5 - t6).toNat)
    have h5 := lw_mul x (5 ^ (f5 - f6).toNat)
    have h4 : lw (2 ^ (t5 - t6).toNat) ≤ 5001 := Nat.le_trans (lw_pow (by omega) (by omega)) (by omega)
    have h6 : lw (5 ^ (f5 - f6).toNat) ≤ 5001 := Nat.le_trans (lw_pow (by omega) (by omega)) (by omega)
    show lw (x * 5 ^ (f5 - f6).toNat * 2 ^ (t5 - t6).toNat) ≤ _
    omega
  have hR := cmp_scal x y t5 f5 t6 f6 a1 c1 b1 d1
  have hgt : 6 < szx x t5 f5 - szx y t6 f6 → cmpI (ex x t5 f5 : Int) (ex y t6 f6 : Int) = 1 := fun q => cmpX_gt (Int.ofNat_lt.2 (far_lt hx0 a1 c1 c2 b1 d1 d2 q))
  have hlt' : szx x t5 f5 - szx y t6 f6 < -6 → cmpI (ex x t5 f5 : Int) (ex y t6 f6 : Int) = -1 := fun q => cmpX_lt (Int.ofNat_lt.2 (far_lt hy0 b1 d1 d2 a1 c1 c2 (by omega)))
  obtain ⟨R, hRR⟩ : ∃ R, R = cmpI (ex x t5 f5 : Int) (ex y t6 f6 : Int) := ⟨_, rfl⟩
  rw [← hRR] at hR hgt hlt' ⊢
  have lx := lw_pos hx0
  have ly := lw_pos hy0
  have l5 := lg5_bd c1 c2
  have l6 := lg5_bd d1 d2
  obtain ⟨X, hX⟩ : ∃ X, X = scal x (t5 - t6) (f5 - f6) := ⟨_, rfl⟩
  obtain ⟨Y, hY⟩ : ∃ Y, Y = scal y (-(t5 - t6)) (-(f5 - f6)) := ⟨_, rfl⟩
  rw [← hX] at Ca hlX hR
  rw [← hY] at Cb hR
  have sza : szx x t5 f5 = (blen x : Int) + t5 + lg5 f5 := rfl
  have szb : szx y t6 f6 = (blen y : Int) + t6 + lg5 f6 := rfl
  obtain ⟨fa, hfa⟩ : ∃ fa, fa = szx x t5 f5 := ⟨_, rfl⟩
  obtain ⟨fb, hfb⟩ : ∃ fb, fb = szx y t6 f6 := ⟨_, rfl⟩
  rw [← hfa] at Sa hgt hlt' sza
  rw [← hfb] at Sb hgt hlt' szb
  have fa1 : -100000 ≤ fa := by omega
  have fa2 : fa ≤ 100000 := by omega
  have fb1 : -100000 ≤ fb := by omega
  have fb2 : fb ≤ 100000 := by omega
  have hWx := below_two w (.cells #[.bool g, va, .int .i64 t5, .int .i64 f5] 25) (.cells #[.bool k, vb, .int .i64 t6, .int .i64 f6] 25)
  have hka : Blk ((w.alloc (.cells #[.bool g, va, .int .i64 t5, .int .i64 f5] 25)).alloc (.cells #[.bool k, vb, .int .i64 t6, .int .i64 f6] 25)) w.heap.size 25 #[.bool g, va, .int .i64 t5, .int .i64 f5] := (Blk.new w 25 _).alloc _
  have hkb : Blk ((w.alloc (.cells #[.bool g, va, .int .i64 t5, .int .i64 f5] 25)).alloc (.cells #[.bool k, vb, .int .i64 t6, .int .i64 f6] 25)) (w.heap.size + 1) 25 #[.bool k, vb, .int .i64 t6, .int .i64 f6] := by
    have h := Blk.new (w.alloc (.cells #[.bool g, va, .int .i64 t5, .int .i64 f5] 25)) 25 #[.bool k, vb, .int .i64 t6, .int .i64 f6]
    simpa using h
  have Ha := Lib.hid (ha.below hWx)
  have Hb := Lib.hid (hb.below hWx)
  have HW := Lib.hid hWx
  have HKa := Lib.hid hka
  have HKb := Lib.hid hkb
  obtain ⟨A, ca, rfl, hca, hma, _⟩ := ha
  obtain ⟨B, cb, rfl, hcb, hmb, _⟩ := hb
  have t1 : ((lw x : Int) == 0) = false := by rw [beq_eq_false_iff_ne]; omega
  have t2 : ((lw y : Int) == 0) = false := by rw [beq_eq_false_iff_ne]; omega
  have Lx := Lib.hid hlX
  have HR := Lib.hid hR
  have Hgt := Lib.hid hgt
  have Hlt := Lib.hid hlt'
  clear hX hY hfa hfb hWx hka hkb hlX hbx hby hx0 hy0 sza szb l5 l6 hR hgt hlt' hRR
  go_enter Tryz.func13, Tryz.ntmps13
  go_upto_region 3 with (fail)
  obtain ⟨wx, hwx⟩ : ∃ wx, wx = (w.alloc (.cells #[.bool g, .slice A (lw x) ca, .int .i64 t5, .int .i64 f5] 25)).alloc (.cells #[.bool k, .slice B (lw y) cb, .int .i64 t6, .int .i64 f6] 25) := ⟨_, rfl⟩
  rw [← hwx] at HW HKa HKb Ha Hb ⊢
  clear hwx
  have hlt : w.heap.size + 1 < wx.heap.size := Blk.lt HKb.out
  go_cut [5] from 23 to 27 (fun s wz => s = .int .i64 (fa - fb) ∧ Hid (Below wx.heap.size wx wz))
  case first =>
    have k0 : wx.cell? ⟨w.heap.size, 0, none⟩ = some (.bool g) := Blk.cell HKa.out 0
    have k1 : wx.cell? ⟨w.heap.size, 1, none⟩ = some (.slice A (lw x) ca) := Blk.cell HKa.out 1
    have k2 : wx.cell? ⟨w.heap.size, 2, none⟩ = some (.int .i64 t5) := Blk.cell HKa.out 2
    have k3 : wx.cell? ⟨w.heap.size, 3, none⟩ = some (.int .i64 f5) := Blk.cell HKa.out 3
    have j0 : wx.cell? ⟨w.heap.size + 1, 0, none⟩ = some (.bool k) := Blk.cell HKb.out 0
    have j1 : wx.cell? ⟨w.heap.size + 1, 1, none⟩ = some (.slice B (lw y) cb) := Blk.cell HKb.out 1
    have j2 : wx.cell? ⟨w.heap.size + 1, 2, none⟩ = some (.int .i64 t6) := Blk.cell HKb.out 2
    have j3 : wx.cell? ⟨w.heap.size + 1, 3, none⟩ = some (.int .i64 f6) := Blk.cell HKb.out 3
    go_region_held3 (fun w' => w'.cell? ⟨w.heap.size, 0, none⟩ = some (.bool g) ∧ w'.cell? ⟨w.heap.size, 1, none⟩ = some (.slice A (lw x) ca) ∧ w'.cell? ⟨w.heap.size, 2, none⟩ = some (.int .i64 t5) ∧ w'.cell? ⟨w.heap.size, 3, none⟩ = some (.int .i64 f5) ∧
        w'.cell? ⟨w.heap.size + 1, 0, none⟩ = some (.bool k) ∧ w'.cell? ⟨w.heap.size + 1, 1, none⟩ = some (.slice B (lw y) cb) ∧ w'.cell? ⟨w.heap.size + 1, 2, none⟩ = some (.int .i64 t6) ∧ w'.cell? ⟨w.heap.size + 1, 3, none⟩ = some (.int .i64 f6))
      (first
        | go_keep
        | (go_split_ands
           refine ⟨?_, ?_, ?_, ?_, ?_, ?_, ?_, ?_⟩ <;> (rw [gg.cell (World.block_lt_of_cell? _ _ (by assumption))]; assumption)))
      ((first
        | (go_at_call 32; (with_reducible refine (Sa.out _ (by first | exact Ha.out.drew | exact Ha.out.drew.below gb)).mono ?_); rintro e ws ⟨rfl, gg⟩; have ga := gg)
        | (go_at_call 32; (with_reducible refine (Sb.out _ (by first | exact Hb.out.drew | exact Hb.out.drew.below ga)).mono ?_); rintro e ws ⟨rfl, gg⟩; have gb := gg)))
    all_goals
      go_wp2_with fail
      go_meet
      exact ⟨congrArg (Value.int .i64) (by rw [IntKind.wrap_i64]; omega), Lib.hid (below_of_drew (ga.trans (gb.mono ga.size)))⟩
  case rest =>
    obtain ⟨rfl, hb0⟩ := hcut
    by_cases far1 : 6 < fa - fb
    · have t3 : decide ((6 : Int) < fa - fb) = true := by simpa using far1
      have hR1 := Lib.hid (Hgt.out far1)
      have B1 := Lib.hid (HW.out.trans (hb0.out.mono HW.out.size))
      clear far1
      go_wp2_with fail
      go_ret
      exact ⟨congrArg (fun z => Ending.returned (Value.int .i64 z)) hR1.out.symm, B1.out⟩
    · have t3 : decide ((6 : Int) < fa - fb) = false := by simp; omega
      by_cases far2 : fa - fb < -6
      · have t4 : decide (fa - fb < -6) = true := by simpa using far2
        have hR1 := Lib.hid (Hlt.out far2)
        have B1 := Lib.hid (HW.out.trans (hb0.out.mono HW.out.size))
        clear far1 far2
        go_wp2_with fail
        go_ret
        exact ⟨congrArg (fun z => Ending.returned (Value.int .i64 z)) hR1.out.symm, B1.out⟩
      · have t4 : decide (fa - fb < -6) = false := by simp; omega
        clear far1 far2
        have b1' := hb0.out
        have c1 : wc.cell? ⟨w.heap.size, 1, none⟩ = some (.slice A (lw x) ca) := (b1'.cell (p := ⟨w.heap.size, 1, none⟩) (by show w.heap.size < _; omega)).trans (Blk.cell HKa.out 1)
        have c2 : wc.cell? ⟨w.heap.size, 2, none⟩ = some (.int .i64 t5) := (b1'.cell (p := ⟨w.heap.size, 2, none⟩) (by show w.heap.size < _; omega)).trans (Blk.cell HKa.out 2)
        have c3 : wc.cell? ⟨w.heap.size, 3, none⟩ = some (.int .i64 f5) := (b1'.cell (p := ⟨w.heap.size, 3, none⟩) (by show w.heap.size < _; omega)).trans (Blk.cell HKa.out 3)
        have d1 : wc.cell? ⟨w.heap.size + 1, 1, none⟩ = some (.slice B (lw y) cb) := (b1'.cell (p := ⟨w.heap.size + 1, 1, none⟩) hlt).trans (Blk.cell HKb.out 1)
        have d2 : wc.cell? ⟨w.heap.size + 1, 2, none⟩ = some (.int .i64 t6) := (b1'.cell (p := ⟨w.heap.size + 1, 2, none⟩) hlt).trans (Blk.cell HKb.out 2)
        have d3 : wc.cell? ⟨w.heap.size + 1, 3, none⟩ = some (.int .i64 f6) := (b1'.cell (p := ⟨w.heap.size + 1, 3, none⟩) hlt).trans (Blk.cell HKb.out 3)
        have Na := Lib.hid (Ha.out.below b1')
        have Nb := Lib.hid (Hb.out.below b1')
        have B1 := Lib.hid (HW.out.trans (b1'.mono HW.out.size))
        clear b1' hb0 HW HKa HKb Ha Hb hlt
        obtain ⟨wy, rfl⟩ : ∃ wy, wy = wc := ⟨_, rfl⟩
        go_upto_region 8 with (fail)
        go_cut [6, 7] from 34 to 43 (fun p q wz => p = .int .i64 (t5 - t6) ∧ q = .int .i64 (f5 - f6) ∧ ∃ n, Hid (wz = wy.drewN n))
        case first =>
          go_quiet (fail)
          go_wp2_with fail
          go_meet
          exact ⟨rfl, rfl, _, rfl⟩
        case rest =>
          obtain ⟨rfl, rfl, nq, hwz⟩ := hcut
          obtain ⟨wz, rfl⟩ : ∃ wz, wz = wc := ⟨_, rfl⟩
          have e1 : wz.cell? ⟨w.heap.size, 1, none⟩ = some (.slice A (lw x) ca) := by rw [hwz.out]; exact c1
          have e2 : wz.cell? ⟨w.heap.size + 1, 1, none⟩ = some (.slice B (lw y) cb) := by rw [hwz.out]; exact d1
          have Ma := Lib.hid (show Num wz (.slice A (lw x) ca) x by rw [hwz.out]; exact Na.out.drewN _)
          have Mb := Lib.hid (show Num wz (.slice B (lw y) cb) y by rw [hwz.out]; exact Nb.out.drewN _)
          have B2 := Lib.hid (show Below w.heap.size w wz by rw [hwz.out]; exact below_drewN B1.out _)
          clear hwz Na Nb B1 c1 c2 c3 d1 d2 d3
          have nw : IntKind.i64.wrap (-(t5 - t6)) = -(t5 - t6) := by rw [IntKind.wrap_i64]; omega
          have nw2 : IntKind.i64.wrap (-(f5 - f6)) = -(f5 - f6) := by rw [IntKind.wrap_i64]; omega
          go_wp2_with fail
          go_region_held3 (fun w' => w'.cell? ⟨w.heap.size, 1, none⟩ = some (.slice A (lw x) ca) ∧ w'.cell? ⟨w.heap.size + 1, 1, none⟩ = some (.slice B (lw y) cb))
            (first
              | go_keep
              | (go_split_ands
                 refine ⟨?_, ?_⟩ <;> (rw [gg.cell (World.block_lt_of_cell? _ _ (by assumption))]; assumption)))
            ((first
              | (go_at_call 33; (with_reducible refine (Ca.out _ (by first | exact Ma.out.drew | exact Ma.out.drew.below gb)).mono ?_); rintro e ws ⟨ua, rfl, na, gg⟩; have ga := gg)
              | (go_at_call 33; (with_reducible refine (Cb.out _ (by first | exact Mb.out.drew | exact Mb.out.drew.below ga)).mono ?_); rintro e ws ⟨ub, rfl, nb, gg⟩; have gb := gg)
              | (go_at_call 31; (with_reducible refine (cmp_any _ _ X Y _ (by exact na.below gb) (by exact nb) Lx.out).mono ?_); rintro e ws ⟨rfl, q, rfl⟩)))
          go_wp2_with fail
          go_ret
          exact ⟨congrArg (fun z => Ending.returned (Value.int .i64 z)) HR.out, below_drewN (B2.out.trans ((below_of_drew (ga.trans (gb.mono ga.size))).mono B2.out.size)) q⟩

/-- exact.Cmp. -/
theorem cmpx_any (g k : Bool) (va vb : Value) (x y : Nat) (t5 f5 t6 f6 : Int) (w : World) (ha : Num w va x) (hb : Num w vb y) (hx : lw x ≤ 256) (hy : lw y ≤ 256)
    (a1 : -2500 ≤ t5) (a2 : t5 ≤ 2500) (b1 : -2500 ≤ t6) (b2 : t6 ≤ 2500) (c1 : -2500 ≤ f5) (c2 : f5 ≤ 2500) (d1 : -2500 ≤ f6) (d2 : f6 ≤ 2500) :
    Calls Tryz.prog 13 #[.agg #[.bool g, va, .int .i64 t5, .int .i64 f5], .agg #[.bool k, vb, .int .i64 t6, .int .i64 f6]] w fun e w' => e = .returned (.int .i64 (cmpI (ex x t5 f5 : Int) (ex y t6 f6 : Int))) ∧ Below w.heap.size w w' := by
  by_cases h : x = 0 ∨ y = 0
  · rw [← cmp_zero x y t5 f5 t6 f6 h]
    exact cmpx_none g k va vb x y t5 f5 t6 f6 w ha hb hx h
  · exact cmpx_some g k va vb x y t5 f5 t6 f6 w ha hb hx hy (fun q => h (.inl q)) (fun q => h (.inr q)) a1 a2 b1 b2 c1 c2 d1 d2
end Go.Proofs.YtnlpkehllihllaaGreatDoor

/-
  The walk of exact.Log10 of a number without fives.
-/
namespace Go.Proofs.YtnlpkehllihllaaGreatDoor
open Go.RowKit Go.Sort

/-- k is the greatest power of ten that is not above X. -/
def IsLg (X : Nat) (k : Int) : Prop := ex 1 k k ≤ X ∧ X < ex 1 (k + 1) (k + 1) ∧ -430 ≤ k ∧ k ≤ 421
theorem IsLg.one {X : Nat} {j k : Int} (h1 : IsLg X j) (h2 : IsLg X k) : j = k := lg_one h1.1 h1.2.1 h2.1 h2.2.1

theorem cmpI_neg (a b : Nat) : decide (cmpI (a : Int) (b : Int) < 0) = decide (a < b) := by
  unfold cmpI
  by_cases l : a < b
  · rw [if_pos (Int.ofNat_lt.2 l)]; simp [l]
  · rw [if_neg (fun q => l (Int.ofNat_lt.1 q))]
    split <;> simp [l]

theorem lg_more {X : Nat} {kk : Int} (hf : ex 1 (-430) (-430) ≤ X) (h : cmpI (X : Int) (ex 1 kk kk : Int) < 0) : -429 ≤ kk ∧ X < ex 1 (kk - 1 + 1) (kk - 1 + 1) := by
  have h1 : X < ex 1 kk kk := by
    have q := cmpI_neg X (ex 1 kk kk)
    rw [decide_eq_true h] at q
    exact of_decide_eq_true q.symm
  refine ⟨?_, by rw [Int.sub_add_cancel]; exact h1⟩
  rcases Int.lt_or_le kk (-429) with q | q
  · have h2 := ten_le (show kk ≤ -430 by omega)
    omega
  · exact q
theorem lg_not {X T : Nat} (h : 0 ≤ cmpI (X : Int) (T : Int)) : T ≤ X := by
  have q := cmpI_neg X T
  rw [decide_eq_false (by omega)] at q
  exact Nat.le_of_not_lt (of_decide_eq_false q.symm)
/-- The greatest of four. -/
def max4 (x y z u : Int) : Int := max (max (max x y) z) u
theorem run_max4 (ts : Array TypeId) (t : TypeId) (x y z u : Int) (P : Program) (w : World) : (Builtin.max_ ts t #[.int .i64 x, .int .i64 y, .int .i64 z, .int .i64 u]).run P w = .ok (.int .i64 (max4 x y z u)) w := by
  have h2 : ∀ a b : Int, (if b > a then b else a) = max a b := fun a b => by split <;> omega
  simp [Builtin.max_, Builtin.max2, max4, ← h2]
set_option maxHeartbeats 3200000 in
set_option maxRecDepth 100000 in
/-- exact.Log10. -/
theorem log10_any (g : Bool) (vn : Value) (x : Nat) (t : Int) (w : World) (h : Num w vn x) (hx0 : x ≠ 0) (hx : x < 18446744073709551616) (t1 : -1300 ≤ t) (t2 : t ≤ 1300) :
    Calls Tryz.prog 45 #[.agg #[.bool g, vn, .int .i64 t, .int .i64 0]] w fun e w' => ∃ k, e = .returned (.int .i64 k) ∧ Hid (IsLg (ex x t 0) k) ∧ Below w.heap.size w w' := by
  have hl1 : lw x ≤ 1 := lw_le (k := 1) hx
  have hbl := blen_le64 hx
  have hbp := blen_pos hx0
  obtain ⟨s1, s2, s3⟩ := lg_start (x := x) (t := t) (by omega) (by omega) (by omega)
  have hfl := lg_floor hx0 (t := t) (by omega)
  have hsz : szx x t 0 = (blen x : Int) + t := by unfold szx lg5; simp
  have Sz := Lib.hid fun W (h : Num W vn x) => size_any g vn x t 0 W h (by omega) (by omega) (by omega) (by omega) (by omega)
  have Bt := Lib.hid fun W (h : Num W vn x) => bits_any vn x W h (by omega)
  have Cm := Lib.hid fun (vb : Value) (k : Int) W (h : Num W vn x) (hb : Num W vb 1) (k1 : -2500 ≤ k) (k2 : k ≤ 2500) =>
    cmpx_any g false vn vb x 1 t 0 k k W h hb (by omega) (Nat.le_trans (lw_le (k := 1) (by decide)) (by omega)) (by omega) (by omega) k1 k2 (by omega) (by omega) k1 k2
  rw [hsz] at Sz
  obtain ⟨X, hX⟩ : ∃ X, X = ex x t 0 := ⟨_, rfl⟩
  rw [← hX] at s3 hfl Cm ⊢
  have HL := Lib.hid (show lgAt ((blen x : Int) + t) = if 0 ≤ (((blen x : Int) + t + 6) * 30103).tdiv 100000 then (((blen x : Int) + t + 6) * 30103).tdiv 100000 + 1 else (((blen x : Int) + t + 6) * 30103).tdiv 100000 from rfl)
  obtain ⟨L, hL⟩ : ∃ L, L = lgAt ((blen x : Int) + t) := ⟨_, rfl⟩
  rw [← hL] at s1 s2 s3 HL
  have t0 : ((blen x : Int) == 0) = false := by rw [beq_eq_false_iff_ne]; omega
  obtain ⟨n, hn⟩ : ∃ n, n = blen x := ⟨_, rfl⟩
  rw [← hn] at Sz Bt t0 hbl HL
  have S3 := Lib.hid s3
  have HF := Lib.hid hfl
  have H := Lib.hid h
  have hk : Blk (w.alloc (.cells #[.bool g, vn, .int .i64 t, .int .i64 0] 25)) w.heap.size 25 #[.bool g, vn, .int .i64 t, .int .i64 0] := Blk.new w 25 _
  have HW := Lib.hid (show Below w.heap.size w (w.alloc (.cells #[.bool g, vn, .int .i64 t, .int .i64 0] 25)) from (Below.refl _ _).alloc (Nat.le_refl _) _)
  have HN := Lib.hid (h.below ((Below.refl _ _).alloc (Nat.le_refl _) (.cells #[.bool g, vn, .int .i64 t, .int .i64 0] 25)))
  have HK := Lib.hid hk
  clear hL hX hsz h hk hfl s3 hn hbp hx hx0 hl1
  have hm4 := fun ts ty a b c d W => run_max4 ts ty a b c d Tryz.prog W
  have tm : decide (20000 < max4 t (-t) 0 0) = false := by unfold max4; simp; omega
  go_enter Tryz.func45, Tryz.ntmps45
  go_wp2_with fail
  refine (Bt.out _ HN.out).mono ?_
  rintro e w1 ⟨rfl, rfl⟩
  obtain ⟨S, hS⟩ : ∃ S : Int, S = (n : Int) + t := ⟨_, rfl⟩
  rw [← hS] at Sz HL
  have sb1 : -1400 ≤ S := by omega
  have sb2 : S ≤ 1370 := by omega
  clear hS
  go_wp2_with fail
  refine (Sz.out _ HN.out).mono ?_
  rintro e w2 ⟨rfl, g2⟩
  have HK2 := Lib.hid (Blk.below HK.out g2 HK.out.lt)
  have HN2 := Lib.hid (HN.out.below g2)
  have HB2 := Lib.hid (HW.out.trans (g2.mono HW.out.size))
  clear g2 HK HN HW H
  have hq0 : ((S + 6) * 30103).tdiv 100000 = ((S + 6) * 30103).tdiv 100000 := rfl
  obtain ⟨q, hq⟩ : ∃ q, ((S + 6) * 30103).tdiv 100000 = q := ⟨_, rfl⟩
  rw [hq] at HL
  clear hq0
  have Lf := HL.out
  have qb : -430 ≤ q ∧ q ≤ 420 := by split at Lf <;> omega
  obtain ⟨qb1, qb2⟩ := qb
  clear Lf
  have hor : (0 ≤ q ∧ L = q + 1) ∨ (¬ 0 ≤ q ∧ L = q) := by
    have Lf := HL.out
    by_cases hk0 : 0 ≤ q
    · rw [if_pos hk0] at Lf; exact .inl ⟨hk0, Lf⟩
    · rw [if_neg hk0] at Lf; exact .inr ⟨hk0, Lf⟩
  clear HL
  rcases hor with ⟨hk0, rfl⟩ | ⟨hk0, rfl⟩
  all_goals
    go_wp2_with fail
    go_loopw [3] (fun k wr => ∃ kk : Int, k = .int .i64 kk ∧ -430 ≤ kk ∧ kk ≤ 421 ∧ Hid (X < ex 1 (kk + 1) (kk + 1)) ∧ Hid (Below w2.heap.size w2 wr)) (fun k _ => (intOf k + 430).toNat)
    case atStart => exact ⟨_, rfl, by omega, by omega, S3, Lib.hid (Below.refl _ _)⟩
    case round =>
      obtain ⟨kk, rfl, b1, b2, hX, hbe⟩ := hrel
      have hz : w.heap.size < wr.heap.size := by have := hbe.out.size; have := HK2.out.lt; omega
      have HKr := Lib.hid (Blk.below HK2.out hbe.out HK2.out.lt)
      have HNr := Lib.hid (HN2.out.below hbe.out)
      have k0 : wr.cell? ⟨w.heap.size, 0, none⟩ = some (.bool g) := Blk.cell HKr.out 0
      have k1 : wr.cell? ⟨w.heap.size, 1, none⟩ = some vn := Blk.cell HKr.out 1
      have k2 : wr.cell? ⟨w.heap.size, 2, none⟩ = some (.int .i64 t) := Blk.cell HKr.out 2
      have k3 : wr.cell? ⟨w.heap.size, 3, none⟩ = some (.int .i64 0) := Blk.cell HKr.out 3
      obtain ⟨wy, rfl⟩ : ∃ wy, wy = wr := ⟨_, rfl⟩
      clear HKr
      all_goals
        go_wp2_with fail
        go_region_held3 (fun w' => w'.cell? ⟨w.heap.size, 0, none⟩ = some (.bool g) ∧ w'.cell? ⟨w.heap.size, 1, none⟩ = some vn ∧ w'.cell? ⟨w.heap.size, 2, none⟩ = some (.int .i64 t) ∧ w'.cell? ⟨w.heap.size, 3, none⟩ = some (.int .i64 0))
          (first
            | go_keep
            | (go_split_ands
               refine ⟨?_, ?_, ?_, ?_⟩ <;> (rw [gg.cell (World.block_lt_of_cell? _ _ (by assumption))]; assumption)))
          ((first
            | (go_at_call 12; (with_reducible refine (of_one _).mono ?_); rintro e ws ⟨v1, rfl, n1, gg⟩; have n1c := n1; obtain ⟨A1, c1, rfl, _, _, _⟩ := n1c; have ga := gg)
            | (go_at_call 13; (with_reducible refine (Cm.out _ _ _ (by exact HNr.out.drew.below ga) n1 (by omega) (by omega)).mono ?_); rintro e ws ⟨rfl, gg⟩; have gb := gg)))
        have B3 := Lib.hid (hbe.out.trans ((below_of_drew (ga.trans (gb.mono ga.size))).mono hbe.out.size))
        clear ga gb gg n1
        go_wp2_with fail
      all_goals
        first
        | (have hc : 0 ≤ cmpI (X : Int) (ex 1 kk kk : Int) := by assumption
           have hr := Lib.hid (show IsLg X kk from ⟨lg_not hc, hX.out, b1, b2⟩)
           go_ret
           exact ⟨kk, rfl, hr, HB2.out.trans (B3.out.mono HB2.out.size)⟩)
        | (have hc : cmpI (X : Int) (ex 1 kk kk : Int) < 0 := by assumption
           have hm := lg_more HF.out hc
           have hm1 := hm.1
           exact ⟨⟨kk - 1, rfl, by omega, by omega, Lib.hid hm.2, B3⟩, by simp [intOf]; omega⟩)
end Go.Proofs.YtnlpkehllihllaaGreatDoor
