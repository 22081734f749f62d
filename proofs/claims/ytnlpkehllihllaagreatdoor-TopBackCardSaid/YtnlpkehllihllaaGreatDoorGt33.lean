/-
  A part of the proofs that calipertop.TopBack, TopFloats and TopNearest return true for every input and leave it as it was: part 33 of 47.
-/
import Derived.Test.YtnlpkehllihllaaGreatDoorGt25
import Derived.Test.YtnlpkehllihllaaGreatDoorGt18
/-
  The walks of parse.must (nothing is wrong) and parse.number.
-/
namespace Go.Proofs.YtnlpkehllihllaaGreatDoor
open Go.RowKit Go.Sort

set_option maxRecDepth 100000 in
theorem pmust_ok (a : Int) (w : World) : Calls Tryz.prog 38 #[.int .i64 a, .int .i64 0] w fun e w' => e = .returned (.tuple #[]) ∧ w' = w := by
  go_enter Tryz.func38, Tryz.ntmps38
  go_wp2_with fail
  exact bodyPost_end (by simp [results, Tryz.results38]) rfl ⟨rfl, rfl⟩

set_option maxHeartbeats 3200000 in
set_option maxRecDepth 100000 in
/-- parse.number of what is not too far. -/
theorem pnum_any (neg : Bool) (A : Option Addr) (n c D : Nat) (K : Int) (w : World) (hN : Num w (.slice A n c) D) (hD : lw D ≤ 128) (k1 : -5000 ≤ K) (k2 : K ≤ 5000) :
    Calls Tryz.prog 42 #[itn neg (.slice A n c) K] w fun r w' => ∃ A' c', r = .returned (.agg #[.bool neg, .slice A' (lw D) c', .int .i64 K, .int .i64 K]) ∧ Num w' (.slice A' (lw D) c') D ∧ Below w.heap.size w w' := by
  obtain ⟨wz, hwz, hz0, hz1, hzb⟩ := two_blks w 83 25 #[.int .i64 1, .bool neg, .slice A n c, .int .i64 K, .int .i64 0, .bool false] #[.bool false, .slice none 0 0, .int .i64 0, .int .i64 0]
  have Dc := Lib.hid fun W (h : Num W (.slice A n c) D) => dec_any neg _ D K W h hD k1 k2
  have HN := Lib.hid (hN.below hzb)
  have HZ0 := Lib.hid hz0
  have HZ1 := Lib.hid hz1
  have HZB := Lib.hid hzb
  clear hz1 hzb hN
  obtain ⟨j0, j1, j2, j3, j4, j5⟩ := rest6 hz0
  clear hz0
  go_enter Tryz.func42, Tryz.ntmps42
  go_upto_region 1 with (fail)
  rw [← hwz]
  clear hwz
  go_wp2_with fail
  ((with_reducible refine (Dc.out _ HN.out).mono ?_); rintro r w1 ⟨v, rfl, nD, g1⟩)
  have nDc := nD
  obtain ⟨A', c', rfl, _, _, _⟩ := nDc
  have HZ11 := Lib.hid (Blk.below HZ1.out g1 HZ1.out.lt)
  have HB1 := Lib.hid (HZB.out.trans (g1.mono HZB.out.size))
  obtain ⟨hkb, bb⟩ := new4 w1 25 (.bool neg) (.slice A' (lw D) c') (.int .i64 K) (.int .i64 K)
  obtain ⟨wb, hwb⟩ : ∃ wb, wb = w1.alloc (.cells #[.bool neg, .slice A' (lw D) c', .int .i64 K, .int .i64 K] 25) := ⟨_, rfl⟩
  rw [← hwb] at hkb bb
  have HNB := Lib.hid (nD.below bb)
  have HZ12 := Lib.hid (Blk.below HZ11.out bb HZ11.out.lt)
  have HB2 := Lib.hid (HB1.out.trans (bb.mono HB1.out.size))
  have HKB := Lib.hid hkb
  have hlt : w.heap.size + 1 < w1.heap.size := HZ11.out.lt
  clear g1 nD hkb bb HZ0 HZ1 HZB HZ11 HB1 HN Dc j0 j1 j2 j3 j4 j5
  go_upto_region 4 with (fail)
  rw [← hwb]
  clear hwb
  obtain ⟨b0, b1, b2, b3⟩ := rest4 HKB.out
  obtain ⟨y0, y1, y2, y3⟩ := rest4 HZ12.out
  have q0 : ∀ o, wb.frozen? ⟨w.heap.size + 1, o, none⟩ = false := fun o => Blk.frozen HZ12.out o
  go_wp2_with fail
  obtain ⟨w8, hw8, hk8, hb8, ho8⟩ := stored4 HZ12.out (show w.heap.size ≤ w.heap.size + 1 by omega) HB2.out (.bool neg) (.slice A' (lw D) c') (.int .i64 K) (.int .i64 K)
  have hn8 := HNB.out.off HZ12.out (by simp [noU]) ho8
  obtain ⟨r0, r1, r2, r3⟩ := rest4 hk8
  rw [hw8]
  exact bodyPost_ret (v := .agg #[.bool neg, .slice A' (lw D) c', .int .i64 K, .int .i64 K]) (by simp [results, Tryz.results42, go_sem, r0, r1, r2, r3]) rfl ⟨A', c', rfl, hn8, hb8⟩
end Go.Proofs.YtnlpkehllihllaaGreatDoor

/-
  The walk of parse.Parse, of a number's text: a defer with recover, where nothing is thrown.
-/
namespace Go.Proofs.YtnlpkehllihllaaGreatDoor
open Go.RowKit Go.Sort

/-- parse.Parse's deferred function, where nothing has been thrown. -/
theorem pdefer_idle (p q r : Addr) (w : World) :
    CallsD Tryz.prog 37 #[.pointer (some p), .pointer (some q), .pointer (some r)] .returning w fun e u' w' => e = .returned (.tuple #[]) ∧ u' = .returning ∧ w' = w := by
  refine callsD_of_wpS Tryz.func37 rfl fun c₀ cs hu => ?_
  apply wpS_seq
  apply wpS_region
  simp [wpOpsS, go_sem, recoverD, hu, Tryz.ntmps37, Exit.thenS]
  apply wpS_seq
  apply wpS_region
  simp [wpOpsS, go_sem, Exit.thenS]
  refine wpS_cond (t := false) (by simp [Act.eval, Array.replicate]) ?_
  simp only [Bool.false_eq_true, if_false]
  refine wpS_of_wp (wp_skip ?_)
  cases c₀
  simp_all [bodyPostS, results, Tryz.results37]

/-- The three results' cells of parse.Parse. -/
structure ResB (w : World) (p a e : Int) (W : World) : Prop where
  b6 : Blk W w.heap.size 26 #[.int .u64 p]
  b7 : Blk W (w.heap.size + 1) 3 #[.int .i64 a]
  b8 : Blk W (w.heap.size + 1 + 1) 28 #[.int .i64 e]
  bel : Below w.heap.size w W
section
variable {w W W' : World} {p a e : Int}
theorem ResB.new (w : World) : ResB w 0 0 0 (((w.alloc (.cells #[.int .u64 0] 26)).alloc (.cells #[.int .i64 0] 3)).alloc (.cells #[.int .i64 0] 28)) := by
  refine ⟨((Blk.new w _ _).alloc _).alloc _, ?_, ?_, (((Below.refl _ _).alloc (Nat.le_refl _) _).alloc (by simp) _).alloc (by simp; omega) _⟩
  · have h := (Blk.new (w.alloc (.cells #[.int .u64 0] 26)) 3 #[.int .i64 0]).alloc (.cells #[.int .i64 0] 28)
    simpa using h
  · have h := Blk.new ((w.alloc (.cells #[.int .u64 0] 26)).alloc (.cells #[.int .i64 0] 3)) 28 #[.int .i64 0]
    simpa using h
theorem ResB.below (h : ResB w p a e W) (g : Below W.heap.size W W') : ResB w p a e W' :=
  ⟨h.b6.below g h.b6.lt, h.b7.below g h.b7.lt, h.b8.below g h.b8.lt, h.bel.trans (g.mono h.bel.size)⟩
theorem ResB.set6 (h : ResB w p a e W) (q : Int) : ResB w q a e (W.setCell ⟨w.heap.size, 0, none⟩ (.int .u64 q)) :=
  ⟨by have := h.b6.set_ 0 (.int .u64 q); simpa using this, h.b7.far (p := ⟨w.heap.size, 0, none⟩) (by show w.heap.size + 1 ≠ w.heap.size; omega) _, h.b8.far (p := ⟨w.heap.size, 0, none⟩) (by show w.heap.size + 1 + 1 ≠ w.heap.size; omega) _, h.bel.setCell (Nat.le_refl _) _⟩
theorem ResB.set7 (h : ResB w p a e W) (q : Int) : ResB w p q e (W.setCell ⟨w.heap.size + 1, 0, none⟩ (.int .i64 q)) :=
  ⟨h.b6.far (p := ⟨w.heap.size + 1, 0, none⟩) (by show w.heap.size ≠ w.heap.size + 1; omega) _, by have := h.b7.set_ 0 (.int .i64 q); simpa using this, h.b8.far (p := ⟨w.heap.size + 1, 0, none⟩) (by show w.heap.size + 1 + 1 ≠ w.heap.size + 1; omega) _, h.bel.setCell (by show w.heap.size ≤ w.heap.size + 1; omega) _⟩
theorem ResB.set8 (h : ResB w p a e W) (q : Int) : ResB w p a q (W.setCell ⟨w.heap.size + 1 + 1, 0, none⟩ (.int .i64 q)) :=
  ⟨h.b6.far (p := ⟨w.heap.size + 1 + 1, 0, none⟩) (by show w.heap.size ≠ w.heap.size + 1 + 1; omega) _, h.b7.far (p := ⟨w.heap.size + 1 + 1, 0, none⟩) (by show w.heap.size + 1 ≠ w.heap.size + 1 + 1; omega) _, by have := h.b8.set_ 0 (.int .i64 q); simpa using this, h.bel.setCell (by show w.heap.size ≤ w.heap.size + 1 + 1; omega) _⟩
theorem ResB.cells (h : ResB w p a e W) : W.cell? ⟨w.heap.size, 0, none⟩ = some (.int .u64 p) ∧ W.cell? ⟨w.heap.size + 1, 0, none⟩ = some (.int .i64 a) ∧ W.cell? ⟨w.heap.size + 1 + 1, 0, none⟩ = some (.int .i64 e) := ⟨Blk.cell h.b6 0, Blk.cell h.b7 0, Blk.cell h.b8 0⟩
theorem ResB.free (h : ResB w p a e W) : (∀ o, W.frozen? ⟨w.heap.size, o, none⟩ = false) ∧ (∀ o, W.frozen? ⟨w.heap.size + 1, o, none⟩ = false) ∧ (∀ o, W.frozen? ⟨w.heap.size + 1 + 1, o, none⟩ = false) := ⟨fun o => Blk.frozen h.b6 o, fun o => Blk.frozen h.b7 o, fun o => Blk.frozen h.b8 o⟩
end

set_option maxHeartbeats 3200000 in
set_option maxRecDepth 100000 in
/-- parse.Parse of a number's text. -/
theorem parse_num (n : Nat) (mode : Int) (s : ByteArray) (neg : Bool) (d1 : List UInt8) (pt : Bool) (d2 : List UInt8) (ex' eg : Bool) (es core : List UInt8) (z1 z2 : Nat) (K : Int) (w : World) (h1 : 1 ≤ n) (h2 : n < 15) (hmode : mode = 1 ∨ mode = 2) (h : ScT s neg d1 pt d2 ex' eg es core z1 z2 K) (hE : Env w) :
    Calls Tryz.prog 16 #[.int .i64 n, .int .i64 mode, .string s] w fun r w' => ∃ q, r = .returned (.tuple #[U q, .int .i64 0, .int .i64 0]) ∧ Hid (RoundIs (formAt n) mode neg (ex (dval core) K K) q) ∧ Below w.heap.size w w' := by
  have hR := ResB.new w
  obtain ⟨w3, hw3⟩ : ∃ w3, w3 = ((w.alloc (.cells #[.int .u64 0] 26)).alloc (.cells #[.int .i64 0] 3)).alloc (.cells #[.int .i64 0] 28) := ⟨_, rfl⟩
  rw [← hw3] at hR
  have hmf : ∀ (fn : Fn) (first cap : Array Value) (w : World), (Instr.makeFunc fn first cap).run Tryz.prog w = .ok (.func fn first cap) w := fun _ _ _ _ => rfl
  have HR := Lib.hid hR
  have HE := Lib.hid (hE.below hR.bel)
  have HEw := Lib.hid hE
  have Fo := Lib.hid fun W (hE : Env W) => fof_any n W h1 h2 hE.ft hE.ft.lt
  have Mu := Lib.hid fun W => pmust_ok 0 W
  have Sc := Lib.hid fun (g cap : Nat) W (hb : BRow W g s) (hg : g < W.heap.size) => scan_num s neg d1 pt d2 ex' eg es core z1 z2 K g cap W h hb hg
  have hD : lw (dval core) ≤ 128 := by
    have hd : ∀ b ∈ core, isD b := by
      intro b hb2
      have : b ∈ d1 ++ d2 := by rw [h.dec]; exact List.mem_append_right _ (List.mem_append_left _ hb2)
      rcases List.mem_append.1 this with q | q
      · exact h.num.dig1 b q
      · exact h.num.dig2 b q
    have a := dval_lt hd
    have b : 10 ^ core.length ≤ 10 ^ 60 := Nat.pow_le_pow_right (by omega) h.len
    exact Nat.le_trans (lw_le (k := 4) (Nat.lt_of_lt_of_le a (Nat.le_trans b (by decide)))) (by omega)
  have hK1 : -600 ≤ K ∧ K ≤ 900 := by have a := h.is; have b := h.exp; have c := h.zs; omega
  obtain ⟨D, hDv⟩ : ∃ D, D = dval core := ⟨_, rfl⟩
  rw [← hDv] at Sc hD ⊢
  have Pn := Lib.hid fun (A : Option Addr) (c : Nat) W (hN : Num W (.slice A (lw D) c) D) => pnum_any neg A (lw D) c D K W hN hD (by omega) (by omega)
  have Rn := Lib.hid fun (A : Option Addr) (c : Nat) W (hN : Num W (.slice A (lw D) c) D) (hE : Env W) => round_any n mode neg (.slice A (lw D) c) D K K W h1 h2 hmode hN ⟨hD, by omega, by omega, by omega, by omega⟩ hE
  obtain ⟨f, hff⟩ : ∃ f, f = formAt n := ⟨_, rfl⟩
  rw [← hff] at Fo Rn ⊢
  obtain ⟨a0, a1, a2, a3, a4, a5, a6⟩ := f
  clear hR hff hDv hD hK1 h hE h1 h2
  rcases hmode with rfl | rfl
  all_goals
    go_enter_defers Tryz.func16, Tryz.ntmps16
    go_upto_region 2 with (fail)
    rw [← hw3]
    clear hw3
    go_wp2_with fail
    ((with_reducible refine (Fo.out _ HE.out).mono ?_); rintro r w4 ⟨rfl, g4⟩)
    have r4 := HR.out.below g4
    obtain ⟨wa, hwa, hka, B1, b2⟩ := alloc7 (w := w) ⟨a0, a1, a2, a3, a4, a5, a6⟩ w4 r4.bel
    simp only at hwa hka
    have ra := r4.below b2
    obtain ⟨x6, x7, x8⟩ := ra.cells
    obtain ⟨f6, f7, f8⟩ := ra.free
    obtain ⟨wb, hwb⟩ : ∃ wb, wb = wa.setCell ⟨w.heap.size + 1 + 1, 0, none⟩ (.int .i64 0) := ⟨_, rfl⟩
    have rb := ra.set8 0
    rw [← hwb] at rb
    have RB := Lib.hid rb
    rw [hwa] at x6 x7 x8 f6 f7 f8
    rw [hwa] at hwb
    clear g4 r4 B1 b2 ra rb HR hwa
    go_upto_region 3 with (fail)
    rw [← hwb]
    clear hwb x6 x7 x8 f6 f7 f8
    obtain ⟨x6, x7, x8⟩ := RB.out.cells
    go_wp2_with fail
    ((with_reducible refine (Mu.out _).mono ?_); rintro r w5 ⟨rfl, rfl⟩)
    have hcv := Lib.run_convert_string_bytes (P := Tryz.prog) w5 9 86 5 s Tryz.underlying9 Tryz.underlying86 Tryz.underlying5
    obtain ⟨cap, hcap⟩ : ∃ cap, cap = grownCap w5 s.size 0 5 := ⟨_, rfl⟩
    obtain ⟨w6, hw6⟩ : ∃ w6, w6 = Lib.bytesWorld w5 5 s := ⟨_, rfl⟩
    rw [← hcap, ← hw6] at hcv
    have hbr : BRow w6 w5.heap.size s := fun j hj => by rw [hw6]; exact Lib.bytesWorld_cell w5 5 s j hj
    have hb6 : Below w5.heap.size w5 w6 := by rw [hw6]; exact Lib.bytesWorld_below _ _ _
    have hg6 : w5.heap.size < w6.heap.size := by rw [hw6, Lib.bytesWorld_size]; omega
    have R6 := Lib.hid (RB.out.below hb6)
    clear hcap hw6 RB
    go_wp2_with fail
    ((with_reducible refine (Sc.out _ _ _ hbr hg6).mono ?_); rintro r w7 ⟨A, c, rfl, nD, g7⟩)
    have r7 := R6.out.below g7
    obtain ⟨hki, hbi⟩ := new6 w7 83 (.int .i64 1) (.bool neg) (.slice A (lw D) c) (.int .i64 K) (.int .i64 0) (.bool false)
    have ri := r7.below hbi
    have rj := ri.set7 0
    have rk := rj.set8 0
    obtain ⟨wi, hwi⟩ : ∃ wi, wi = w7.alloc (.cells #[.int .i64 1, .bool neg, .slice A (lw D) c, .int .i64 K, .int .i64 0, .bool false] 83) := ⟨_, rfl⟩
    obtain ⟨wj, hwj⟩ : ∃ wj, wj = wi.setCell ⟨w.heap.size + 1, 0, none⟩ (.int .i64 0) := ⟨_, rfl⟩
    obtain ⟨wk, hwk⟩ : ∃ wk, wk = wj.setCell ⟨w.heap.size + 1 + 1, 0, none⟩ (.int .i64 0) := ⟨_, rfl⟩
    rw [← hwi] at hki hbi ri rj rk
    rw [← hwj] at rj rk
    rw [← hwk] at rk
    have hlt7 : w.heap.size + 1 + 1 < w7.heap.size := r7.b8.lt
    have hkj : Blk wj w7.heap.size 83 #[.int .i64 1, .bool neg, .slice A (lw D) c, .int .i64 K, .int .i64 0, .bool false] := by rw [hwj]; exact hki.far (p := ⟨w.heap.size + 1, 0, none⟩) (by show w7.heap.size ≠ w.heap.size + 1; omega) _
    have hkk : Blk wk w7.heap.size 83 #[.int .i64 1, .bool neg, .slice A (lw D) c, .int .i64 K, .int .i64 0, .bool false] := by rw [hwk]; exact hkj.far (p := ⟨w.heap.size + 1 + 1, 0, none⟩) (by show w7.heap.size ≠ w.heap.size + 1 + 1; omega) _
    have nj : Num wj (.slice A (lw D) c) D := by rw [hwj]; exact (nD.below hbi).off ri.b7 (by simp [noU]) ((Off.refl _ wi).set_ 0 _)
    have nk : Num wk (.slice A (lw D) c) D := by rw [hwk]; exact nj.off rj.b8 (by simp [noU]) ((Off.refl _ wj).set_ 0 _)
    have RK := Lib.hid rk
    have HKK := Lib.hid hkk
    have NK := Lib.hid nk
    obtain ⟨x6, x7, x8⟩ := ri.cells
    obtain ⟨f6, f7, f8⟩ := ri.free
    obtain ⟨y6, y7, y8⟩ := rj.cells
    obtain ⟨e6, e7, e8⟩ := rj.free
    rw [hwi] at x6 x7 x8 f6 f7 f8
    rw [hwj, hwi] at y6 y7 y8 e6 e7 e8
    rw [hwj, hwi] at hwk
    clear hcv hbr hb6 hg6 R6 g7 nD r7 hki hbi ri rj rk hkj hkk nj nk hwj hwi
    go_upto_region 7 with (fail)
    rw [← hwk]
    clear hwk x6 x7 x8 f6 f7 f8 y6 y7 y8 e6 e7 e8
    obtain ⟨x6, x7, x8⟩ := RK.out.cells
    obtain ⟨j0, j1, j2, j3, j4, j5⟩ := rest6 HKK.out
    go_wp2_with fail
    ((with_reducible refine (Mu.out _).mono ?_); rintro r w8 ⟨rfl, rfl⟩)
    go_wp2_with fail
    ((with_reducible refine (Pn.out _ _ _ NK.out).mono ?_); rintro r w9 ⟨A9, c9, rfl, n9, g9⟩)
    have r9 := RK.out.below g9
    have E9 := Lib.hid (HEw.out.below r9.bel)
    go_wp2_with fail
    ((with_reducible refine (Rn.out _ _ _ n9 E9.out).mono ?_); rintro r wA ⟨q, rfl, hq, gA⟩)
    have ra := r9.below gA
    have rb := ra.set6 q
    have rc := rb.set8 0
    obtain ⟨x6, x7, x8⟩ := ra.cells
    obtain ⟨f6, f7, f8⟩ := ra.free
    obtain ⟨y6, y7, y8⟩ := rb.cells
    obtain ⟨e6, e7, e8⟩ := rb.free
    obtain ⟨wC, hwC⟩ : ∃ wC, wC = (wA.setCell ⟨w.heap.size, 0, none⟩ (.int .u64 q)).setCell ⟨w.heap.size + 1 + 1, 0, none⟩ (.int .i64 0) := ⟨_, rfl⟩
    rw [← hwC] at rc
    have RC := Lib.hid rc
    clear g9 n9 r9 gA ra rb rc j0 j1 j2 j3 j4 j5 RK HKK NK
    go_upto_region 11 with (fail)
    rw [← hwC]
    clear hwC x6 x7 x8 f6 f7 f8 y6 y7 y8 e6 e7 e8
    obtain ⟨x6, x7, x8⟩ := RC.out.cells
    obtain ⟨f6, f7, f8⟩ := RC.out.free
    go_wp2_with fail
    ((with_reducible refine (Mu.out _).mono ?_); rintro r wD ⟨rfl, rfl⟩)
    have rd := RC.out.set6 q
    have re := rd.set7 0
    have rf := re.set8 0
    obtain ⟨y6, y7, y8⟩ := rd.cells
    obtain ⟨e6, e7, e8⟩ := rd.free
    obtain ⟨z6, z7, z8⟩ := re.cells
    obtain ⟨i6, i7, i8⟩ := re.free
    obtain ⟨wF, hwF⟩ : ∃ wF, wF = ((wD.setCell ⟨w.heap.size, 0, none⟩ (.int .u64 q)).setCell ⟨w.heap.size + 1, 0, none⟩ (.int .i64 0)).setCell ⟨w.heap.size + 1 + 1, 0, none⟩ (.int .i64 0) := ⟨_, rfl⟩
    rw [← hwF] at rf
    have RF := Lib.hid rf
    clear rd re rf RC
    go_wp2_with fail
    rw [← hwF]
    clear hwF x6 x7 x8 f6 f7 f8 y6 y7 y8 e6 e7 e8 z6 z7 z8 i6 i7 i8
    refine leaves_cons (f := 37) (args := #[.pointer (some ⟨w.heap.size, 0, none⟩), .pointer (some ⟨w.heap.size + 1, 0, none⟩), .pointer (some ⟨w.heap.size + 1 + 1, 0, none⟩)]) (by simp) (by simp [go_sem]) ?_
    refine (pdefer_idle _ _ _ _).mono ?_
    rintro e u' w'' ⟨rfl, rfl, rfl⟩
    obtain ⟨hs6, hs7, hs8⟩ := RF.out.cells
    simp [Leaves, settle, results, Tryz.results16, go_sem, hs6, hs7, hs8]
    exact ⟨q, rfl, hq, RF.out.bel⟩
end Go.Proofs.YtnlpkehllihllaaGreatDoor

/-
  The walk of parse.Parse, of the text of 0.
-/
namespace Go.Proofs.YtnlpkehllihllaaGreatDoor
open Go.RowKit Go.Sort

set_option maxHeartbeats 3200000 in
set_option maxRecDepth 100000 in
/-- parse.Parse of a text in which Scan finds a number. -/
theorem parse_gen (n : Nat) (mode : Int) (s : ByteArray) (neg : Bool) (D : Nat) (K : Int) (w : World) (h1 : 1 ≤ n) (h2 : n < 15) (hmode : mode = 1 ∨ mode = 2) (hD : lw D ≤ 128) (hK1 : -600 ≤ K ∧ K ≤ 900)
    (hsc : ∀ (g cap : Nat) (W : World), BRow W g s → g < W.heap.size → Calls Tryz.prog 39 #[.slice (some ⟨g, 0, none⟩) s.size cap] W fun r w' => ∃ A c, r = .returned (.tuple #[itn neg (.slice A (lw D) c) K, .int .i64 0, .int .i64 0]) ∧ Num w' (.slice A (lw D) c) D ∧ Below W.heap.size W w') (hE : Env w) :
    Calls Tryz.prog 16 #[.int .i64 n, .int .i64 mode, .string s] w fun r w' => ∃ q, r = .returned (.tuple #[U q, .int .i64 0, .int .i64 0]) ∧ Hid (RoundIs (formAt n) mode neg (ex D K K) q) ∧ Below w.heap.size w w' := by
  have hR := ResB.new w
  obtain ⟨w3, hw3⟩ : ∃ w3, w3 = ((w.alloc (.cells #[.int .u64 0] 26)).alloc (.cells #[.int .i64 0] 3)).alloc (.cells #[.int .i64 0] 28) := ⟨_, rfl⟩
  rw [← hw3] at hR
  have hmf : ∀ (fn : Fn) (first cap : Array Value) (w : World), (Instr.makeFunc fn first cap).run Tryz.prog w = .ok (.func fn first cap) w := fun _ _ _ _ => rfl
  have HR := Lib.hid hR
  have HE := Lib.hid (hE.below hR.bel)
  have HEw := Lib.hid hE
  have Fo := Lib.hid fun W (hE : Env W) => fof_any n W h1 h2 hE.ft hE.ft.lt
  have Mu := Lib.hid fun W => pmust_ok 0 W
  have Sc := Lib.hid hsc
  have Pn := Lib.hid fun (A : Option Addr) (c : Nat) W (hN : Num W (.slice A (lw D) c) D) => pnum_any neg A (lw D) c D K W hN hD (by omega) (by omega)
  have Rn := Lib.hid fun (A : Option Addr) (c : Nat) W (hN : Num W (.slice A (lw D) c) D) (hE : Env W) => round_any n mode neg (.slice A (lw D) c) D K K W h1 h2 hmode hN ⟨hD, by omega, by omega, by omega, by omega⟩ hE
  obtain ⟨f, hff⟩ : ∃ f, f = formAt n := ⟨_, rfl⟩
  rw [← hff] at Fo Rn ⊢
  obtain ⟨a0, a1, a2, a3, a4, a5, a6⟩ := f
  clear hR hff hD hK1 hsc hE h1 h2
  rcases hmode with rfl | rfl
  all_goals
    go_enter_defers Tryz.func16, Tryz.ntmps16
    go_upto_region 2 with (fail)
    rw [← hw3]
    clear hw3
    go_wp2_with fail
    ((with_reducible refine (Fo.out _ HE.out).mono ?_); rintro r w4 ⟨rfl, g4⟩)
    have r4 := HR.out.below g4
    obtain ⟨wa, hwa, hka, B1, b2⟩ := alloc7 (w := w) ⟨a0, a1, a2, a3, a4, a5, a6⟩ w4 r4.bel
    simp only at hwa hka
    have ra := r4.below b2
    obtain ⟨x6, x7, x8⟩ := ra.cells
    obtain ⟨f6, f7, f8⟩ := ra.free
    obtain ⟨wb, hwb⟩ : ∃ wb, wb = wa.setCell ⟨w.heap.size + 1 + 1, 0, none⟩ (.int .i64 0) := ⟨_, rfl⟩
    have rb := ra.set8 0
    rw [← hwb] at rb
    have RB := Lib.hid rb
    rw [hwa] at x6 x7 x8 f6 f7 f8
    rw [hwa] at hwb
    clear g4 r4 B1 b2 ra rb HR hwa
    go_upto_region 3 with (fail)
    rw [← hwb]
    clear hwb x6 x7 x8 f6 f7 f8
    obtain ⟨x6, x7, x8⟩ := RB.out.cells
    go_wp2_with fail
    ((with_reducible refine (Mu.out _).mono ?_); rintro r w5 ⟨rfl, rfl⟩)
    have hcv := Lib.run_convert_string_bytes (P := Tryz.prog) w5 9 86 5 s Tryz.underlying9 Tryz.underlying86 Tryz.underlying5
    obtain ⟨cap, hcap⟩ : ∃ cap, cap = grownCap w5 s.size 0 5 := ⟨_, rfl⟩
    obtain ⟨w6, hw6⟩ : ∃ w6, w6 = Lib.bytesWorld w5 5 s := ⟨_, rfl⟩
    rw [← hcap, ← hw6] at hcv
    have hbr : BRow w6 w5.heap.size s := fun j hj => by rw [hw6]; exact Lib.bytesWorld_cell w5 5 s j hj
    have hb6 : Below w5.heap.size w5 w6 := by rw [hw6]; exact Lib.bytesWorld_below _ _ _
    have hg6 : w5.heap.size < w6.heap.size := by rw [hw6, Lib.bytesWorld_size]; omega
    have R6 := Lib.hid (RB.out.below hb6)
    clear hcap hw6 RB
    go_wp2_with fail
    ((with_reducible refine (Sc.out _ _ _ hbr hg6).mono ?_); rintro r w7 ⟨A, c, rfl, nD, g7⟩)
    have r7 := R6.out.below g7
    obtain ⟨hki, hbi⟩ := new6 w7 83 (.int .i64 1) (.bool neg) (.slice A (lw D) c) (.int .i64 K) (.int .i64 0) (.bool false)
    have ri := r7.below hbi
    have rj := ri.set7 0
    have rk := rj.set8 0
    obtain ⟨wi, hwi⟩ : ∃ wi, wi = w7.alloc (.cells #[.int .i64 1, .bool neg, .slice A (lw D) c, .int .i64 K, .int .i64 0, .bool false] 83) := ⟨_, rfl⟩
    obtain ⟨wj, hwj⟩ : ∃ wj, wj = wi.setCell ⟨w.heap.size + 1, 0, none⟩ (.int .i64 0) := ⟨_, rfl⟩
    obtain ⟨wk, hwk⟩ : ∃ wk, wk = wj.setCell ⟨w.heap.size + 1 + 1, 0, none⟩ (.int .i64 0) := ⟨_, rfl⟩
    rw [← hwi] at hki hbi ri rj rk
    rw [← hwj] at rj rk
    rw [← hwk] at rk
    have hlt7 : w.heap.size + 1 + 1 < w7.heap.size := r7.b8.lt
    have hkj : Blk wj w7.heap.size 83 #[.int .i64 1, .bool neg, .slice A (lw D) c, .int .i64 K, .int .i64 0, .bool false] := by rw [hwj]; exact hki.far (p := ⟨w.heap.size + 1, 0, none⟩) (by show w7.heap.size ≠ w.heap.size + 1; omega) _
    have hkk : Blk wk w7.heap.size 83 #[.int .i64 1, .bool neg, .slice A (lw D) c, .int .i64 K, .int .i64 0, .bool false] := by rw [hwk]; exact hkj.far (p := ⟨w.heap.size + 1 + 1, 0, none⟩) (by show w7.heap.size ≠ w.heap.size + 1 + 1; omega) _
    have nj : Num wj (.slice A (lw D) c) D := by rw [hwj]; exact (nD.below hbi).off ri.b7 (by simp [noU]) ((Off.refl _ wi).set_ 0 _)
    have nk : Num wk (.slice A (lw D) c) D := by rw [hwk]; exact nj.off rj.b8 (by simp [noU]) ((Off.refl _ wj).set_ 0 _)
    have RK := Lib.hid rk
    have HKK := Lib.hid hkk
    have NK := Lib.hid nk
    obtain ⟨x6, x7, x8⟩ := ri.cells
    obtain ⟨f6, f7, f8⟩ := ri.free
    obtain ⟨y6, y7, y8⟩ := rj.cells
    obtain ⟨e6, e7, e8⟩ := rj.free
    rw [hwi] at x6 x7 x8 f6 f7 f8
    rw [hwj, hwi] at y6 y7 y8 e6 e7 e8
    rw [hwj, hwi] at hwk
    clear hcv hbr hb6 hg6 R6 g7 nD r7 hki hbi ri rj rk hkj hkk nj nk hwj hwi
    go_upto_region 7 with (fail)
    rw [← hwk]
    clear hwk x6 x7 x8 f6 f7 f8 y6 y7 y8 e6 e7 e8
    obtain ⟨x6, x7, x8⟩ := RK.out.cells
    obtain ⟨j0, j1, j2, j3, j4, j5⟩ := rest6 HKK.out
    go_wp2_with fail
    ((with_reducible refine (Mu.out _).mono ?_); rintro r w8 ⟨rfl, rfl⟩)
    go_wp2_with fail
    ((with_reducible refine (Pn.out _ _ _ NK.out).mono ?_); rintro r w9 ⟨A9, c9, rfl, n9, g9⟩)
    have r9 := RK.out.below g9
    have E9 := Lib.hid (HEw.out.below r9.bel)
    go_wp2_with fail
    ((with_reducible refine (Rn.out _ _ _ n9 E9.out).mono ?_); rintro r wA ⟨q, rfl, hq, gA⟩)
    have ra := r9.below gA
    have rb := ra.set6 q
    have rc := rb.set8 0
    obtain ⟨x6, x7, x8⟩ := ra.cells
    obtain ⟨f6, f7, f8⟩ := ra.free
    obtain ⟨y6, y7, y8⟩ := rb.cells
    obtain ⟨e6, e7, e8⟩ := rb.free
    obtain ⟨wC, hwC⟩ : ∃ wC, wC = (wA.setCell ⟨w.heap.size, 0, none⟩ (.int .u64 q)).setCell ⟨w.heap.size + 1 + 1, 0, none⟩ (.int .i64 0) := ⟨_, rfl⟩
    rw [← hwC] at rc
    have RC := Lib.hid rc
    clear g9 n9 r9 gA ra rb rc j0 j1 j2 j3 j4 j5 RK HKK NK
    go_upto_region 11 with (fail)
    rw [← hwC]
    clear hwC x6 x7 x8 f6 f7 f8 y6 y7 y8 e6 e7 e8
    obtain ⟨x6, x7, x8⟩ := RC.out.cells
    obtain ⟨f6, f7, f8⟩ := RC.out.free
    go_wp2_with fail
    ((with_reducible refine (Mu.out _).mono ?_); rintro r wD ⟨rfl, rfl⟩)
    have rd := RC.out.set6 q
    have re := rd.set7 0
    have rf := re.set8 0
    obtain ⟨y6, y7, y8⟩ := rd.cells
    obtain ⟨e6, e7, e8⟩ := rd.free
    obtain ⟨z6, z7, z8⟩ := re.cells
    obtain ⟨i6, i7, i8⟩ := re.free
    obtain ⟨wF, hwF⟩ : ∃ wF, wF = ((wD.setCell ⟨w.heap.size, 0, none⟩ (.int .u64 q)).setCell ⟨w.heap.size + 1, 0, none⟩ (.int .i64 0)).setCell ⟨w.heap.size + 1 + 1, 0, none⟩ (.int .i64 0) := ⟨_, rfl⟩
    rw [← hwF] at rf
    have RF := Lib.hid rf
    clear rd re rf RC
    go_wp2_with fail
    rw [← hwF]
    clear hwF x6 x7 x8 f6 f7 f8 y6 y7 y8 e6 e7 e8 z6 z7 z8 i6 i7 i8
    refine leaves_cons (f := 37) (args := #[.pointer (some ⟨w.heap.size, 0, none⟩), .pointer (some ⟨w.heap.size + 1, 0, none⟩), .pointer (some ⟨w.heap.size + 1 + 1, 0, none⟩)]) (by simp) (by simp [go_sem]) ?_
    refine (pdefer_idle _ _ _ _).mono ?_
    rintro e u' w'' ⟨rfl, rfl, rfl⟩
    obtain ⟨hs6, hs7, hs8⟩ := RF.out.cells
    simp [Leaves, settle, results, Tryz.results16, go_sem, hs6, hs7, hs8]
    exact ⟨q, rfl, hq, RF.out.bel⟩

/-- parse.Parse of the text of 0. -/
theorem parse_zero (n p : Nat) (mode : Int) (w : World) (h1 : 1 ≤ n) (h2 : n < 15) (hmode : mode = 1 ∨ mode = 2) (hp : p < 2 ^ (formAt n).width) (hc : clsI (formAt n) p (pKey (formAt n) p) = 1) (hE : Env w) :
    Calls Tryz.prog 16 #[.int .i64 n, .int .i64 mode, S (sgnL (pNeg (formAt n) p) ++ [48])] w fun r w' => r = .returned (.tuple #[U p, .int .i64 0, .int .i64 0]) ∧ Below w.heap.size w w' := by
  obtain ⟨z1, z2⟩ := zero_pat (form_is h1 h2) hp hc
  refine (parse_gen n mode _ (pNeg (formAt n) p) 0 0 w h1 h2 hmode (by rw [lw_zero]; omega) ⟨by omega, by omega⟩ (fun g cap W hb hg => ?_) hE).mono ?_
  · refine (scan_zero _ _ g cap W (ze_text _) hb hg).mono ?_
    rintro r w' ⟨rfl, hb⟩
    refine ⟨none, 0, by rw [lw_zero], ?_, hb⟩
    exact ⟨none, 0, rfl, by rw [lw_zero]; exact Nat.le_refl _, Nat.zero_le _, by rw [wds_zero]; exact RW.nil _ _⟩
  · rintro r w' ⟨q, rfl, hq, hb⟩
    have e := hq.out
    rw [ex_zero] at e
    rw [zero_round z1 e, z2]
    exact ⟨rfl, hb⟩
end Go.Proofs.YtnlpkehllihllaaGreatDoor

/-
  The walks of parse.has, parse.word, and of parse.Parse of a word's text.
-/
namespace Go.Proofs.YtnlpkehllihllaaGreatDoor
open Go.RowKit Go.Sort

/-- A word, as Scan tells it. -/
abbrev itw (m : Nat) (neg : Bool) : Value := .agg #[.int .i64 m, .bool neg, .slice none 0 0, .int .i64 0, .int .i64 0, .bool false]

set_option maxRecDepth 100000 in
theorem phas_ok (a : Int) (w : World) : Calls Tryz.prog 69 #[.bool true, .int .i64 a] w fun e w' => e = .returned (.tuple #[]) ∧ w' = w := by
  go_enter Tryz.func69, Tryz.ntmps69
  go_wp2_with fail
  exact bodyPost_end (by simp [results, Tryz.results69]) rfl ⟨rfl, rfl⟩

set_option maxHeartbeats 1600000 in
set_option maxRecDepth 100000 in
/-- parse.word of infinity. -/
theorem pword_inf (f : Fm) (ng : Bool) (w : World) (w1 : 1 ≤ f.width) (w2 : f.width ≤ 64) (hk : f.kind = 2) (hi : f.inf ≠ 0) (hb : f.inf < 18446744073709551616) :
    Calls Tryz.prog 40 #[f.v, itw 2 ng] w fun r w' => r = .returned (U (f.inf ||| (if ng = true then f.sign else 0))) ∧ Below w.heap.size w w' := by
  have Sg := Lib.hid fun W => sign_any f W w1 w2
  have Ha := Lib.hid fun a W => phas_ok a W
  obtain ⟨wz, hwz, hz0, hz1, hzb⟩ := two_blks w 55 83 f.cells #[.int .i64 2, .bool ng, .slice none 0 0, .int .i64 0, .int .i64 0, .bool false]
  have hsl : f.sign < 18446744073709551616 := by
    unfold Fm.sign
    rw [if_neg (by omega)]
    exact Nat.lt_of_le_of_lt (Nat.pow_le_pow_right (by omega) (show f.width - 1 ≤ 63 by omega)) (by decide)
  have hor : bits .or .u64 (f.inf : Int) (f.sign : Int) = ((f.inf ||| f.sign : Nat) : Int) := u64_or_nat _ _ hb hsl
  have hor0 : bits .or .u64 (f.inf : Int) 0 = (f.inf : Int) := by
    have := u64_or_nat f.inf 0 hb (by decide)
    rw [Nat.or_zero] at this
    exact this
  have ti : ((f.inf : Int) != 0) = true := by simpa using hi
  have tk : (f.kind == 1) = false := by rw [hk]; rfl
  obtain ⟨sg, hsg⟩ : ∃ sg, sg = f.sign := ⟨_, rfl⟩
  rw [← hsg] at Sg hor ⊢
  clear hsg hsl hk hi hb w1 w2
  obtain ⟨a0, a1, a2, a3, a4, a5, a6⟩ := f
  simp only [Fm.cells] at hwz hz0
  simp only at hor hor0 ti tk
  have HZ0 := Lib.hid hz0
  have HZ1 := Lib.hid hz1
  have HZB := Lib.hid hzb
  obtain ⟨k0, k1, k2, k3, k4, k5, k6⟩ := rest7 hz0
  obtain ⟨j0, j1, j2, j3, j4, j5⟩ := rest6 hz1
  clear hz0 hz1 hzb
  cases ng
  · go_enter Tryz.func40, Tryz.ntmps40
    go_upto_region 1 with (fail)
    rw [← hwz]
    clear hwz
    go_wp2_with fail
    ((with_reducible refine (Ha.out _ _).mono ?_); rintro r w3 ⟨rfl, rfl⟩)
    go_wp2_with fail
    go_ret
    exact ⟨rfl, HZB.out⟩
  · obtain ⟨q, hq⟩ : ∃ q, q = a5 ||| sg := ⟨_, rfl⟩
    rw [← hq] at hor
    have HQ := Lib.hid hq
    clear hq
    go_enter Tryz.func40, Tryz.ntmps40
    go_upto_region 1 with (fail)
    rw [← hwz]
    clear hwz
    go_wp2_with fail
    ((with_reducible refine (Sg.out _).mono ?_); rintro r w2 ⟨rfl, g2⟩)
    have HK0 := Lib.hid (Blk.below HZ0.out g2 HZ0.out.lt)
    have HK1 := Lib.hid (Blk.below HZ1.out g2 HZ1.out.lt)
    have HB2 := Lib.hid (HZB.out.trans (g2.mono HZB.out.size))
    clear k0 k1 k2 k3 k4 k5 k6 j0 j1 j2 j3 j4 j5 g2 HZ0 HZ1 HZB
    obtain ⟨k0, k1, k2, k3, k4, k5, k6⟩ := rest7 HK0.out
    obtain ⟨j0, j1, j2, j3, j4, j5⟩ := rest6 HK1.out
    go_wp2_with fail
    ((with_reducible refine (Ha.out _ _).mono ?_); rintro r w3 ⟨rfl, rfl⟩)
    go_wp2_with fail
    go_ret
    exact ⟨ret_uu (by rw [HQ.out]), HB2.out⟩

set_option maxHeartbeats 1600000 in
set_option maxRecDepth 100000 in
/-- parse.word of what is no number. -/
theorem pword_nan (f : Fm) (w : World) (hk : f.kind ≠ 1) (hn : f.nan ≠ 0) :
    Calls Tryz.prog 40 #[f.v, itw 3 false] w fun r w' => r = .returned (U f.nan) ∧ Below w.heap.size w w' := by
  have Ha := Lib.hid fun a W => phas_ok a W
  obtain ⟨wz, hwz, hz0, hz1, hzb⟩ := two_blks w 55 83 f.cells #[.int .i64 3, .bool false, .slice none 0 0, .int .i64 0, .int .i64 0, .bool false]
  have ti : ((f.nan : Int) != 0) = true := by simpa using hn
  have tk : (f.kind == 1) = false := by simpa using hk
  clear hk hn
  obtain ⟨a0, a1, a2, a3, a4, a5, a6⟩ := f
  simp only [Fm.cells] at hwz hz0
  simp only at ti tk
  have HZB := Lib.hid hzb
  obtain ⟨k0, k1, k2, k3, k4, k5, k6⟩ := rest7 hz0
  obtain ⟨j0, j1, j2, j3, j4, j5⟩ := rest6 hz1
  clear hz0 hz1 hzb
  go_enter Tryz.func40, Tryz.ntmps40
  go_upto_region 1 with (fail)
  rw [← hwz]
  clear hwz
  go_wp2_with fail
  ((with_reducible refine (Ha.out _ _).mono ?_); rintro r w3 ⟨rfl, rfl⟩)
  go_wp2_with fail
  go_ret
  exact ⟨rfl, HZB.out⟩

set_option maxHeartbeats 1600000 in
set_option maxRecDepth 100000 in
/-- parse.word of NaR. -/
theorem pword_nar (f : Fm) (w : World) (hk : f.kind = 1) :
    Calls Tryz.prog 40 #[f.v, itw 4 false] w fun r w' => r = .returned (U f.nan) ∧ Below w.heap.size w w' := by
  have Ha := Lib.hid fun a W => phas_ok a W
  obtain ⟨wz, hwz, hz0, hz1, hzb⟩ := two_blks w 55 83 f.cells #[.int .i64 4, .bool false, .slice none 0 0, .int .i64 0, .int .i64 0, .bool false]
  have tk : (f.kind == 1) = true := by simpa using hk
  clear hk
  obtain ⟨a0, a1, a2, a3, a4, a5, a6⟩ := f
  simp only [Fm.cells] at hwz hz0
  simp only at tk
  have HZB := Lib.hid hzb
  obtain ⟨k0, k1, k2, k3, k4, k5, k6⟩ := rest7 hz0
  obtain ⟨j0, j1, j2, j3, j4, j5⟩ := rest6 hz1
  clear hz0 hz1 hzb
  go_enter Tryz.func40, Tryz.ntmps40
  go_upto_region 1 with (fail)
  rw [← hwz]
  clear hwz
  go_wp2_with fail
  ((with_reducible refine (Ha.out _ _).mono ?_); rintro r w3 ⟨rfl, rfl⟩)
  go_wp2_with fail
  go_ret
  exact ⟨rfl, HZB.out⟩

set_option maxHeartbeats 3200000 in
set_option maxRecDepth 100000 in
/-- parse.Parse of a word's text. -/
theorem parse_word (n : Nat) (mode : Int) (s : ByteArray) (neg : Bool) (m q : Nat) (w : World) (h1 : 1 ≤ n) (h2 : n < 15) (hmode : mode = 1 ∨ mode = 2) (hs : WdT s neg m) (hm : m ≠ 1)
    (hpw : ∀ W, Calls Tryz.prog 40 #[(formAt n).v, itw m neg] W fun r w' => r = .returned (U q) ∧ Below W.heap.size W w') (hE : Env w) :
    Calls Tryz.prog 16 #[.int .i64 n, .int .i64 mode, .string s] w fun r w' => r = .returned (.tuple #[U q, .int .i64 0, .int .i64 0]) ∧ Below w.heap.size w w' := by
  have hR := ResB.new w
  obtain ⟨w3, hw3⟩ : ∃ w3, w3 = ((w.alloc (.cells #[.int .u64 0] 26)).alloc (.cells #[.int .i64 0] 3)).alloc (.cells #[.int .i64 0] 28) := ⟨_, rfl⟩
  rw [← hw3] at hR
  have hmf : ∀ (fn : Fn) (first cap : Array Value) (w : World), (Instr.makeFunc fn first cap).run Tryz.prog w = .ok (.func fn first cap) w := fun _ _ _ _ => rfl
  have HR := Lib.hid hR
  have HE := Lib.hid (hE.below hR.bel)
  have HEw := Lib.hid hE
  have Fo := Lib.hid fun W (hE : Env W) => fof_any n W h1 h2 hE.ft hE.ft.lt
  have Mu := Lib.hid fun W => pmust_ok 0 W
  have Sc := Lib.hid fun (g cap : Nat) W (hb : BRow W g s) (hg : g < W.heap.size) => scan_word s neg m g cap W hs hb hg
  have Pw := Lib.hid hpw
  have tm : ((m : Int) != 1) = true := by rw [bne_iff_ne]; omega
  obtain ⟨f, hff⟩ : ∃ f, f = formAt n := ⟨_, rfl⟩
  rw [← hff] at Fo Pw
  obtain ⟨a0, a1, a2, a3, a4, a5, a6⟩ := f
  simp only [Fm.v] at Pw
  clear hR hff hm hs hpw hE h1 h2
  rcases hmode with rfl | rfl
  all_goals
    go_enter_defers Tryz.func16, Tryz.ntmps16
    go_upto_region 2 with (fail)
    rw [← hw3]
    clear hw3
    go_wp2_with fail
    ((with_reducible refine (Fo.out _ HE.out).mono ?_); rintro r w4 ⟨rfl, g4⟩)
    have r4 := HR.out.below g4
    obtain ⟨wa, hwa, hka, B1, b2⟩ := alloc7 (w := w) ⟨a0, a1, a2, a3, a4, a5, a6⟩ w4 r4.bel
    simp only at hwa hka
    have ra := r4.below b2
    obtain ⟨x6, x7, x8⟩ := ra.cells
    obtain ⟨f6, f7, f8⟩ := ra.free
    obtain ⟨wb, hwb⟩ : ∃ wb, wb = wa.setCell ⟨w.heap.size + 1 + 1, 0, none⟩ (.int .i64 0) := ⟨_, rfl⟩
    have rb := ra.set8 0
    rw [← hwb] at rb
    have RB := Lib.hid rb
    have hlt4 : w.heap.size + 1 + 1 < w4.heap.size := r4.b8.lt
    have hfb : Blk wb w4.heap.size 55 #[.int .i64 a0, .int .i64 a1, .int .i64 a2, .int .i64 a3, U a4, U a5, U a6] := by rw [hwb]; exact hka.far (p := ⟨w.heap.size + 1 + 1, 0, none⟩) (by show w4.heap.size ≠ w.heap.size + 1 + 1; omega) _
    have FB := Lib.hid hfb
    have HLT := Lib.hid hlt4
    clear hlt4
    rw [hwa] at x6 x7 x8 f6 f7 f8
    rw [hwa] at hwb
    clear g4 r4 B1 b2 ra rb HR hwa hfb hka
    go_upto_region 3 with (fail)
    rw [← hwb]
    clear hwb x6 x7 x8 f6 f7 f8
    obtain ⟨x6, x7, x8⟩ := RB.out.cells
    go_wp2_with fail
    ((with_reducible refine (Mu.out _).mono ?_); rintro r w5 ⟨rfl, rfl⟩)
    have hcv := Lib.run_convert_string_bytes (P := Tryz.prog) w5 9 86 5 s Tryz.underlying9 Tryz.underlying86 Tryz.underlying5
    obtain ⟨cap, hcap⟩ : ∃ cap, cap = grownCap w5 s.size 0 5 := ⟨_, rfl⟩
    obtain ⟨w6, hw6⟩ : ∃ w6, w6 = Lib.bytesWorld w5 5 s := ⟨_, rfl⟩
    rw [← hcap, ← hw6] at hcv
    have hbr : BRow w6 w5.heap.size s := fun j hj => by rw [hw6]; exact Lib.bytesWorld_cell w5 5 s j hj
    have hb6 : Below w5.heap.size w5 w6 := by rw [hw6]; exact Lib.bytesWorld_below _ _ _
    have hg6 : w5.heap.size < w6.heap.size := by rw [hw6, Lib.bytesWorld_size]; omega
    have R6 := Lib.hid (RB.out.below hb6)
    have F6 := Lib.hid (FB.out.below hb6 FB.out.lt)
    clear hcap hw6 RB FB
    go_wp2_with fail
    ((with_reducible refine (Sc.out _ _ _ hbr hg6).mono ?_); rintro r w7 ⟨rfl, g7⟩)
    have r7 := R6.out.below g7
    obtain ⟨hki, hbi⟩ := new6 w7 83 (.int .i64 m) (.bool neg) (.slice none 0 0) (.int .i64 0) (.int .i64 0) (.bool false)
    have ri := r7.below hbi
    have rj := ri.set7 0
    have rk := rj.set8 0
    obtain ⟨wi, hwi⟩ : ∃ wi, wi = w7.alloc (.cells #[.int .i64 m, .bool neg, .slice none 0 0, .int .i64 0, .int .i64 0, .bool false] 83) := ⟨_, rfl⟩
    obtain ⟨wj, hwj⟩ : ∃ wj, wj = wi.setCell ⟨w.heap.size + 1, 0, none⟩ (.int .i64 0) := ⟨_, rfl⟩
    obtain ⟨wk, hwk⟩ : ∃ wk, wk = wj.setCell ⟨w.heap.size + 1 + 1, 0, none⟩ (.int .i64 0) := ⟨_, rfl⟩
    rw [← hwi] at hki hbi ri rj rk
    rw [← hwj] at rj rk
    rw [← hwk] at rk
    have hlt7 : w.heap.size + 1 + 1 < w7.heap.size := r7.b8.lt
    have hkj : Blk wj w7.heap.size 83 #[.int .i64 m, .bool neg, .slice none 0 0, .int .i64 0, .int .i64 0, .bool false] := by rw [hwj]; exact hki.far (p := ⟨w.heap.size + 1, 0, none⟩) (by show w7.heap.size ≠ w.heap.size + 1; omega) _
    have hkk : Blk wk w7.heap.size 83 #[.int .i64 m, .bool neg, .slice none 0 0, .int .i64 0, .int .i64 0, .bool false] := by rw [hwk]; exact hkj.far (p := ⟨w.heap.size + 1 + 1, 0, none⟩) (by show w7.heap.size ≠ w.heap.size + 1 + 1; omega) _
    have hlt4 := HLT.out
    have f7 : Blk w7 w4.heap.size 55 #[.int .i64 a0, .int .i64 a1, .int .i64 a2, .int .i64 a3, U a4, U a5, U a6] := F6.out.below g7 F6.out.lt
    have fi : Blk wi w4.heap.size 55 #[.int .i64 a0, .int .i64 a1, .int .i64 a2, .int .i64 a3, U a4, U a5, U a6] := f7.below hbi f7.lt
    have fj : Blk wj w4.heap.size 55 #[.int .i64 a0, .int .i64 a1, .int .i64 a2, .int .i64 a3, U a4, U a5, U a6] := by rw [hwj]; exact fi.far (p := ⟨w.heap.size + 1, 0, none⟩) (by show w4.heap.size ≠ w.heap.size + 1; omega) _
    have fk : Blk wk w4.heap.size 55 #[.int .i64 a0, .int .i64 a1, .int .i64 a2, .int .i64 a3, U a4, U a5, U a6] := by rw [hwk]; exact fj.far (p := ⟨w.heap.size + 1 + 1, 0, none⟩) (by show w4.heap.size ≠ w.heap.size + 1 + 1; omega) _
    have FK := Lib.hid fk
    clear f7 fi fj fk hlt4
    have RK := Lib.hid rk
    have HKK := Lib.hid hkk
    obtain ⟨x6, x7, x8⟩ := ri.cells
    obtain ⟨f6, f7, f8⟩ := ri.free
    obtain ⟨y6, y7, y8⟩ := rj.cells
    obtain ⟨e6, e7, e8⟩ := rj.free
    rw [hwi] at x6 x7 x8 f6 f7 f8
    rw [hwj, hwi] at y6 y7 y8 e6 e7 e8
    rw [hwj, hwi] at hwk
    clear hcv hbr hb6 hg6 R6 F6 g7 r7 hki hbi ri rj rk hkj hkk hwj hwi
    go_upto_region 7 with (fail)
    rw [← hwk]
    clear hwk x6 x7 x8 f6 f7 f8 y6 y7 y8 e6 e7 e8
    obtain ⟨x6, x7, x8⟩ := RK.out.cells
    obtain ⟨j0, j1, j2, j3, j4, j5⟩ := rest6 HKK.out
    obtain ⟨v0, v1, v2, v3, v4, v5, v6⟩ := rest7 FK.out
    obtain ⟨e6, e7, e8⟩ := RK.out.free
    go_wp2_with fail
    ((with_reducible refine (Mu.out _).mono ?_); rintro r w8 ⟨rfl, rfl⟩)
    go_wp2_with fail
    ((with_reducible refine (Pw.out _).mono ?_); rintro r wD ⟨rfl, g9⟩)
    have RC := Lib.hid (RK.out.below g9)
    obtain ⟨x6, x7, x8⟩ := RC.out.cells
    obtain ⟨f6, f7, f8⟩ := RC.out.free
    clear j0 j1 j2 j3 j4 j5 v0 v1 v2 v3 v4 v5 v6 g9 RK HKK FK
    have rd := RC.out.set6 q
    have re := rd.set7 0
    have rf := re.set8 0
    obtain ⟨y6, y7, y8⟩ := rd.cells
    obtain ⟨e6, e7, e8⟩ := rd.free
    obtain ⟨z6, z7, z8⟩ := re.cells
    obtain ⟨i6, i7, i8⟩ := re.free
    obtain ⟨wF, hwF⟩ : ∃ wF, wF = ((wD.setCell ⟨w.heap.size, 0, none⟩ (.int .u64 q)).setCell ⟨w.heap.size + 1, 0, none⟩ (.int .i64 0)).setCell ⟨w.heap.size + 1 + 1, 0, none⟩ (.int .i64 0) := ⟨_, rfl⟩
    rw [← hwF] at rf
    have RF := Lib.hid rf
    clear rd re rf RC
    go_wp2_with fail
    rw [← hwF]
    clear hwF x6 x7 x8 f6 f7 f8 y6 y7 y8 e6 e7 e8 z6 z7 z8 i6 i7 i8
    refine leaves_cons (f := 37) (args := #[.pointer (some ⟨w.heap.size, 0, none⟩), .pointer (some ⟨w.heap.size + 1, 0, none⟩), .pointer (some ⟨w.heap.size + 1 + 1, 0, none⟩)]) (by simp) (by simp [go_sem]) ?_
    refine (pdefer_idle _ _ _ _).mono ?_
    rintro e u' w'' ⟨rfl, rfl, rfl⟩
    obtain ⟨hs6, hs7, hs8⟩ := RF.out.cells
    simp [Leaves, settle, results, Tryz.results16, go_sem, hs6, hs7, hs8]
    exact RF.out.bel
end Go.Proofs.YtnlpkehllihllaaGreatDoor
