/-
  A part of the proofs that calipertop.TopBack, TopFloats and TopNearest return true for every input and leave it as it was: part 25 of 47.
-/
import Derived.Test.YtnlpkehllihllaaGreatDoorGt22
import Derived.Test.YtnlpkehllihllaaGreatDoorGt23
import Derived.Test.YtnlpkehllihllaaGreatDoorGt24
import Derived.Test.YtnlpkehllihllaaGreatDoorGt20
/-
  The walk of scan.Scan, of a number's text and of a word.
-/
namespace Go.Proofs.YtnlpkehllihllaaGreatDoor
open Go.RowKit Go.Sort

/-- A block holds a string's bytes. -/
def BRow (w : World) (g : Nat) (s : ByteArray) : Prop := ∀ j, j < s.size → w.cell? ⟨g, j, none⟩ = some (.int .u8 (s.data.toList.getD j 0).toNat)
theorem BRow.below {w w' : World} {g B : Nat} {s : ByteArray} (h : BRow w g s) (hb : Below B w w') (hg : g < B) : BRow w' g s := fun j hj => (hb.cell (p := ⟨g, j, none⟩) hg).trans (h j hj)
theorem conv_back (s : ByteArray) (g cap : Nat) (W : World) (h : BRow W g s) : (convert 86 9 (.slice (some ⟨g, 0, none⟩) s.size cap)).run Tryz.prog W = .ok (.string s) W := by
  have a := run_convert_bytes_back (P := Tryz.prog) W 86 9 5 ⟨g, 0, none⟩ cap s.data.toList Tryz.underlying86 Tryz.underlying5 Tryz.underlying9 (fun j hj => by
    have hj2 : j < s.size := by rw [← size_list]; exact hj
    have b := h j hj2
    rw [List.getD_eq_getElem?_getD, List.getElem?_eq_getElem hj] at b
    have e : (⟨g, 0, none⟩ : Addr).add j = ⟨g, j, none⟩ := by
      unfold Addr.add
      split
      · next q => rw [q]
      · simp
    rw [e]
    simpa using b)
  rw [size_list] at a
  exact a

/-- A number's text, as Scan takes it. -/
structure ScT (s : ByteArray) (neg : Bool) (d1 : List UInt8) (pt : Bool) (d2 : List UInt8) (ex eg : Bool) (es core : List UInt8) (z1 z2 : Nat) (K : Int) : Prop where
  num : NumT s (if neg = true then 1 else 0) d1 pt d2 ex eg es
  sign : Lib.hasPrefix s.data.toList [45] = neg
  size : s.size ≤ 2000
  dec : d1 ++ d2 = List.replicate z1 48 ++ (core ++ List.replicate z2 48)
  ne : core ≠ []
  head : core[0]? ≠ some 48
  last : core.reverse[0]? ≠ some 48
  len : core.length ≤ 60
  zs : z1 ≤ 1000 ∧ z2 ≤ 300
  exp : -600 ≤ (if eg = true then -(dval es : Int) else dval es) - d2.length ∧ (if eg = true then -(dval es : Int) else dval es) - d2.length ≤ 600
  is : K = (if eg = true then -(dval es : Int) else dval es) - d2.length + z2
theorem ScT.word {s : ByteArray} {neg : Bool} {d1 : List UInt8} {pt : Bool} {d2 : List UInt8} {ex eg : Bool} {es core : List UInt8} {z1 z2 : Nat} {K : Int} (h : ScT s neg d1 pt d2 ex eg es core z1 z2 K) : WordT s (if neg = true then 1 else 0) 5 := by
  have hl1 : 0 < d1.length := List.length_pos_iff.2 h.num.ne1
  have hg : s.data.toList[(if neg = true then 1 else 0) + 0]? = some d1[0] := by rw [drop_get h.num.txt, List.getElem?_append_left hl1, List.getElem?_eq_getElem hl1]
  rw [Nat.add_zero] at hg
  have hd := h.num.dig1 _ (List.getElem_mem hl1)
  refine ⟨(byte_of hg).1, by have := h.size; omega, Nat.le_refl _, fun i hi => ?_, fun q => absurd q (by omega)⟩
  obtain rfl | rfl | rfl | rfl | rfl : i = 0 ∨ i = 1 ∨ i = 2 ∨ i = 3 ∨ i = 4 := by omega
  · exact .inl rfl
  · exact .inl rfl
  all_goals
    right
    intro c hc e
    rw [hg] at hc
    obtain rfl := Option.some.inj hc
    have e2 := Option.some.inj e
    rw [← e2] at hd
    exact absurd hd (by unfold isD; decide)

/-- What Scan tells of a number. -/
abbrev itn (neg : Bool) (v : Value) (K : Int) : Value := .agg #[.int .i64 1, .bool neg, v, .int .i64 K, .int .i64 0, .bool false]
set_option maxHeartbeats 3200000 in
set_option maxRecDepth 100000 in
/-- scan.Scan of a number. -/
theorem scan_num (s : ByteArray) (neg : Bool) (d1 : List UInt8) (pt : Bool) (d2 : List UInt8) (ex eg : Bool) (es core : List UInt8) (z1 z2 : Nat) (K : Int) (g cap : Nat) (w : World) (h : ScT s neg d1 pt d2 ex eg es core z1 z2 K) (hb : BRow w g s) (hg : g < w.heap.size) :
    Calls Tryz.prog 39 #[.slice (some ⟨g, 0, none⟩) s.size cap] w fun r w' => ∃ A c, r = .returned (.tuple #[itn neg (.slice A (lw (dval core)) c) K, .int .i64 0, .int .i64 0]) ∧ Num w' (.slice A (lw (dval core)) c) (dval core) ∧ Below w.heap.size w w' := by
  obtain ⟨hz0, hzb⟩ := new6 w 83 (.int .i64 0) (.bool false) (.slice none 0 0) (.int .i64 0) (.int .i64 0) (.bool false)
  obtain ⟨wz, hwz⟩ : ∃ wz, wz = w.alloc (.cells #[.int .i64 0, .bool false, .slice none 0 0, .int .i64 0, .int .i64 0, .bool false] 83) := ⟨_, rfl⟩
  rw [← hwz] at hz0 hzb
  have hcv := conv_back s g cap wz (hb.below hzb hg)
  have Hp := Lib.hid fun W => show Calls Tryz.prog 65 #[.string s, .string ⟨#[45]⟩] W _ from Tryz.strings_HasPrefix s ⟨#[45]⟩ W
  rw [show (⟨#[45]⟩ : ByteArray).data.toList = [45] from rfl, h.sign] at Hp
  have hd : ∀ b ∈ core, isD b := by
    intro b hb2
    have : b ∈ d1 ++ d2 := by rw [h.dec]; exact List.mem_append_right _ (List.mem_append_left _ hb2)
    rcases List.mem_append.1 this with q | q
    · exact h.num.dig1 b q
    · exact h.num.dig2 b q
  have Wd := Lib.hid fun W => word_any s _ 5 W h.word
  have Nu := Lib.hid fun W => number_any s _ d1 d2 es pt ex eg W h.num (by have := h.size; omega)
  have It := Lib.hid fun W => item_any core z1 z2 ((if eg = true then -(dval es : Int) else dval es) - d2.length) ⟨(d1 ++ d2).toArray⟩ W (by rw [h.dec]) hd h.ne h.head h.last h.len h.zs h.exp.1 h.exp.2
  rw [← h.is] at It
  have e50 : IntKind.i64.wrap ((if eg = true then -(dval es : Int) else dval es) - (d2.length : Int)) = (if eg = true then -(dval es : Int) else dval es) - (d2.length : Int) := by rw [IntKind.wrap_i64]; have := h.exp; omega
  obtain ⟨X, hX⟩ : ∃ X : Int, X = (if eg = true then -(dval es : Int) else dval es) := ⟨_, rfl⟩
  rw [← hX] at Nu It e50
  obtain ⟨N, hN⟩ : ∃ N, N = d2.length := ⟨_, rfl⟩
  rw [← hN] at Nu It e50
  obtain ⟨dg, hdg⟩ : ∃ dg : ByteArray, dg = ⟨(d1 ++ d2).toArray⟩ := ⟨_, rfl⟩
  rw [show S (d1 ++ d2) = .string dg by rw [hdg]] at Nu
  rw [← hdg] at It
  obtain ⟨D, hD⟩ : ∃ D, D = dval core := ⟨_, rfl⟩
  rw [← hD] at It ⊢
  rw [if_pos rfl] at Wd
  obtain ⟨ai, hai⟩ : ∃ ai : Int, ai = ((if neg = true then 1 else 0 : Nat) : Int) := ⟨_, rfl⟩
  rw [← hai] at Wd Nu
  have HZ := Lib.hid hz0
  have HZB := Lib.hid hzb
  clear hz0 hzb hX hN hdg hD hd h hb
  cases neg
  case false =>
    obtain rfl : ai = 0 := hai
    go_enter Tryz.func39, Tryz.ntmps39
    go_upto_region 1 with (fail)
    rw [← hwz]
    clear hwz
    go_wp2_with fail
    ((with_reducible refine (Hp.out _).mono ?_); rintro r w1 ⟨rfl, rfl⟩)
    clear hcv
    go_wp2_with fail
    ((with_reducible refine (Wd.out _).mono ?_); rintro r w2 ⟨rfl, g2⟩)
    go_wp2_with fail
    ((with_reducible refine (Nu.out _).mono ?_); rintro r w3 ⟨rfl, g3⟩)
    go_wp2_with fail
    ((with_reducible refine (It.out _).mono ?_); rintro r w4 ⟨A, c, rfl, nD, g4⟩)
    have k3 := g2.trans (g3.mono g2.size)
    have k4 := k3.trans (g4.mono k3.size)
    have HZ4 := Lib.hid (Blk.below HZ.out k4 HZ.out.lt)
    have HB4 := Lib.hid (HZB.out.trans (k4.mono HZB.out.size))
    obtain ⟨hkb, bb⟩ := new6 w4 83 (.int .i64 1) (.bool false) (.slice A (lw D) c) (.int .i64 K) (.int .i64 0) (.bool false)
    obtain ⟨wb, hwb⟩ : ∃ wb, wb = w4.alloc (.cells #[.int .i64 1, .bool false, .slice A (lw D) c, .int .i64 K, .int .i64 0, .bool false] 83) := ⟨_, rfl⟩
    rw [← hwb] at hkb bb
    have HN := Lib.hid (nD.below bb)
    have HZ5 := Lib.hid (Blk.below HZ4.out bb HZ4.out.lt)
    have HB5 := Lib.hid (HB4.out.trans (bb.mono HB4.out.size))
    have HKB := Lib.hid hkb
    have hlt : w.heap.size < w4.heap.size := HZ4.out.lt
    clear g2 g3 g4 k3 k4 nD hkb bb HZ HZB HZ4 HB4 Hp Wd Nu It
    go_upto_region 12 with (fail)
    rw [← hwb]
    clear hwb
    obtain ⟨b0, b1, b2, b3, b4, b5⟩ := rest6 HKB.out
    have qb : ∀ o, wb.frozen? ⟨w4.heap.size, o, none⟩ = false := fun o => Blk.frozen HKB.out o
    go_upto_region 13 with (fail)
    obtain ⟨wc, hwc⟩ : ∃ wc, wc = wb.setCell ⟨w4.heap.size, 1, none⟩ (.bool false) := ⟨_, rfl⟩
    have hkc : Blk wc w4.heap.size 83 #[.int .i64 1, .bool false, .slice A (lw D) c, .int .i64 K, .int .i64 0, .bool false] := by
      have a := HKB.out.set_ 1 (.bool false)
      rw [← hwc] at a
      simpa using a
    have hoff : Off w4.heap.size wb wc := by rw [hwc]; exact (Off.refl _ wb).set_ 1 _
    have hbc : Below w.heap.size w wc := by rw [hwc]; exact HB5.out.setCell (by show w.heap.size ≤ w4.heap.size; omega) _
    have HNC := Lib.hid (HN.out.off HKB.out (by simp [noU]) hoff)
    have hzc : Blk wc w.heap.size 83 #[.int .i64 0, .bool false, .slice none 0 0, .int .i64 0, .int .i64 0, .bool false] := (hoff.block w.heap.size (by omega)).trans HZ5.out
    have HZC := Lib.hid hzc
    have HBC := Lib.hid hbc
    have HKC := Lib.hid hkc
    rw [← hwc]
    clear hwc hkc hoff hbc hzc HKB HZ5 HB5 HN b0 b1 b2 b3 b4 b5 qb
    obtain ⟨j0, j1, j2, j3, j4, j5⟩ := rest6 HKC.out
    obtain ⟨y0, y1, y2, y3, y4, y5⟩ := rest6 HZC.out
    have q0 : ∀ o, wc.frozen? ⟨w.heap.size, o, none⟩ = false := fun o => Blk.frozen HZC.out o
    go_wp2_with fail
    obtain ⟨w8, hw8, hk8, hb8, ho8⟩ := stored6 HZC.out (Nat.le_refl _) HBC.out (.int .i64 1) (.bool false) (.slice A (lw D) c) (.int .i64 K) (.int .i64 0) (.bool false)
    have hn8 := HNC.out.off HZC.out (by simp [noU]) ho8
    obtain ⟨r0, r1, r2, r3, r4, r5⟩ := rest6 hk8
    rw [hw8]
    exact bodyPost_ret (v := .tuple #[itn false (.slice A (lw D) c) K, .int .i64 0, .int .i64 0]) (by simp [results, Tryz.results39, go_sem, r0, r1, r2, r3, r4, r5]) rfl ⟨A, c, rfl, hn8, hb8⟩
  case true =>
    obtain rfl : ai = 1 := hai
    go_enter Tryz.func39, Tryz.ntmps39
    go_upto_region 1 with (fail)
    rw [← hwz]
    clear hwz
    go_wp2_with fail
    ((with_reducible refine (Hp.out _).mono ?_); rintro r w1 ⟨rfl, rfl⟩)
    clear hcv
    go_wp2_with fail
    ((with_reducible refine (Wd.out _).mono ?_); rintro r w2 ⟨rfl, g2⟩)
    go_wp2_with fail
    ((with_reducible refine (Nu.out _).mono ?_); rintro r w3 ⟨rfl, g3⟩)
    go_wp2_with fail
    ((with_reducible refine (It.out _).mono ?_); rintro r w4 ⟨A, c, rfl, nD, g4⟩)
    have k3 := g2.trans (g3.mono g2.size)
    have k4 := k3.trans (g4.mono k3.size)
    have HZ4 := Lib.hid (Blk.below HZ.out k4 HZ.out.lt)
    have HB4 := Lib.hid (HZB.out.trans (k4.mono HZB.out.size))
    obtain ⟨hkb, bb⟩ := new6 w4 83 (.int .i64 1) (.bool false) (.slice A (lw D) c) (.int .i64 K) (.int .i64 0) (.bool false)
    obtain ⟨wb, hwb⟩ : ∃ wb, wb = w4.alloc (.cells #[.int .i64 1, .bool false, .slice A (lw D) c, .int .i64 K, .int .i64 0, .bool false] 83) := ⟨_, rfl⟩
    rw [← hwb] at hkb bb
    have HN := Lib.hid (nD.below bb)
    have HZ5 := Lib.hid (Blk.below HZ4.out bb HZ4.out.lt)
    have HB5 := Lib.hid (HB4.out.trans (bb.mono HB4.out.size))
    have HKB := Lib.hid hkb
    have hlt : w.heap.size < w4.heap.size := HZ4.out.lt
    clear g2 g3 g4 k3 k4 nD hkb bb HZ HZB HZ4 HB4 Hp Wd Nu It
    go_upto_region 12 with (fail)
    rw [← hwb]
    clear hwb
    obtain ⟨b0, b1, b2, b3, b4, b5⟩ := rest6 HKB.out
    have qb : ∀ o, wb.frozen? ⟨w4.heap.size, o, none⟩ = false := fun o => Blk.frozen HKB.out o
    go_upto_region 13 with (fail)
    obtain ⟨wc, hwc⟩ : ∃ wc, wc = wb.setCell ⟨w4.heap.size, 1, none⟩ (.bool true) := ⟨_, rfl⟩
    have hkc : Blk wc w4.heap.size 83 #[.int .i64 1, .bool true, .slice A (lw D) c, .int .i64 K, .int .i64 0, .bool false] := by
      have a := HKB.out.set_ 1 (.bool true)
      rw [← hwc] at a
      simpa using a
    have hoff : Off w4.heap.size wb wc := by rw [hwc]; exact (Off.refl _ wb).set_ 1 _
    have hbc : Below w.heap.size w wc := by rw [hwc]; exact HB5.out.setCell (by show w.heap.size ≤ w4.heap.size; omega) _
    have HNC := Lib.hid (HN.out.off HKB.out (by simp [noU]) hoff)
    have hzc : Blk wc w.heap.size 83 #[.int .i64 0, .bool false, .slice none 0 0, .int .i64 0, .int .i64 0, .bool false] := (hoff.block w.heap.size (by omega)).trans HZ5.out
    have HZC := Lib.hid hzc
    have HBC := Lib.hid hbc
    have HKC := Lib.hid hkc
    rw [← hwc]
    clear hwc hkc hoff hbc hzc HKB HZ5 HB5 HN b0 b1 b2 b3 b4 b5 qb
    obtain ⟨j0, j1, j2, j3, j4, j5⟩ := rest6 HKC.out
    obtain ⟨y0, y1, y2, y3, y4, y5⟩ := rest6 HZC.out
    have q0 : ∀ o, wc.frozen? ⟨w.heap.size, o, none⟩ = false := fun o => Blk.frozen HZC.out o
    go_wp2_with fail
    obtain ⟨w8, hw8, hk8, hb8, ho8⟩ := stored6 HZC.out (Nat.le_refl _) HBC.out (.int .i64 1) (.bool true) (.slice A (lw D) c) (.int .i64 K) (.int .i64 0) (.bool false)
    have hn8 := HNC.out.off HZC.out (by simp [noU]) ho8
    obtain ⟨r0, r1, r2, r3, r4, r5⟩ := rest6 hk8
    rw [hw8]
    exact bodyPost_ret (v := .tuple #[itn true (.slice A (lw D) c) K, .int .i64 0, .int .i64 0]) (by simp [results, Tryz.results39, go_sem, r0, r1, r2, r3, r4, r5]) rfl ⟨A, c, rfl, hn8, hb8⟩
end Go.Proofs.YtnlpkehllihllaaGreatDoor

/-
  The walk of scan.Scan, of 0 and of a word.
-/
namespace Go.Proofs.YtnlpkehllihllaaGreatDoor
open Go.RowKit Go.Sort

/-- The text of 0. -/
structure ZeT (s : ByteArray) (neg : Bool) : Prop where
  num : NumT s (if neg = true then 1 else 0) [48] false [] false false []
  sign : Lib.hasPrefix s.data.toList [45] = neg
  size : s.size ≤ 2
theorem ZeT.word {s : ByteArray} {neg : Bool} (h : ZeT s neg) : WordT s (if neg = true then 1 else 0) 5 := by
  have hg : s.data.toList[(if neg = true then 1 else 0) + 0]? = some 48 := by rw [drop_get h.num.txt]; rfl
  rw [Nat.add_zero] at hg
  refine ⟨(byte_of hg).1, by have := h.size; omega, Nat.le_refl _, fun i hi => ?_, fun q => absurd q (by omega)⟩
  obtain rfl | rfl | rfl | rfl | rfl : i = 0 ∨ i = 1 ∨ i = 2 ∨ i = 3 ∨ i = 4 := by omega
  · exact .inl rfl
  · exact .inl rfl
  all_goals
    right
    intro c hc e
    rw [hg] at hc
    obtain rfl := Option.some.inj hc
    exact absurd (Option.some.inj e) (by decide)

set_option maxHeartbeats 3200000 in
set_option maxRecDepth 100000 in
/-- scan.Scan of 0. -/
theorem scan_zero (s : ByteArray) (neg : Bool) (g cap : Nat) (w : World) (h : ZeT s neg) (hb : BRow w g s) (hg : g < w.heap.size) :
    Calls Tryz.prog 39 #[.slice (some ⟨g, 0, none⟩) s.size cap] w fun r w' => r = .returned (.tuple #[itn neg (.slice none 0 0) 0, .int .i64 0, .int .i64 0]) ∧ Below w.heap.size w w' := by
  obtain ⟨hz0, hzb⟩ := new6 w 83 (.int .i64 0) (.bool false) (.slice none 0 0) (.int .i64 0) (.int .i64 0) (.bool false)
  obtain ⟨wz, hwz⟩ : ∃ wz, wz = w.alloc (.cells #[.int .i64 0, .bool false, .slice none 0 0, .int .i64 0, .int .i64 0, .bool false] 83) := ⟨_, rfl⟩
  rw [← hwz] at hz0 hzb
  have hcv := conv_back s g cap wz (hb.below hzb hg)
  have Hp := Lib.hid fun W => show Calls Tryz.prog 65 #[.string s, .string ⟨#[45]⟩] W _ from Tryz.strings_HasPrefix s ⟨#[45]⟩ W
  rw [show (⟨#[45]⟩ : ByteArray).data.toList = [45] from rfl, h.sign] at Hp
  have Wd := Lib.hid fun W => word_any s _ 5 W h.word
  have Nu := Lib.hid fun W => show Calls Tryz.prog 67 #[.string s, .int .i64 ((if neg = true then 1 else 0 : Nat) : Int)] W fun r w' => r = .returned (.tuple #[.string ⟨#[48]⟩, .int .i64 0, .int .i64 0, .int .i64 s.size, .bool true]) ∧ Below W.heap.size W w' from number_any s _ [48] [] [] false false false W h.num (by have := h.size; omega)
  have It := Lib.hid fun W => item_zero 1 ⟨#[48]⟩ W rfl
  rw [if_pos rfl] at Wd
  obtain ⟨ai, hai⟩ : ∃ ai : Int, ai = ((if neg = true then 1 else 0 : Nat) : Int) := ⟨_, rfl⟩
  rw [← hai] at Wd Nu
  obtain ⟨dg, hdg⟩ : ∃ dg : ByteArray, dg = ⟨#[48]⟩ := ⟨_, rfl⟩
  rw [← hdg] at Nu It
  have HZ := Lib.hid hz0
  have HZB := Lib.hid hzb
  clear hz0 hzb h hb hdg
  cases neg
  case false =>
    obtain rfl : ai = 0 := hai
    go_enter Tryz.func39, Tryz.ntmps39
    go_upto_region 1 with (fail)
    rw [← hwz]
    clear hwz
    go_wp2_with fail
    ((with_reducible refine (Hp.out _).mono ?_); rintro r w1 ⟨rfl, rfl⟩)
    clear hcv
    go_wp2_with fail
    ((with_reducible refine (Wd.out _).mono ?_); rintro r w2 ⟨rfl, g2⟩)
    go_wp2_with fail
    ((with_reducible refine (Nu.out _).mono ?_); rintro r w3 ⟨rfl, g3⟩)
    go_wp2_with fail
    ((with_reducible refine (It.out _).mono ?_); rintro r w4 ⟨rfl, g4⟩)
    have k3 := g2.trans (g3.mono g2.size)
    have k4 := k3.trans (g4.mono k3.size)
    have HZ4 := Lib.hid (Blk.below HZ.out k4 HZ.out.lt)
    have HB4 := Lib.hid (HZB.out.trans (k4.mono HZB.out.size))
    obtain ⟨hkb, bb⟩ := new6 w4 83 (.int .i64 1) (.bool false) (.slice none 0 0) (.int .i64 0) (.int .i64 0) (.bool false)
    obtain ⟨wb, hwb⟩ : ∃ wb, wb = w4.alloc (.cells #[.int .i64 1, .bool false, .slice none 0 0, .int .i64 0, .int .i64 0, .bool false] 83) := ⟨_, rfl⟩
    rw [← hwb] at hkb bb
    have HZ5 := Lib.hid (Blk.below HZ4.out bb HZ4.out.lt)
    have HB5 := Lib.hid (HB4.out.trans (bb.mono HB4.out.size))
    have HKB := Lib.hid hkb
    have hlt : w.heap.size < w4.heap.size := HZ4.out.lt
    clear g2 g3 g4 k3 k4 hkb bb HZ HZB HZ4 HB4 Hp Wd Nu It
    go_upto_region 12 with (fail)
    rw [← hwb]
    clear hwb
    obtain ⟨b0, b1, b2, b3, b4, b5⟩ := rest6 HKB.out
    have qb : ∀ o, wb.frozen? ⟨w4.heap.size, o, none⟩ = false := fun o => Blk.frozen HKB.out o
    go_upto_region 13 with (fail)
    obtain ⟨wc, hwc⟩ : ∃ wc, wc = wb.setCell ⟨w4.heap.size, 1, none⟩ (.bool false) := ⟨_, rfl⟩
    have hkc : Blk wc w4.heap.size 83 #[.int .i64 1, .bool false, .slice none 0 0, .int .i64 0, .int .i64 0, .bool false] := by
      have a := HKB.out.set_ 1 (.bool false)
      rw [← hwc] at a
      simpa using a
    have hoff : Off w4.heap.size wb wc := by rw [hwc]; exact (Off.refl _ wb).set_ 1 _
    have hbc : Below w.heap.size w wc := by rw [hwc]; exact HB5.out.setCell (by show w.heap.size ≤ w4.heap.size; omega) _
    have hzc : Blk wc w.heap.size 83 #[.int .i64 0, .bool false, .slice none 0 0, .int .i64 0, .int .i64 0, .bool false] := (hoff.block w.heap.size (by omega)).trans HZ5.out
    have HZC := Lib.hid hzc
    have HBC := Lib.hid hbc
    have HKC := Lib.hid hkc
    rw [← hwc]
    clear hwc hkc hoff hbc hzc HKB HZ5 HB5 b0 b1 b2 b3 b4 b5 qb
    obtain ⟨j0, j1, j2, j3, j4, j5⟩ := rest6 HKC.out
    obtain ⟨y0, y1, y2, y3, y4, y5⟩ := rest6 HZC.out
    have q0 : ∀ o, wc.frozen? ⟨w.heap.size, o, none⟩ = false := fun o => Blk.frozen HZC.out o
    go_wp2_with fail
    obtain ⟨w8, hw8, hk8, hb8, ho8⟩ := stored6 HZC.out (Nat.le_refl _) HBC.out (.int .i64 1) (.bool false) (.slice none 0 0) (.int .i64 0) (.int .i64 0) (.bool false)
    obtain ⟨r0, r1, r2, r3, r4, r5⟩ := rest6 hk8
    rw [hw8]
    exact bodyPost_ret (v := .tuple #[itn false (.slice none 0 0) 0, .int .i64 0, .int .i64 0]) (by simp [results, Tryz.results39, go_sem, r0, r1, r2, r3, r4, r5]) rfl ⟨rfl, hb8⟩
  case true =>
    obtain rfl : ai = 1 := hai
    go_enter Tryz.func39, Tryz.ntmps39
    go_upto_region 1 with (fail)
    rw [← hwz]
    clear hwz
    go_wp2_with fail
    ((with_reducible refine (Hp.out _).mono ?_); rintro r w1 ⟨rfl, rfl⟩)
    clear hcv
    go_wp2_with fail
    ((with_reducible refine (Wd.out _).mono ?_); rintro r w2 ⟨rfl, g2⟩)
    go_wp2_with fail
    ((with_reducible refine (Nu.out _).mono ?_); rintro r w3 ⟨rfl, g3⟩)
    go_wp2_with fail
    ((with_reducible refine (It.out _).mono ?_); rintro r w4 ⟨rfl, g4⟩)
    have k3 := g2.trans (g3.mono g2.size)
    have k4 := k3.trans (g4.mono k3.size)
    have HZ4 := Lib.hid (Blk.below HZ.out k4 HZ.out.lt)
    have HB4 := Lib.hid (HZB.out.trans (k4.mono HZB.out.size))
    obtain ⟨hkb, bb⟩ := new6 w4 83 (.int .i64 1) (.bool false) (.slice none 0 0) (.int .i64 0) (.int .i64 0) (.bool false)
    obtain ⟨wb, hwb⟩ : ∃ wb, wb = w4.alloc (.cells #[.int .i64 1, .bool false, .slice none 0 0, .int .i64 0, .int .i64 0, .bool false] 83) := ⟨_, rfl⟩
    rw [← hwb] at hkb bb
    have HZ5 := Lib.hid (Blk.below HZ4.out bb HZ4.out.lt)
    have HB5 := Lib.hid (HB4.out.trans (bb.mono HB4.out.size))
    have HKB := Lib.hid hkb
    have hlt : w.heap.size < w4.heap.size := HZ4.out.lt
    clear g2 g3 g4 k3 k4 hkb bb HZ HZB HZ4 HB4 Hp Wd Nu It
    go_upto_region 12 with (fail)
    rw [← hwb]
    clear hwb
    obtain ⟨b0, b1, b2, b3, b4, b5⟩ := rest6 HKB.out
    have qb : ∀ o, wb.frozen? ⟨w4.heap.size, o, none⟩ = false := fun o => Blk.frozen HKB.out o
    go_upto_region 13 with (fail)
    obtain ⟨wc, hwc⟩ : ∃ wc, wc = wb.setCell ⟨w4.heap.size, 1, none⟩ (.bool true) := ⟨_, rfl⟩
    have hkc : Blk wc w4.heap.size 83 #[.int .i64 1, .bool true, .slice none 0 0, .int .i64 0, .int .i64 0, .bool false] := by
      have a := HKB.out.set_ 1 (.bool true)
      rw [← hwc] at a
      simpa using a
    have hoff : Off w4.heap.size wb wc := by rw [hwc]; exact (Off.refl _ wb).set_ 1 _
    have hbc : Below w.heap.size w wc := by rw [hwc]; exact HB5.out.setCell (by show w.heap.size ≤ w4.heap.size; omega) _
    have hzc : Blk wc w.heap.size 83 #[.int .i64 0, .bool false, .slice none 0 0, .int .i64 0, .int .i64 0, .bool false] := (hoff.block w.heap.size (by omega)).trans HZ5.out
    have HZC := Lib.hid hzc
    have HBC := Lib.hid hbc
    have HKC := Lib.hid hkc
    rw [← hwc]
    clear hwc hkc hoff hbc hzc HKB HZ5 HB5 b0 b1 b2 b3 b4 b5 qb
    obtain ⟨j0, j1, j2, j3, j4, j5⟩ := rest6 HKC.out
    obtain ⟨y0, y1, y2, y3, y4, y5⟩ := rest6 HZC.out
    have q0 : ∀ o, wc.frozen? ⟨w.heap.size, o, none⟩ = false := fun o => Blk.frozen HZC.out o
    go_wp2_with fail
    obtain ⟨w8, hw8, hk8, hb8, ho8⟩ := stored6 HZC.out (Nat.le_refl _) HBC.out (.int .i64 1) (.bool true) (.slice none 0 0) (.int .i64 0) (.int .i64 0) (.bool false)
    obtain ⟨r0, r1, r2, r3, r4, r5⟩ := rest6 hk8
    rw [hw8]
    exact bodyPost_ret (v := .tuple #[itn true (.slice none 0 0) 0, .int .i64 0, .int .i64 0]) (by simp [results, Tryz.results39, go_sem, r0, r1, r2, r3, r4, r5]) rfl ⟨rfl, hb8⟩

/-- A word's text. -/
structure WdT (s : ByteArray) (neg : Bool) (m : Nat) : Prop where
  word : WordT s (if neg = true then 1 else 0) m
  lt : m < 5
  sign : Lib.hasPrefix s.data.toList [45] = neg

set_option maxHeartbeats 3200000 in
set_option maxRecDepth 100000 in
/-- scan.Scan of a word. -/
theorem scan_word (s : ByteArray) (neg : Bool) (m : Nat) (g cap : Nat) (w : World) (h : WdT s neg m) (hb : BRow w g s) (hg : g < w.heap.size) :
    Calls Tryz.prog 39 #[.slice (some ⟨g, 0, none⟩) s.size cap] w fun r w' => r = .returned (.tuple #[.agg #[.int .i64 m, .bool neg, .slice none 0 0, .int .i64 0, .int .i64 0, .bool false], .int .i64 0, .int .i64 0]) ∧ Below w.heap.size w w' := by
  obtain ⟨hz0, hzb⟩ := new6 w 83 (.int .i64 0) (.bool false) (.slice none 0 0) (.int .i64 0) (.int .i64 0) (.bool false)
  obtain ⟨wz, hwz⟩ : ∃ wz, wz = w.alloc (.cells #[.int .i64 0, .bool false, .slice none 0 0, .int .i64 0, .int .i64 0, .bool false] 83) := ⟨_, rfl⟩
  rw [← hwz] at hz0 hzb
  have hcv := conv_back s g cap wz (hb.below hzb hg)
  have Hp := Lib.hid fun W => show Calls Tryz.prog 65 #[.string s, .string ⟨#[45]⟩] W _ from Tryz.strings_HasPrefix s ⟨#[45]⟩ W
  rw [show (⟨#[45]⟩ : ByteArray).data.toList = [45] from rfl, h.sign] at Hp
  have Wd := Lib.hid fun W => word_any s _ m W h.word
  rw [if_neg (show ¬ m = 5 by have := h.lt; omega)] at Wd
  obtain ⟨ai, hai⟩ : ∃ ai : Int, ai = ((if neg = true then 1 else 0 : Nat) : Int) := ⟨_, rfl⟩
  rw [← hai] at Wd
  have HZ := Lib.hid hz0
  have HZB := Lib.hid hzb
  clear hz0 hzb h hb
  cases neg
  case false =>
    obtain rfl : ai = 0 := hai
    go_enter Tryz.func39, Tryz.ntmps39
    go_upto_region 1 with (fail)
    rw [← hwz]
    clear hwz
    go_wp2_with fail
    ((with_reducible refine (Hp.out _).mono ?_); rintro r w1 ⟨rfl, rfl⟩)
    clear hcv
    go_wp2_with fail
    ((with_reducible refine (Wd.out _).mono ?_); rintro r w2 ⟨rfl, g2⟩)
    have HZC := Lib.hid (Blk.below HZ.out g2 HZ.out.lt)
    have HBC := Lib.hid (HZB.out.trans (g2.mono HZB.out.size))
    clear g2 HZ HZB Hp Wd
    obtain ⟨y0, y1, y2, y3, y4, y5⟩ := rest6 HZC.out
    have q0 : ∀ o, w2.frozen? ⟨w.heap.size, o, none⟩ = false := fun o => Blk.frozen HZC.out o
    go_wp2_with fail
    obtain ⟨w8, hw8, hk8, hb8, ho8⟩ := stored6 HZC.out (Nat.le_refl _) HBC.out (.int .i64 m) (.bool false) (.slice none 0 0) (.int .i64 0) (.int .i64 0) (.bool false)
    obtain ⟨r0, r1, r2, r3, r4, r5⟩ := rest6 hk8
    rw [hw8]
    exact bodyPost_ret (v := .tuple #[.agg #[.int .i64 m, .bool false, .slice none 0 0, .int .i64 0, .int .i64 0, .bool false], .int .i64 0, .int .i64 0]) (by simp [results, Tryz.results39, go_sem, r0, r1, r2, r3, r4, r5]) rfl ⟨rfl, hb8⟩
  case true =>
    obtain rfl : ai = 1 := hai
    go_enter Tryz.func39, Tryz.ntmps39
    go_upto_region 1 with (fail)
    rw [← hwz]
    clear hwz
    go_wp2_with fail
    ((with_reducible refine (Hp.out _).mono ?_); rintro r w1 ⟨rfl, rfl⟩)
    clear hcv
    go_wp2_with fail
    ((with_reducible refine (Wd.out _).mono ?_); rintro r w2 ⟨rfl, g2⟩)
    have HZC := Lib.hid (Blk.below HZ.out g2 HZ.out.lt)
    have HBC := Lib.hid (HZB.out.trans (g2.mono HZB.out.size))
    clear g2 HZ HZB Hp Wd
    obtain ⟨y0, y1, y2, y3, y4, y5⟩ := rest6 HZC.out
    have q0 : ∀ o, w2.frozen? ⟨w.heap.size, o, none⟩ = false := fun o => Blk.frozen HZC.out o
    go_wp2_with fail
    obtain ⟨w8, hw8, hk8, hb8, ho8⟩ := stored6 HZC.out (Nat.le_refl _) HBC.out (.int .i64 m) (.bool true) (.slice none 0 0) (.int .i64 0) (.int .i64 0) (.bool false)
    obtain ⟨r0, r1, r2, r3, r4, r5⟩ := rest6 hk8
    rw [hw8]
    exact bodyPost_ret (v := .tuple #[.agg #[.int .i64 m, .bool true, .slice none 0 0, .int .i64 0, .int .i64 0, .bool false], .int .i64 0, .int .i64 0]) (by simp [results, Tryz.results39, go_sem, r0, r1, r2, r3, r4, r5]) rfl ⟨rfl, hb8⟩
end Go.Proofs.YtnlpkehllihllaaGreatDoor

/-
  Plain laws of TopBack: what is not Finite is told by a word, or by 0; Canon of it is what the word, or 0, stands for.
-/
namespace Go.Proofs.YtnlpkehllihllaaGreatDoor
open Go.RowKit Go.Sort

/-- Canon of a pattern. -/
def canN (f : Fm) (p : Nat) : Nat := if clsI f p (pKey f p) = 4 then f.nan else p
/-- Is a pattern a number, or infinite? -/
def numB (f : Fm) (p : Nat) : Bool := if f.kind = 2 then (decide (pKey f p ≤ f.top) || decide (pKey f p = f.inf)) else (decide (f.nan = 0) || decide (p ≠ f.nan))
theorem can_is (f : Fm) (p : Nat) : (if numB f p = true then p else f.nan) = canN f p := by
  have fin : ∀ c : Int, clsI f p (pKey f p) = c → numB f p = !(decide (c = 4)) → (if numB f p = true then p else f.nan) = canN f p := by
    intro c h1 h2
    unfold canN
    rw [h1, h2]
    by_cases h : c = 4
    · rw [if_pos h, decide_eq_true h]; rfl
    · rw [if_neg h, decide_eq_false h]; rfl
  have hn2 : f.kind = 2 → numB f p = (decide (pKey f p ≤ f.top) || decide (pKey f p = f.inf)) := fun hk => if_pos hk
  have hn1 : f.kind ≠ 2 → numB f p = (decide (f.nan = 0) || decide (p ≠ f.nan)) := fun hk => if_neg hk
  have hcl : clsI f p (pKey f p) = if f.kind = 2 ∧ pKey f p = f.inf ∧ f.inf ≠ 0 then 3 else if (f.kind = 2 ∧ f.top < pKey f p) ∨ (f.kind ≠ 2 ∧ f.nan ≠ 0 ∧ p = f.nan) then 4 else if pKey f p = 0 ∧ f.kind ≠ 4 then 1 else 2 := rfl
  have hlast : ∃ c : Int, c ≠ 4 ∧ (if pKey f p = 0 ∧ f.kind ≠ 4 then 1 else 2 : Int) = c := by
    by_cases h : pKey f p = 0 ∧ f.kind ≠ 4
    · exact ⟨1, by decide, if_pos h⟩
    · exact ⟨2, by decide, if_neg h⟩
  obtain ⟨cl, hl4, hl⟩ := hlast
  rw [hl] at hcl
  by_cases hk : f.kind = 2
  · by_cases h1 : pKey f p = f.inf ∧ f.inf ≠ 0
    · rw [if_pos ⟨hk, h1⟩] at hcl
      refine fin _ hcl ?_
      rw [hn2 hk, decide_eq_true h1.1, Bool.or_true]
      rfl
    · rw [if_neg (fun q => h1 q.2)] at hcl
      by_cases h2 : f.top < pKey f p
      · rw [if_pos (Or.inl ⟨hk, h2⟩)] at hcl
        refine fin _ hcl ?_
        have h3 : ¬ pKey f p = f.inf := fun q => h1 ⟨q, by omega⟩
        rw [hn2 hk, decide_eq_false (show ¬ pKey f p ≤ f.top by omega), decide_eq_false h3]
        rfl
      · rw [if_neg (fun q => q.elim (fun r => h2 r.2) (fun r => r.1 hk))] at hcl
        refine fin _ hcl ?_
        rw [hn2 hk, decide_eq_true (show pKey f p ≤ f.top by omega), decide_eq_false hl4]
        rfl
  · rw [if_neg (fun q => hk q.1)] at hcl
    by_cases h1 : f.nan ≠ 0 ∧ p = f.nan
    · rw [if_pos (Or.inr ⟨hk, h1⟩)] at hcl
      refine fin _ hcl ?_
      rw [hn1 hk, decide_eq_false h1.1, decide_eq_false (fun q => q h1.2)]
      rfl
    · rw [if_neg (fun q => q.elim (fun r => hk r.1) (fun r => h1 r.2))] at hcl
      refine fin _ hcl ?_
      rw [hn1 hk, decide_eq_false hl4]
      by_cases h2 : f.nan = 0
      · rw [decide_eq_true h2]
        rfl
      · rw [decide_eq_true (show p ≠ f.nan from fun q => h1 ⟨h2, q⟩), Bool.or_true]
        rfl

/-- 0 is rounded to 0. -/
theorem zero_round {f : Fm} {mode : Int} {g : Bool} {q : Nat} (h4 : f.kind ≠ 4) (h : RoundIs f mode g 0 q) : q = patN f g 0 := by
  have hb : ∀ k, wth f 0 k = true := fun k => by
    unfold wth
    rw [decide_eq_true (bv_pos f k)]
    rfl
  rcases h with ⟨r1, _⟩ | ⟨_, k, over, hn, r2⟩
  · exact absurd r1 h4
  · rcases hn with ⟨_, _, n3⟩ | ⟨rfl, _, k0, hs, rfl⟩
    · rw [hb] at n3; cases n3
    · rw [if_neg (by decide)] at r2
      have h0 : k0 = 0 := by
        rcases hs.low with q | q
        · exact q
        · rw [hb] at q; cases q
      rw [r2, h0]
      unfold lifted
      rw [if_neg (fun q => q.2.2 rfl)]
theorem zero_pat {f : Fm} (hf : FmIs f) {p : Nat} (hp : p < 2 ^ f.width) (hc : clsI f p (pKey f p) = 1) : f.kind ≠ 4 ∧ patN f (pNeg f p) 0 = p := by
  have h : pKey f p = 0 ∧ f.kind ≠ 4 := by
    unfold clsI at hc
    split at hc
    · cases hc
    · split at hc
      · cases hc
      · split at hc
        · next q => exact q
        · cases hc
  refine ⟨h.2, ?_⟩
  have hk := h.1
  obtain ⟨w1, w2⟩ := width_bd hf
  obtain ⟨n, hn⟩ : ∃ n, f.width = n + 1 := ⟨f.width - 1, by omega⟩
  have hw' : f.width - 1 = n := by omega
  unfold pKey at hk
  unfold patN
  cases hg : pNeg f p
  · rw [if_pos hg] at hk
    rw [if_pos rfl, hk]
  · rw [hg, if_neg (by decide)] at hk
    rw [if_neg (by decide)]
    have hge : 2 ^ (f.width - 1) ≤ p := by
      unfold pNeg at hg
      exact (of_decide_eq_true hg).2
    split at hk
    · next q => rw [if_pos q]; omega
    · next q => omega

def infB : Bool := (List.range 15).all fun n => decide ((formAt n).kind = 2 → (formAt n).inf < 2 ^ ((formAt n).width - 1) ∧ ((formAt n).top < 2 ^ ((formAt n).width - 1) - 1 → (formAt n).nan ≠ 0))
theorem inf_all : infB = true := by decide +kernel
theorem inf_bd {n : Nat} (h2 : n < 15) (hk : (formAt n).kind = 2) : (formAt n).inf < 2 ^ ((formAt n).width - 1) ∧ ((formAt n).top < 2 ^ ((formAt n).width - 1) - 1 → (formAt n).nan ≠ 0) := by
  have h := inf_all
  unfold infB at h
  exact of_decide_eq_true (List.all_eq_true.1 h n (List.mem_range.2 h2)) hk
theorem key_kind2 {f : Fm} {p : Nat} (hk : f.kind = 2) (hp : p < 2 ^ f.width) (hw : 1 ≤ f.width) : pKey f p < 2 ^ (f.width - 1) ∧ p = pKey f p + (if pNeg f p = true then 2 ^ (f.width - 1) else 0) := by
  obtain ⟨n, hn⟩ : ∃ n, f.width = n + 1 := ⟨f.width - 1, by omega⟩
  have hw' : f.width - 1 = n := by omega
  rw [hn, Nat.pow_succ] at hp
  unfold pKey
  cases hg : pNeg f p
  · have h : ¬ (f.kind ≠ 4 ∧ 2 ^ (f.width - 1) ≤ p) := by
      unfold pNeg at hg
      exact of_decide_eq_false hg
    rw [if_pos rfl, if_neg (by decide), hw'] at *
    have : ¬ 2 ^ n ≤ p := fun q => h ⟨by omega, q⟩
    omega
  · have h : f.kind ≠ 4 ∧ 2 ^ (f.width - 1) ≤ p := by
      unfold pNeg at hg
      exact of_decide_eq_true hg
    rw [if_neg (by decide), if_pos hk, if_pos rfl]
    rw [hw'] at h ⊢
    omega
theorem inf_pat {n p : Nat} (h1 : 1 ≤ n) (h2 : n < 15) (hp : p < 2 ^ (formAt n).width) (hc : clsI (formAt n) p (pKey (formAt n) p) = 3) :
    (formAt n).kind = 2 ∧ (formAt n).inf ≠ 0 ∧ (formAt n).inf ||| (if pNeg (formAt n) p = true then (formAt n).sign else 0) = p := by
  have h : (formAt n).kind = 2 ∧ pKey (formAt n) p = (formAt n).inf ∧ (formAt n).inf ≠ 0 := by
    unfold clsI at hc
    split at hc
    · next q => exact q
    · split at hc
      · cases hc
      · split at hc <;> cases hc
  obtain ⟨k2, k3, k4⟩ := h
  have hb := (inf_bd h2 k2).1
  have hw := width_bd (form_is h1 h2)
  obtain ⟨_, e⟩ := key_kind2 k2 hp (by omega)
  refine ⟨k2, k4, ?_⟩
  have hs : (formAt n).sign = 2 ^ ((formAt n).width - 1) := if_neg (by omega)
  rw [k3] at e
  cases hg : pNeg (formAt n) p
  · rw [hg, if_neg (by decide)] at e
    rw [if_neg (by decide), Nat.or_zero]
    omega
  · rw [hg, if_pos rfl] at e
    rw [if_pos rfl, hs, Nat.or_comm]
    have := Nat.two_pow_add_eq_or_of_lt hb 1
    rw [Nat.mul_one] at this
    rw [← this]
    omega
theorem nan_pat {n p : Nat} (h1 : 1 ≤ n) (h2 : n < 15) (hp : p < 2 ^ (formAt n).width) (hc : clsI (formAt n) p (pKey (formAt n) p) = 4) : (formAt n).nan ≠ 0 := by
  have hw := width_bd (form_is h1 h2)
  unfold clsI at hc
  split at hc
  · cases hc
  · split at hc
    · next q =>
      rcases q with ⟨k2, q⟩ | ⟨_, q, _⟩
      · obtain ⟨e, _⟩ := key_kind2 k2 hp (by omega)
        exact (inf_bd h2 k2).2 (by omega)
      · exact q
    · split at hc <;> cases hc

/-- The text of what is not Finite. -/
def wordP (k : Int) : List UInt8 := if k = 1 then [48] else if k = 3 then [105, 110, 102] else if k = 4 then [110, 97, 110] else []
abbrev sgnL (ng : Bool) : List UInt8 := if ng = true then [45] else []
theorem ze_text (ng : Bool) : ZeT ⟨(sgnL ng ++ [48]).toArray⟩ ng := by
  have hd : ∀ b ∈ ([48] : List UInt8), isD b := fun b hb => by
    obtain rfl := List.mem_singleton.1 hb
    unfold isD
    decide
  cases ng
  · refine ⟨⟨by rfl, by decide, hd, fun b hb => (by cases hb), fun b hb => (by cases hb), by decide, fun h => (by cases h), fun _ => rfl, fun h => (by cases h), fun _ => ⟨rfl, rfl⟩, by decide⟩, by decide, by decide⟩
  · refine ⟨⟨by rfl, by decide, hd, fun b hb => (by cases hb), fun b hb => (by cases hb), by decide, fun h => (by cases h), fun _ => rfl, fun h => (by cases h), fun _ => ⟨rfl, rfl⟩, by decide⟩, by decide, by decide⟩
theorem wd_inf (ng : Bool) : WdT ⟨(sgnL ng ++ [105, 110, 102]).toArray⟩ ng 2 := by
  cases ng
  · refine ⟨⟨by decide, by decide, by decide, fun i hi => ?_, fun _ => ⟨by decide, by rfl⟩⟩, by decide, by decide⟩
    obtain rfl | rfl : i = 0 ∨ i = 1 := by omega
    · exact .inl rfl
    · exact .inl rfl
  · refine ⟨⟨by decide, by decide, by decide, fun i hi => ?_, fun _ => ⟨by decide, by rfl⟩⟩, by decide, by decide⟩
    obtain rfl | rfl : i = 0 ∨ i = 1 := by omega
    · exact .inl rfl
    · exact .inl rfl
theorem wd_nan : WdT ⟨([110, 97, 110] : List UInt8).toArray⟩ false 3 := by
  refine ⟨⟨by decide, by decide, by decide, fun i hi => ?_, fun _ => ⟨by decide, by rfl⟩⟩, by decide, by decide⟩
  obtain rfl | rfl | rfl : i = 0 ∨ i = 1 ∨ i = 2 := by omega
  · exact .inl rfl
  · exact .inl rfl
  · right
    intro c hc e
    obtain rfl : (110 : UInt8) = c := Option.some.inj hc
    exact absurd (Option.some.inj e) (by decide)
theorem wd_nar : WdT ⟨([78, 97, 82] : List UInt8).toArray⟩ false 4 := by
  refine ⟨⟨by decide, by decide, by decide, fun i hi => ?_, fun _ => ⟨by decide, by rfl⟩⟩, by decide, by decide⟩
  obtain rfl | rfl | rfl | rfl : i = 0 ∨ i = 1 ∨ i = 2 ∨ i = 3 := by omega
  · exact .inl rfl
  · exact .inl rfl
  · right
    intro c hc e
    obtain rfl : (78 : UInt8) = c := Option.some.inj hc
    exact absurd (Option.some.inj e) (by decide)
  · right
    intro c hc e
    obtain rfl : (78 : UInt8) = c := Option.some.inj hc
    exact absurd (Option.some.inj e) (by decide)
end Go.Proofs.YtnlpkehllihllaaGreatDoor
