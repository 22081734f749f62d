/-
  A part of the proofs that calipertop.TopBack, TopFloats and TopNearest return true for every input and leave it as it was: part 22 of 47.
-/
import Derived.Test.YtnlpkehllihllaaGreatDoorGt19
import Derived.Test.YtnlpkehllihllaaGreatDoorGt21
/-
  The walks of short.interval.has, ten.
-/
namespace Go.Proofs.YtnlpkehllihllaaGreatDoor
open Go.RowKit Go.Sort

/-- What has reckons. -/
def hasB (c b : Int) (ev nl : Bool) : Bool := (decide (0 < c) || (decide (c = 0) && ev && nl)) && (decide (b < 0) || (decide (b = 0) && ev))
theorem inI_has (lo hi Y : Nat) (ev : Bool) : inI lo hi Y ev = hasB (cmpI (Y : Int) (lo : Int)) (if hi = 0 then -1 else cmpI (Y : Int) (hi : Int)) ev (decide (lo ≠ 0)) := by
  unfold inI hasB
  have key : ∀ a b : Nat, (cmpI (a : Int) (b : Int) = -1 ∧ a < b) ∨ (cmpI (a : Int) (b : Int) = 0 ∧ a = b) ∨ (cmpI (a : Int) (b : Int) = 1 ∧ b < a) := by
    intro a b
    unfold cmpI
    rcases Nat.lt_trichotomy a b with q | q | q
    · left; rw [if_pos (by omega)]; exact ⟨rfl, q⟩
    · right; left; rw [if_neg (by omega), if_neg (by omega)]; exact ⟨rfl, q⟩
    · right; right; rw [if_neg (by omega), if_pos (by omega)]; exact ⟨rfl, q⟩
  have e1 : (decide (lo < Y) || (decide (Y = lo) && ev && decide (lo ≠ 0))) = (decide (0 < cmpI (Y : Int) (lo : Int)) || (decide (cmpI (Y : Int) (lo : Int) = 0) && ev && decide (lo ≠ 0))) := by
    rcases key Y lo with ⟨q, r⟩ | ⟨q, r⟩ | ⟨q, r⟩
    · rw [q, decide_eq_false (show ¬ lo < Y by omega), decide_eq_false (show ¬ Y = lo by omega)]; rfl
    · rw [q, decide_eq_false (show ¬ lo < Y by omega), decide_eq_true r]; rfl
    · rw [q, decide_eq_true r]; rfl
  have e2 : (decide (hi = 0) || decide (Y < hi) || (decide (Y = hi) && ev)) = (decide ((if hi = 0 then -1 else cmpI (Y : Int) (hi : Int)) < 0) || (decide ((if hi = 0 then -1 else cmpI (Y : Int) (hi : Int)) = 0) && ev)) := by
    by_cases h : hi = 0
    · rw [if_pos h, decide_eq_true h]; rfl
    · rw [if_neg h, decide_eq_false h]
      rcases key Y hi with ⟨q, r⟩ | ⟨q, r⟩ | ⟨q, r⟩
      · rw [q, decide_eq_true r]; rfl
      · rw [q, decide_eq_false (show ¬ Y < hi by omega), decide_eq_true r]; rfl
      · rw [q, decide_eq_false (show ¬ Y < hi by omega), decide_eq_false (show ¬ Y = hi by omega)]; rfl
  rw [e1, e2]

/-- An interval's cells. -/
abbrev ivc (vl : Value) (tl : Int) (vh : Value) (th : Int) (ev : Bool) : Array Value := #[.bool false, vl, .int .i64 tl, .int .i64 0, .bool false, vh, .int .i64 th, .int .i64 0, .bool ev]
/-- What an interval reads as. -/
structure Iv (w : World) (vl : Value) (nl : Nat) (tl : Int) (vh : Value) (nh : Nat) (th : Int) : Prop where
  low : Num w vl nl
  high : Num w vh nh
  lowOk : XOk nl tl 0
  highOk : XOk nh th 0
theorem Iv.below {w w' : World} {vl vh : Value} {nl nh : Nat} {tl th : Int} (h : Iv w vl nl tl vh nh th) (hb : Below w.heap.size w w') : Iv w' vl nl tl vh nh th := ⟨h.low.below hb, h.high.below hb, h.lowOk, h.highOk⟩
theorem Iv.drew {w : World} {vl vh : Value} {nl nh : Nat} {tl th : Int} (h : Iv w vl nl tl vh nh th) : Iv w.drew vl nl tl vh nh th := ⟨h.low, h.high, h.lowOk, h.highOk⟩

theorem rest9 {w2 : World} {b : Nat} {t : TypeId} {x0 x1 x2 x3 x4 x5 x6 x7 x8 : Value} (hk : Blk w2 b t #[x0, x1, x2, x3, x4, x5, x6, x7, x8]) :
    w2.cell? ⟨b, 0, none⟩ = some x0 ∧ w2.cell? ⟨b, 1, none⟩ = some x1 ∧ w2.cell? ⟨b, 2, none⟩ = some x2 ∧ w2.cell? ⟨b, 3, none⟩ = some x3 ∧ w2.cell? ⟨b, 4, none⟩ = some x4 ∧ w2.cell? ⟨b, 5, none⟩ = some x5 ∧ w2.cell? ⟨b, 6, none⟩ = some x6 ∧ w2.cell? ⟨b, 7, none⟩ = some x7 ∧ w2.cell? ⟨b, 8, none⟩ = some x8 :=
  ⟨Blk.cell hk 0, Blk.cell hk 1, Blk.cell hk 2, Blk.cell hk 3, Blk.cell hk 4, Blk.cell hk 5, Blk.cell hk 6, Blk.cell hk 7, Blk.cell hk 8⟩
theorem two_blks (w : World) (t1 t2 : TypeId) (cs1 cs2 : Array Value) : ∃ w2, w2 = (w.alloc (.cells cs1 t1)).alloc (.cells cs2 t2) ∧ Blk w2 w.heap.size t1 cs1 ∧ Blk w2 (w.heap.size + 1) t2 cs2 ∧ Below w.heap.size w w2 := by
  refine ⟨_, rfl, (Blk.new w _ _).alloc _, ?_, below_two w _ _⟩
  have h := Blk.new (w.alloc (.cells cs1 t1)) t2 cs2
  simpa using h
theorem cmpI_three (a b : Int) : cmpI a b = -1 ∨ cmpI a b = 0 ∨ cmpI a b = 1 := by
  unfold cmpI
  split
  · omega
  · split <;> omega
theorem ex_ne {x : Nat} (t f : Int) : ex x t f ≠ 0 ↔ x ≠ 0 :=
  ⟨fun h q => h (by rw [q, ex_zero]), fun h q => by have := ex_pos h t f; omega⟩

set_option maxHeartbeats 6400000 in
set_option maxRecDepth 100000 in
/-- short.interval.has. -/
theorem has_any (vl : Value) (nl : Nat) (tl : Int) (vh : Value) (nh : Nat) (th : Int) (ev g : Bool) (vn : Value) (x : Nat) (t f : Int) (w : World) (hI : Iv w vl nl tl vh nh th) (hN : Num w vn x) (hx : XOk x t f) :
    Calls Tryz.prog 76 #[.agg (ivc vl tl vh th ev), .agg #[.bool g, vn, .int .i64 t, .int .i64 f]] w fun r w' => r = .returned (.bool (inI (ex nl tl 0) (ex nh th 0) (ex x t f) ev)) ∧ Below w.heap.size w w' := by
  obtain ⟨l1, l2, l3, l4⟩ := hI
  obtain ⟨x1, x2, x3, x4, x5⟩ := hx
  obtain ⟨y1, y2, y3, y4, y5⟩ := l3
  obtain ⟨z1, z2, z3, z4, z5⟩ := l4
  have CmL := Lib.hid fun W (ha : Num W vn x) (hb : Num W vl nl) => cmpx_any g false vn vl x nl t f tl 0 W ha hb (by omega) (by omega) x2 x3 y2 y3 x4 x5 (by omega) (by omega)
  have CmH := Lib.hid fun W (ha : Num W vn x) (hb : Num W vh nh) => cmpx_any g false vn vh x nh t f th 0 W ha hb (by omega) (by omega) x2 x3 z2 z3 x4 x5 (by omega) (by omega)
  have hin := inI_has (ex nl tl 0) (ex nh th 0) (ex x t f) ev
  rw [show decide (ex nl tl 0 ≠ 0) = decide (nl ≠ 0) from decide_eq_decide.2 (ex_ne tl 0)] at hin
  have hh0 : ex nh th 0 = 0 ↔ nh = 0 := by
    constructor
    · intro q; exact Classical.byContradiction fun r => (ex_ne th 0).2 r q
    · intro q; rw [q, ex_zero]
  have hc3 := cmpI_three (ex x t f : Int) (ex nl tl 0 : Int)
  have hd3 := cmpI_three (ex x t f : Int) (ex nh th 0 : Int)
  obtain ⟨c, hc⟩ : ∃ c, c = cmpI (ex x t f : Int) (ex nl tl 0 : Int) := ⟨_, rfl⟩
  obtain ⟨d, hd⟩ : ∃ d, d = cmpI (ex x t f : Int) (ex nh th 0 : Int) := ⟨_, rfl⟩
  rw [← hc] at CmL hin hc3
  rw [← hd] at CmH hin hd3
  obtain ⟨R, hR⟩ : ∃ R, R = inI (ex nl tl 0) (ex nh th 0) (ex x t f) ev := ⟨_, rfl⟩
  rw [← hR] at hin ⊢
  have hin2 : R = hasB c (if nh = 0 then -1 else d) ev (decide (nl ≠ 0)) := by
    rw [hin]
    by_cases q : nh = 0
    · rw [if_pos q, if_pos (hh0.2 q)]
    · rw [if_neg q, if_neg (fun r => q (hh0.1 r))]
  have HIN := Lib.hid hin2
  have HC3 := Lib.hid hc3
  have HD3 := Lib.hid hd3
  have hll := l1.len
  have hlh := l2.len
  unfold maxLen at hll hlh
  obtain ⟨Al, cl, rfl, _, _, _⟩ := id l1
  obtain ⟨Ah, ch, rfl, _, _, _⟩ := id l2
  obtain ⟨w2, hw2, hk1, hk2, hb2⟩ := two_blks w 95 25 (ivc (.slice Al (lw nl) cl) tl (.slice Ah (lw nh) ch) th ev) #[.bool g, vn, .int .i64 t, .int .i64 f]
  have HL2 := Lib.hid (l1.below hb2)
  have HH2 := Lib.hid (l2.below hb2)
  have HN2 := Lib.hid (hN.below hb2)
  have HK1 := Lib.hid hk1
  have HK2 := Lib.hid hk2
  have HB2 := Lib.hid hb2
  have HnlZ := Lib.hid (show lw nl = 0 ↔ nl = 0 from lw_eq_zero)
  have HnhZ := Lib.hid (show lw nh = 0 ↔ nh = 0 from lw_eq_zero)
  obtain ⟨ll, hlle⟩ : ∃ ll, ll = lw nl := ⟨_, rfl⟩
  obtain ⟨lh, hlhe⟩ : ∃ lh, lh = lw nh := ⟨_, rfl⟩
  clear hin hin2 hh0 hc3 hd3 hc hd hR l1 l2 hN hk1 hk2 hb2 x1 x2 x3 x4 x5 y1 y2 y3 y4 y5 z1 z2 z3 z4 z5
  rw [← hlle] at hll HnlZ CmL HL2 HK1 hw2 ⊢
  rw [← hlhe] at hlh HnhZ CmH HH2 HK1 hw2 ⊢
  clear hlle hlhe
  go_enter Tryz.func76, Tryz.ntmps76
  go_upto_region 1 with (fail)
  rw [← hw2]
  clear hw2
  obtain ⟨k0, k1, k2, k3, k4, k5, k6, k7, k8⟩ := rest9 HK1.out
  obtain ⟨j0, j1, j2, j3⟩ := rest4 HK2.out
  go_wp2_with fail
  ((with_reducible refine (CmL.out _ HN2.out HL2.out).mono ?_); rintro r w3 ⟨rfl, g3⟩)
  have HK13 := Lib.hid (Blk.below HK1.out g3 HK1.out.lt)
  have HK23 := Lib.hid (Blk.below HK2.out g3 HK2.out.lt)
  have HH3 := Lib.hid (HH2.out.below g3)
  have HN3 := Lib.hid (HN2.out.below g3)
  have HB3 := Lib.hid (HB2.out.trans (g3.mono HB2.out.size))
  clear g3 k0 k1 k2 k3 k4 k5 k6 k7 k8 j0 j1 j2 j3 CmL HN2 HL2 HK1 HK2 HH2 HB2
  obtain ⟨k0, k1, k2, k3, k4, k5, k6, k7, k8⟩ := rest9 HK13.out
  obtain ⟨j0, j1, j2, j3⟩ := rest4 HK23.out
  obtain ⟨gb, hgb⟩ : ∃ gb, gb = decide (0 < lh) := ⟨_, rfl⟩
  have tg : decide ((0 : Int) < (lh : Int)) = gb := by rw [hgb]; simp
  have tg2 : decide (0 < lh) = gb := hgb.symm
  have HG := Lib.hid hgb
  obtain ⟨dd, hdd⟩ : ∃ dd, dd = if nh = 0 then -1 else d := ⟨_, rfl⟩
  rw [← hdd] at HIN
  have HDD := Lib.hid hdd
  clear hgb hdd
  go_upto_if 15 with (fail)
  go_cut [6] from 11 to 19 (fun b wz => b = .int .i64 dd ∧ Hid (Below w3.heap.size w3 wz))
  case first =>
    clear tg tg2
    cases gb
    · have H := Lib.hid (show dd = -1 by rw [HDD.out, if_pos (HnhZ.out.1 (by have := of_decide_eq_false HG.out.symm; omega))])
      go_wp2_with fail
      go_meet
      exact ⟨congrArg (Value.int .i64) H.out.symm, Lib.hid (Below.refl _ _)⟩
    · have H := Lib.hid (show dd = d by rw [HDD.out, if_neg (fun q => by have := of_decide_eq_true HG.out.symm; have := HnhZ.out.2 q; omega)])
      go_wp2_with fail
      ((with_reducible refine (CmH.out _ HN3.out HH3.out).mono ?_); rintro r w4 ⟨rfl, g4⟩)
      have G4 := Lib.hid g4
      clear g4
      go_wp2_with fail
      go_meet
      exact ⟨congrArg (Value.int .i64) H.out.symm, G4⟩
  case rest =>
    obtain ⟨rfl, hwc⟩ := hcut
    clear k0 k1 k2 k3 k4 k5 k6 k7 k8 j0 j1 j2 j3 tg tg2 HG CmH HN3 HH3
    obtain ⟨wd, rfl⟩ : ∃ wd, wd = wc := ⟨_, rfl⟩
    have HK14 := Lib.hid (Blk.below HK13.out hwc.out HK13.out.lt)
    have HB4 := Lib.hid (HB3.out.trans (hwc.out.mono HB3.out.size))
    clear hwc HK13 HK23 HB3
    obtain ⟨k0, k1, k2, k3, k4, k5, k6, k7, k8⟩ := rest9 HK14.out
    have hd3 : dd = -1 ∨ dd = 0 ∨ dd = 1 := by
      rw [HDD.out]
      split
      · left; rfl
      · exact HD3.out
    obtain ⟨nb, hnb⟩ : ∃ nb, nb = decide (nl ≠ 0) := ⟨_, rfl⟩
    have tn2 : decide (0 < ll) = nb := by rw [hnb]; exact decide_eq_decide.2 ⟨fun q r => by have := HnlZ.out.2 r; omega, fun q => Nat.pos_of_ne_zero fun r => q (HnlZ.out.1 r)⟩
    have tn : decide ((0 : Int) < (ll : Int)) = nb := by rw [← tn2]; simp
    rw [← hnb] at HIN
    have hc3 := HC3.out
    clear hnb HDD HD3 HC3 HnlZ HnhZ
    rcases hc3 with rfl | rfl | rfl
    · have H := Lib.hid (show false = R by rw [HIN.out]; rfl)
      clear hd3 HIN
      go_wp2_with fail
      go_ret
      exact ⟨ret_b H.out, HB4.out⟩
    · cases ev
      · have H := Lib.hid (show false = R by rw [HIN.out]; rfl)
        clear hd3 HIN
        go_wp2_with fail
        go_ret
        exact ⟨ret_b H.out, HB4.out⟩
      · cases nb
        · have H := Lib.hid (show false = R by rw [HIN.out]; rfl)
          clear hd3 HIN
          go_wp2_with fail
          go_ret
          exact ⟨ret_b H.out, HB4.out⟩
        · rcases hd3 with rfl | rfl | rfl
          · have H := Lib.hid (show true = R by rw [HIN.out]; rfl)
            clear HIN
            go_wp2_with fail
            go_ret
            exact ⟨ret_b H.out, HB4.out⟩
          · have H := Lib.hid (show true = R by rw [HIN.out]; rfl)
            clear HIN
            go_wp2_with fail
            go_ret
            exact ⟨ret_b H.out, HB4.out⟩
          · have H := Lib.hid (show false = R by rw [HIN.out]; rfl)
            clear HIN
            go_wp2_with fail
            go_ret
            exact ⟨ret_b H.out, HB4.out⟩
    · rcases hd3 with rfl | rfl | rfl
      · have H := Lib.hid (show true = R by rw [HIN.out]; rfl)
        clear HIN
        go_wp2_with fail
        go_ret
        exact ⟨ret_b H.out, HB4.out⟩
      · have H := Lib.hid (show ev = R by rw [HIN.out]; cases ev <;> rfl)
        clear HIN
        go_wp2_with fail
        go_ret
        exact ⟨ret_b H.out, HB4.out⟩
      · have H := Lib.hid (show false = R by rw [HIN.out]; rfl)
        clear HIN
        go_wp2_with fail
        go_ret
        exact ⟨ret_b H.out, HB4.out⟩
end Go.Proofs.YtnlpkehllihllaaGreatDoor

/-
  The walk of scan.item.
-/
namespace Go.Proofs.YtnlpkehllihllaaGreatDoor
open Go.RowKit Go.Sort

theorem drop_zeros {l : List UInt8} (z : Nat) (h : l[0]? ≠ some 48) : (List.replicate z 48 ++ l).dropWhile (· == (48 : UInt8)) = l := by
  induction z with
  | zero =>
    rw [List.replicate_zero, List.nil_append]
    cases l with
    | nil => rfl
    | cons c l =>
      rw [List.dropWhile_cons, if_neg]
      intro q
      exact h (by rw [eq_of_beq q]; rfl)
  | succ z ih => rw [List.replicate_succ, List.cons_append, List.dropWhile_cons, if_pos (by decide)]; exact ih
theorem trimL_zeros (z : Nat) {l : List UInt8} (h : l[0]? ≠ some 48) : Lib.trimLeftB (List.replicate z 48 ++ l) 48 = l := drop_zeros z h
theorem trimR_zeros (z : Nat) {l : List UInt8} (h : l.reverse[0]? ≠ some 48) : Lib.trimRightB (l ++ List.replicate z 48) 48 = l := by
  unfold Lib.trimRightB
  rw [List.reverse_append, List.reverse_replicate, drop_zeros z h, List.reverse_reverse]
theorem bytes_list (l : List UInt8) : (ByteArray.mk l.toArray).data.toList = l := by simp
theorem tl_any (l : List UInt8) (z : Nat) (s0 s1 : ByteArray) (w : World) (h0 : s0 = ⟨(List.replicate z 48 ++ l).toArray⟩) (h1 : s1 = ⟨l.toArray⟩) (h : l[0]? ≠ some 48) :
    Calls Tryz.prog 102 #[.string s0, .string ⟨#[48]⟩] w fun e w' => e = .returned (.string s1) ∧ w' = w := by
  refine (Tryz.strings_TrimLeft_one s0 48 (by decide) w).mono ?_
  rintro e w' ⟨rfl, rfl⟩
  refine ⟨?_, rfl⟩
  rw [h0, h1, bytes_list, trimL_zeros z h]
theorem tr_any (l : List UInt8) (z : Nat) (s0 s1 : ByteArray) (w : World) (h0 : s0 = ⟨(l ++ List.replicate z 48).toArray⟩) (h1 : s1 = ⟨l.toArray⟩) (h : l.reverse[0]? ≠ some 48) (hs : s0.size ≤ 1000000) :
    Calls Tryz.prog 103 #[.string s0, .string ⟨#[48]⟩] w fun e w' => e = .returned (.string s1) ∧ w' = w := by
  refine (Tryz.strings_TrimRight_one s0 48 (by decide) w (by omega)).mono ?_
  rintro e w' ⟨rfl, rfl⟩
  refine ⟨?_, rfl⟩
  rw [h0, h1, bytes_list, trimR_zeros z h]
theorem bytes_size (l : List UInt8) : (⟨l.toArray⟩ : ByteArray).size = l.length := by
  show l.toArray.size = l.length
  simp
theorem new6 (w : World) (t : TypeId) (x0 x1 x2 x3 x4 x5 : Value) : Blk (w.alloc (.cells #[x0, x1, x2, x3, x4, x5] t)) w.heap.size t #[x0, x1, x2, x3, x4, x5] ∧ Below w.heap.size w (w.alloc (.cells #[x0, x1, x2, x3, x4, x5] t)) :=
  ⟨Blk.new w t _, (Below.refl _ _).alloc (Nat.le_refl _) _⟩
theorem rest6 {w2 : World} {b : Nat} {t : TypeId} {x0 x1 x2 x3 x4 x5 : Value} (hk : Blk w2 b t #[x0, x1, x2, x3, x4, x5]) :
    w2.cell? ⟨b, 0, none⟩ = some x0 ∧ w2.cell? ⟨b, 1, none⟩ = some x1 ∧ w2.cell? ⟨b, 2, none⟩ = some x2 ∧ w2.cell? ⟨b, 3, none⟩ = some x3 ∧ w2.cell? ⟨b, 4, none⟩ = some x4 ∧ w2.cell? ⟨b, 5, none⟩ = some x5 :=
  ⟨Blk.cell hk 0, Blk.cell hk 1, Blk.cell hk 2, Blk.cell hk 3, Blk.cell hk 4, Blk.cell hk 5⟩
/-- Six cells of one block written, one behind the other. -/
theorem stored6 {w w2 : World} {B b : Nat} {t : TypeId} {x0 x1 x2 x3 x4 x5 : Value} (hk : Blk w2 b t #[x0, x1, x2, x3, x4, x5]) (hB : B ≤ b) (hb : Below B w w2) (a0 a1 a2 a3 a4 a5 : Value) :
    ∃ w4, (((((w2.setCell ⟨b, 0, none⟩ a0).setCell ⟨b, 1, none⟩ a1).setCell ⟨b, 2, none⟩ a2).setCell ⟨b, 3, none⟩ a3).setCell ⟨b, 4, none⟩ a4).setCell ⟨b, 5, none⟩ a5 = w4 ∧ Blk w4 b t #[a0, a1, a2, a3, a4, a5] ∧ Below B w w4 ∧ Off b w2 w4 := by
  refine ⟨_, rfl, ?_, (((((hb.setCell hB _).setCell hB _).setCell hB _).setCell hB _).setCell hB _).setCell hB _, ((((((Off.refl b w2).set_ 0 a0).set_ 1 a1).set_ 2 a2).set_ 3 a3).set_ 4 a4).set_ 5 a5⟩
  have h := (((((hk.set_ 0 a0).set_ 1 a1).set_ 2 a2).set_ 3 a3).set_ 4 a4).set_ 5 a5
  simpa using h

/-- What scan.item tells. -/
abbrev itm (v : Value) (K : Int) : Value := .agg #[.int .i64 1, .bool false, v, .int .i64 K, .int .i64 0, .bool false]

set_option maxHeartbeats 3200000 in
set_option maxRecDepth 100000 in
/-- scan.item of digits that are not all noughts. -/
theorem item_any (l : List UInt8) (z1 z2 : Nat) (k : Int) (s0 : ByteArray) (w : World) (h0 : s0 = ⟨(List.replicate z1 48 ++ (l ++ List.replicate z2 48)).toArray⟩) (hd : ∀ b ∈ l, isD b) (hne : l ≠ []) (hf : l[0]? ≠ some 48) (hl : l.reverse[0]? ≠ some 48) (hs : l.length ≤ 60) (hz : z1 ≤ 1000 ∧ z2 ≤ 300)
    (k1 : -600 ≤ k) (k2 : k ≤ 600) :
    Calls Tryz.prog 68 #[.string s0, .int .i64 k] w fun r w' => ∃ A c, r = .returned (itm (.slice A (lw (dval l)) c) (k + z2)) ∧ Num w' (.slice A (lw (dval l)) c) (dval l) ∧ Below w.heap.size w w' := by
  obtain ⟨s1, h1⟩ : ∃ s1 : ByteArray, s1 = ⟨(l ++ List.replicate z2 48).toArray⟩ := ⟨_, rfl⟩
  obtain ⟨s2, h2⟩ : ∃ s2 : ByteArray, s2 = ⟨l.toArray⟩ := ⟨_, rfl⟩
  have hlp : 0 < l.length := List.length_pos_iff.2 hne
  have hf1 : (l ++ List.replicate z2 48)[0]? ≠ some 48 := by rw [List.getElem?_append_left hlp]; exact hf
  have hs1 : s1.size = l.length + z2 := by rw [h1, bytes_size, List.length_append, List.length_replicate]
  have hs2 : s2.size = l.length := by rw [h2, bytes_size]
  have Tl := Lib.hid fun W => tl_any _ z1 s0 s1 W h0 h1 hf1
  have Tr := Lib.hid fun W => tr_any _ z2 s1 s2 W h1 h2 hl (by omega)
  have e2 : s2.data.toList = l := by rw [h2]
  have Np := Lib.hid fun W => nparse_any s2 W (by rw [e2]; exact hd) (by rw [e2]; exact hne) (by rw [e2]; exact hf) (by omega)
  rw [e2] at Np
  have hemp : s2.toList.isEmpty = false := by
    rw [← decide_eq_emptyBytes]
    exact decide_eq_false (fun h => by rw [h] at hs2; simp at hs2; omega)
  obtain ⟨N, hN⟩ : ∃ N, N = l.length := ⟨_, rfl⟩
  obtain ⟨N1, hN1⟩ : ∃ N1, N1 = N + z2 := ⟨_, rfl⟩
  obtain ⟨D, hD⟩ : ∃ D, D = dval l := ⟨_, rfl⟩
  obtain ⟨K, hK⟩ : ∃ K : Int, K = k + z2 := ⟨_, rfl⟩
  obtain ⟨T, hT⟩ : ∃ T : Int, T = N + K - 1 := ⟨_, rfl⟩
  rw [← hN] at hs1 hs2
  rw [← hN1] at hs1
  rw [← hD] at Np ⊢
  rw [← hK]
  have e19 : IntKind.i64.wrap ((N1 : Int) - (N : Int)) = (z2 : Int) := by rw [IntKind.wrap_i64]; omega
  have e20 : IntKind.i64.wrap (k + (z2 : Int)) = K := by rw [IntKind.wrap_i64]; omega
  have e24 : IntKind.i64.wrap ((N : Int) + K) = (N : Int) + K := by rw [IntKind.wrap_i64]; omega
  have e25 : IntKind.i64.wrap ((N : Int) + K - 1) = T := by rw [IntKind.wrap_i64]; omega
  have t32 : decide ((1000 : Int) ≤ T) = false := decide_eq_false (by omega)
  have t37 : decide (T < (-1000 : Int)) = false := decide_eq_false (by omega)
  have t42 : decide ((1990 : Int) < (N : Int)) = false := decide_eq_false (by omega)
  have t43 : decide (1990 < N) = false := decide_eq_false (by omega)
  obtain ⟨wz, hwz, hz0, hz1, hzb⟩ := two_blks w 83 83 #[.int .i64 0, .bool false, .slice none 0 0, .int .i64 0, .int .i64 0, .bool false] #[.int .i64 1, .bool false, .slice none 0 0, .int .i64 0, .int .i64 0, .bool false]
  have HZ0 := Lib.hid hz0
  have HZ1 := Lib.hid hz1
  have HZB := Lib.hid hzb
  have HHK := Lib.hid hK
  clear hz0 hz1 hzb h0 h1 h2 hf1 hd hne hf hl e2 hlp hN hN1 hD hK hT hs hz k1 k2
  go_enter Tryz.func68, Tryz.ntmps68
  go_upto_region 2 with (fail)
  rw [← hwz]
  clear hwz
  go_wp2_with fail
  ((with_reducible refine (Tl.out _).mono ?_); rintro r w1 ⟨rfl, rfl⟩)
  go_wp2_with fail
  ((with_reducible refine (Tr.out _).mono ?_); rintro r w2 ⟨rfl, rfl⟩)
  go_wp2_with fail
  ((with_reducible refine (Np.out _).mono ?_); rintro r w3 ⟨v, rfl, nD, g3⟩)
  have nDc := nD
  obtain ⟨A, c, rfl, _, _, _⟩ := nDc
  have HZ03 := Lib.hid (Blk.below HZ0.out g3 HZ0.out.lt)
  have hz13 := Blk.below HZ1.out g3 HZ1.out.lt
  have HB3 := Lib.hid (HZB.out.trans (g3.mono HZB.out.size))
  have HND := Lib.hid nD
  obtain ⟨z0, z1', z2', z3, z4, z5⟩ := rest6 hz13
  have q1 : ∀ o, w3.frozen? ⟨w.heap.size + 1, o, none⟩ = false := fun o => Blk.frozen hz13 o
  have q2 : ∀ o, (w3.setCell ⟨w.heap.size + 1, 2, none⟩ (.slice A (lw D) c)).frozen? ⟨w.heap.size + 1, o, none⟩ = false := fun o => Blk.frozen (hz13.set_ 2 _) o
  have z3b : (w3.setCell ⟨w.heap.size + 1, 2, none⟩ (.slice A (lw D) c)).cell? ⟨w.heap.size + 1, 3, none⟩ = some (.int .i64 0) := by
    have a := Blk.cell (hz13.set_ 2 (.slice A (lw D) c)) 3
    simpa using a
  obtain ⟨wa, hwa⟩ : ∃ wa, wa = (w3.setCell ⟨w.heap.size + 1, 2, none⟩ (.slice A (lw D) c)).setCell ⟨w.heap.size + 1, 3, none⟩ (.int .i64 K) := ⟨_, rfl⟩
  have hka : Blk wa (w.heap.size + 1) 83 #[.int .i64 1, .bool false, .slice A (lw D) c, .int .i64 K, .int .i64 0, .bool false] := by
    have a := (hz13.set_ 2 (.slice A (lw D) c)).set_ 3 (.int .i64 K)
    rw [← hwa] at a
    simpa using a
  have hoff : Off (w.heap.size + 1) w3 wa := by rw [hwa]; exact ((Off.refl _ w3).set_ 2 _).set_ 3 _
  have hba : Below w.heap.size w wa := by rw [hwa]; exact (HB3.out.setCell (by show w.heap.size ≤ w.heap.size + 1; omega) _).setCell (by show w.heap.size ≤ w.heap.size + 1; omega) _
  have hna := HND.out.off hz13 (by simp [noU]) hoff
  have hz0a : Blk wa w.heap.size 83 #[.int .i64 0, .bool false, .slice none 0 0, .int .i64 0, .int .i64 0, .bool false] := (hoff.block w.heap.size (by omega)).trans HZ03.out
  have HKA := Lib.hid hka
  have HBA := Lib.hid hba
  have HNA := Lib.hid hna
  have HZ0A := Lib.hid hz0a
  clear g3 nD hz13 hoff hba hna hz0a hka HZ0 HZ1 HZB HZ03 HB3 HND Tl Tr Np
  go_upto_region 20 with (fail)
  rw [← hwa]
  clear hwa z0 z1' z2' z3 z4 z5 q1 q2 z3b
  obtain ⟨j0, j1, j2, j3, j4, j5⟩ := rest6 HKA.out
  obtain ⟨y0, y1, y2, y3, y4, y5⟩ := rest6 HZ0A.out
  have q0 : ∀ o, wa.frozen? ⟨w.heap.size, o, none⟩ = false := fun o => Blk.frozen HZ0A.out o
  go_wp2_with fail
  obtain ⟨w8, hw8, hk8, hb8, ho8⟩ := stored6 HZ0A.out (Nat.le_refl _) HBA.out (.int .i64 1) (.bool false) (.slice A (lw D) c) (.int .i64 K) (.int .i64 0) (.bool false)
  have hn8 := HNA.out.off HZ0A.out (by simp [noU]) ho8
  obtain ⟨r0, r1, r2, r3, r4, r5⟩ := rest6 hk8
  rw [hw8]
  exact bodyPost_ret (v := .agg #[.int .i64 1, .bool false, .slice A (lw D) c, .int .i64 K, .int .i64 0, .bool false]) (by simp [results, Tryz.results68, go_sem, r0, r1, r2, r3, r4, r5]) rfl ⟨A, c, rfl, hn8, hb8⟩

set_option maxHeartbeats 3200000 in
set_option maxRecDepth 100000 in
/-- scan.item of noughts. -/
theorem item_zero (z : Nat) (s0 : ByteArray) (w : World) (h0 : s0 = ⟨(List.replicate z 48).toArray⟩) :
    Calls Tryz.prog 68 #[.string s0, .int .i64 0] w fun r w' => r = .returned (itm (.slice none 0 0) 0) ∧ Below w.heap.size w w' := by
  obtain ⟨s1, h1⟩ : ∃ s1 : ByteArray, s1 = ⟨([] : List UInt8).toArray⟩ := ⟨_, rfl⟩
  have hs1 : s1.size = 0 := by rw [h1]; rfl
  have Tl := Lib.hid fun W => tl_any [] z s0 s1 W (by rw [h0, List.append_nil]) h1 (by simp)
  have Tr := Lib.hid fun W => tr_any [] 0 s1 s1 W (by rw [h1]; rfl) h1 (by simp) (by omega)
  have hemp : s1.toList.isEmpty = true := by
    rw [← decide_eq_emptyBytes]
    exact decide_eq_true (by rw [h1]; rfl)
  obtain ⟨wz, hwz, hz0, hz1, hzb⟩ := two_blks w 83 83 #[.int .i64 0, .bool false, .slice none 0 0, .int .i64 0, .int .i64 0, .bool false] #[.int .i64 1, .bool false, .slice none 0 0, .int .i64 0, .int .i64 0, .bool false]
  have HZ0 := Lib.hid hz0
  have HZ1 := Lib.hid hz1
  have HZB := Lib.hid hzb
  clear hz0 hz1 hzb h0 h1
  go_enter Tryz.func68, Tryz.ntmps68
  go_upto_region 2 with (fail)
  rw [← hwz]
  clear hwz
  go_wp2_with fail
  ((with_reducible refine (Tl.out _).mono ?_); rintro r w1 ⟨rfl, rfl⟩)
  obtain ⟨j0, j1, j2, j3, j4, j5⟩ := rest6 HZ1.out
  obtain ⟨y0, y1, y2, y3, y4, y5⟩ := rest6 HZ0.out
  have q0 : ∀ o, w1.frozen? ⟨w.heap.size, o, none⟩ = false := fun o => Blk.frozen HZ0.out o
  go_wp2_with fail
  ((with_reducible refine (Tr.out _).mono ?_); rintro r w2 ⟨rfl, rfl⟩)
  go_wp2_with fail
  obtain ⟨w8, hw8, hk8, hb8, ho8⟩ := stored6 HZ0.out (Nat.le_refl _) HZB.out (.int .i64 1) (.bool false) (.slice none 0 0) (.int .i64 0) (.int .i64 0) (.bool false)
  obtain ⟨r0, r1, r2, r3, r4, r5⟩ := rest6 hk8
  rw [hw8]
  exact bodyPost_ret (v := .agg #[.int .i64 1, .bool false, .slice none 0 0, .int .i64 0, .int .i64 0, .bool false]) (by simp [results, Tryz.results68, go_sem, r0, r1, r2, r3, r4, r5]) rfl ⟨rfl, hb8⟩
end Go.Proofs.YtnlpkehllihllaaGreatDoor
