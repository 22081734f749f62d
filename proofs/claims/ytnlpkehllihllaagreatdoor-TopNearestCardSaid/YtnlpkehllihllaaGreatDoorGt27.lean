/-
  A part of the proofs that calipertop.TopBack, TopFloats and TopNearest return true for every input and leave it as it was: part 27 of 47.
-/
import Derived.Test.YtnlpkehllihllaaGreatDoorGt21
import Derived.Test.YtnlpkehllihllaaGreatDoorGt10
import Derived.ArgAppend
import Derived.Test.YtnlpkehllihllaaGreatDoorGt26
import Derived.Deep.RegionHeld3
/-
  The walks of layout.zeros and layout.joined.
-/
namespace Go.Proofs.YtnlpkehllihllaaGreatDoor
open Go.RowKit Go.Sort

set_option maxRecDepth 100000 in
theorem zeros_any (n : Nat) (w : World) (hn : n ≤ 10000) : Calls Tryz.prog 97 #[.int .i64 n] w fun r w' => r = .returned (S (List.replicate n 48)) ∧ Below w.heap.size w w' := by
  have Rp := Lib.hid fun W => Tryz.strings_Repeat ⟨#[48]⟩ n W (by omega) (by simp [ByteArray.size]; omega)
  rw [show (⟨#[48]⟩ : ByteArray).data.toList = [48] from rfl, repeatL_one] at Rp
  go_enter Tryz.func97, Tryz.ntmps97
  go_wp2_with fail
  ((with_reducible refine (Rp.out _).mono ?_); rintro r w1 ⟨rfl, g1⟩)
  have G := Lib.hid g1
  go_wp2_with fail
  go_ret
  exact ⟨rfl, G.out⟩

theorem addr_add (g j : Nat) : (⟨g, 0, none⟩ : Addr).add j = ⟨g, j, none⟩ := by
  unfold Addr.add
  split
  · next q => rw [q]
  · simp
/-- A block holds texts. -/
def SRow (w : World) (g : Nat) (xs : List (List UInt8)) : Prop := g < w.heap.size ∧ ∀ (j : Nat) x, xs[j]? = some x → w.cell? ⟨g, j, none⟩ = some (S x)
theorem sjoin_any (g : Nat) (xs : List (List UInt8)) (c : Nat) (w : World) (h : SRow w g xs) (hn : xs.length ≤ 10) (hc : xs.length ≤ c) (hl : xs.flatten.length ≤ 100000) :
    Calls Tryz.prog 52 #[.slice (some ⟨g, 0, none⟩) xs.length c, .string ⟨#[]⟩] w fun e w' => e = .returned (S xs.flatten) ∧ Below w.heap.size w w' := by
  have em : (xs.map fun l => (⟨l.toArray⟩ : ByteArray)).map (·.data.toList) = xs := by
    rw [List.map_map]
    refine (List.map_congr_left (g := id) fun l _ => ?_).trans (List.map_id xs)
    show (⟨l.toArray⟩ : ByteArray).data.toList = l
    simp
  have a := Tryz.strings_Join g 0 c (xs.map fun l => (⟨l.toArray⟩ : ByteArray)) ⟨#[]⟩ w (fun j x hx => by
    rw [List.getElem?_map] at hx
    obtain ⟨y, hy, rfl⟩ := Option.map_eq_some_iff.1 hx
    have := h.2 j y hy
    rwa [Nat.zero_add]) h.1 (by rw [List.length_map]; omega) (by rw [List.length_map]; exact hc) (by rw [em, show (⟨#[]⟩ : ByteArray).data.toList = [] from rfl, join_none]; omega)
  rw [em, List.length_map, show (⟨#[]⟩ : ByteArray).data.toList = [] from rfl, join_none] at a
  exact a

set_option maxRecDepth 100000 in
theorem joined_pos (g : Nat) (xs : List (List UInt8)) (c : Nat) (w : World) (h : SRow w g xs) (hn : xs.length ≤ 10) (hc : xs.length ≤ c) (hl : xs.flatten.length ≤ 100000) :
    Calls Tryz.prog 96 #[.bool false, .slice (some ⟨g, 0, none⟩) xs.length c] w fun e w' => e = .returned (S xs.flatten) ∧ Below w.heap.size w w' := by
  have Jn := Lib.hid (sjoin_any g xs c w h hn hc hl)
  obtain ⟨N, hN⟩ : ∃ N, N = xs.length := ⟨_, rfl⟩
  rw [← hN] at Jn ⊢
  clear hN h hn hc hl
  go_enter Tryz.func96, Tryz.ntmps96
  go_wp2_with fail
  ((with_reducible refine Jn.out.mono ?_); rintro r w1 ⟨rfl, g1⟩)
  have G := Lib.hid g1
  go_wp2_with fail
  go_ret
  exact ⟨rfl, G.out⟩

set_option maxHeartbeats 1600000 in
set_option maxRecDepth 100000 in
theorem joined_neg (g : Nat) (xs : List (List UInt8)) (c : Nat) (w : World) (h : SRow w g xs) (h1 : 1 ≤ xs.length) (hn : xs.length ≤ 9) (hl : xs.flatten.length ≤ 90000) :
    Calls Tryz.prog 96 #[.bool true, .slice (some ⟨g, 0, none⟩) xs.length c] w fun e w' => e = .returned (S (45 :: xs.flatten)) ∧ Below w.heap.size w w' := by
  obtain ⟨i0, hi, hz0, hz1, hz2⟩ := info_parts info9
  have hk : Blk (w.alloc (.cells #[S [45]] 9)) w.heap.size 9 #[S [45]] := Blk.new w _ _
  have hb : Below w.heap.size w (w.alloc (.cells #[S [45]] 9)) := (Below.refl _ _).alloc (Nat.le_refl _) _
  obtain ⟨w1, hw1⟩ : ∃ w1, w1 = w.alloc (.cells #[S [45]] 9) := ⟨_, rfl⟩
  rw [← hw1] at hk hb
  have hs1 : SRow w1 g xs := ⟨Nat.lt_of_lt_of_le h.1 hb.size, fun j x hx => (hb.cell (p := ⟨g, j, none⟩) h.1).trans (h.2 j x hx)⟩
  go_enter Tryz.func96, Tryz.ntmps96
  go_wp2_with (rw [show w.alloc (.cells #[.string ⟨#[45]⟩] 9) = w1 from hw1.symm]; at_builtin; refine wpList_append_grows _ rfl (.tmp 6) (.tmp 7) 101 rfl 9 i0 (.string ByteArray.empty) 1 16 Tryz.underlying101 hi hz0 hz1 hz2 rfl (by decide) (some ⟨w.heap.size, 0, none⟩) 1 1 [S [45]] rfl (fun q => by cases q) rfl ?c0 ⟨g, 0, none⟩ xs.length c (xs.map S) rfl ?c1 ?c2 ?c3 ?c4 ?c5 ?c6 ?_)
  case c0 =>
    rintro b q j u hj
    obtain rfl := Option.some.inj q
    rw [addr_add]
    match j, hj with
    | 0, hj => simp at hj; subst hj; exact Blk.cell hk 0
  case c1 => rw [List.length_map, Nat.mul_one]
  case c2 =>
    intro j u hj
    rw [List.getElem?_map] at hj
    obtain ⟨y, hy, rfl⟩ := Option.map_eq_some_iff.1 hj
    rw [addr_add]
    exact hs1.2 j y hy
  case c3 =>
    intro u hu
    obtain ⟨y, _, rfl⟩ := List.mem_map.1 hu
    rfl
  case c4 => omega
  case c5 => unfold maxLen; omega
  case c6 => omega
  intro v' w2 hown hgrow
  obtain ⟨hlen, hrow⟩ := hown
  rcases hrow with ⟨_, q⟩ | ⟨g', cap', cur, rfl, hg', hh, hcap, hmax, hsz, htk⟩
  · omega
  rw [← hw1] at hgrow
  have hb2 : Below w.heap.size w w2 := hb.grown hgrow hb.size (fun g q => by cases q)
  have hs2 : SRow w2 g' ([45] :: xs) := by
    refine ⟨(Array.getElem?_eq_some_iff.1 hh).1, fun j x hx => ?_⟩
    rw [cell_of_row w2 g' j cur 9 (0, 0) hh]
    have e : (S [45] :: xs.map S)[j]? = some (S x) := by
      rw [show S [45] :: xs.map S = ([45] :: xs).map S from rfl, List.getElem?_map, hx]; rfl
    have e2 : (cur.toList.take ((1 + xs.length) * 1))[j]? = some (S x) := by rw [htk]; exact e
    rw [List.getElem?_take] at e2
    split at e2
    · simpa using e2
    · cases e2
  have Jn := Lib.hid (sjoin_any g' ([45] :: xs) cap' w2 hs2 (by rw [List.length_cons]; omega) (by rw [List.length_cons]; omega) (by rw [List.flatten_cons, List.length_append]; show 1 + _ ≤ _; omega))
  have HB := Lib.hid hb2
  rw [show ([45] :: xs).length = 1 + xs.length by rw [List.length_cons]; omega] at Jn
  clear hs2 hb2 hgrow hlen hcap hmax hsz htk hh hk hb hw1 hs1
  go_wp2_with fail
  ((with_reducible refine Jn.out.mono ?_); rintro r w3 ⟨rfl, g3⟩)
  have G := Lib.hid (HB.out.trans (g3.mono HB.out.size))
  clear g3
  go_wp2_with fail
  go_ret
  exact ⟨rfl, G.out⟩
end Go.Proofs.YtnlpkehllihllaaGreatDoor

/-
  The walk of layout.Layout: whole numbers in full.
-/
namespace Go.Proofs.YtnlpkehllihllaaGreatDoor
open Go.RowKit Go.Sort

theorem joined_any (ng : Bool) (g : Nat) (xs : List (List UInt8)) (n : Nat) (w : World) (hx : xs.length = n) (h : SRow w g xs) (h1 : 1 ≤ xs.length) (hn : xs.length ≤ 9) (hl : xs.flatten.length ≤ 90000) :
    Calls Tryz.prog 96 #[.bool ng, .slice (some ⟨g, 0, none⟩) n n] w fun e w' => e = .returned (S ((if ng = true then [45] else []) ++ xs.flatten)) ∧ Below w.heap.size w w' := by
  subst hx
  cases ng
  · exact joined_pos g xs _ w h (by omega) (Nat.le_refl _) (by omega)
  · exact joined_neg g xs _ w h h1 hn hl
theorem alloc_then {w w' : World} {o : Obj} (g : Below (w.alloc o).heap.size (w.alloc o) w') : Below w.heap.size w w' := ((Below.refl _ _).alloc (Nat.le_refl _) o).trans (g.mono (by simp))
theorem srow_new (w : World) (t : TypeId) (xs : List (List UInt8)) : SRow (w.alloc (.cells (xs.map S).toArray t)) w.heap.size xs := by
  refine ⟨by simp, fun j x hx => ?_⟩
  rw [Blk.cell (Blk.new w t (xs.map S).toArray) j]
  simp [hx]

set_option maxHeartbeats 3200000 in
set_option maxRecDepth 100000 in
/-- layout.Layout: digits, and noughts behind them. -/
theorem lay_whole (ng : Bool) (A : Option Addr) (c D k : Nat) (w : World) (hN : Num w (.slice A (lw D) c) D) (hD : D % 10 ≠ 0) (hb : D < 10 ^ 22) (hp : (textL D).length + k ≤ 21) (hT : Tab w) :
    Calls Tryz.prog 62 #[.agg #[.bool ng, .slice A (lw D) c, .int .i64 k]] w fun r w' => r = .returned (S ((if ng = true then [45] else []) ++ (textL D ++ List.replicate k 48))) ∧ Below w.heap.size w w' := by
  have hD0 : D ≠ 0 := fun q => hD (by rw [q])
  have hl2 : lw D ≤ 2 := lw_le (k := 2) (Nat.lt_trans hb (by decide))
  have hl1 := lw_pos hD0
  obtain ⟨hk0, hb0⟩ := new3 w 49 (.bool ng) (.slice A (lw D) c) (.int .i64 k)
  obtain ⟨w0, hw0⟩ : ∃ w0, w0 = w.alloc (.cells #[.bool ng, .slice A (lw D) c, .int .i64 k] 49) := ⟨_, rfl⟩
  rw [← hw0] at hk0 hb0
  have HN0 := Lib.hid (hN.below hb0)
  have HT0 := Lib.hid (hT.below hb0 (Nat.le_refl _))
  have HB0 := Lib.hid hb0
  have HK0 := Lib.hid hk0
  have Ri := Lib.hid fun W (h : Num W (.slice A (lw D) c) D) (hT : Tab W) => lright_any ng A c D k W h hD hb (by omega) (by omega) hT
  have Te := Lib.hid fun W (h : Num W (.slice A (lw D) c) D) (hT : Tab W) => text_any _ D W h (by omega) hT
  have Ze := Lib.hid fun W => zeros_any k W (by omega)
  obtain ⟨s, hs⟩ : ∃ s : ByteArray, s = ⟨(textL D).toArray⟩ := ⟨_, rfl⟩
  rw [show S (textL D) = .string s by rw [hs]] at Te
  have hsl : s.size = (textL D).length := by rw [hs]; show (textL D).toArray.size = _; simp
  obtain ⟨z, hz⟩ : ∃ z : ByteArray, z = ⟨(List.replicate k 48).toArray⟩ := ⟨_, rfl⟩
  rw [show S (List.replicate k 48) = .string z by rw [hz]] at Ze
  obtain ⟨R, hR⟩ : ∃ R, R = (if ng = true then [45] else []) ++ (textL D ++ List.replicate k 48) := ⟨_, rfl⟩
  have Jn := Lib.hid fun (W : World) (t : TypeId) => show Calls Tryz.prog 96 #[.bool ng, .slice (some ⟨W.heap.size, 0, none⟩) 2 2] (W.alloc (.cells #[.string s, .string z] t)) fun e w' => e = .returned (S R) ∧ Below (W.alloc (.cells #[.string s, .string z] t)).heap.size (W.alloc (.cells #[.string s, .string z] t)) w' from by
    rw [hs, hz]
    have a := joined_any ng W.heap.size [textL D, List.replicate k 48] 2 (W.alloc (.cells #[S (textL D), S (List.replicate k 48)] t)) rfl (srow_new W t [textL D, List.replicate k 48]) (by simp) (by simp) (by simp; omega)
    rw [show [textL D, List.replicate k 48].flatten = textL D ++ List.replicate k 48 by simp, ← hR] at a
    exact a
  rw [← hR]
  obtain ⟨N, hNN⟩ : ∃ N, N = lw D := ⟨_, rfl⟩
  rw [← hNN] at HN0 Ri Te hk0 hw0 HK0 hl1 ⊢
  have t11 : ((N : Int) == 0) = false := by rw [beq_eq_false_iff_ne]; omega
  obtain ⟨p, hpp⟩ : ∃ p : Nat, p = s.size + k := ⟨_, rfl⟩
  have e23 : IntKind.i64.wrap ((s.size : Int) + (k : Int)) = (p : Int) := by rw [IntKind.wrap_i64]; omega
  have t38 : decide ((0 : Int) ≤ (k : Int)) = true := decide_eq_true (by omega)
  have t41 : decide ((p : Int) ≤ 21) = true := decide_eq_true (by omega)
  have t42 : decide (p ≤ 21) = true := decide_eq_true (by omega)
  clear hk0 hb0 hN hT hNN hsl hD hb hD0 hl1 hl2 hp hpp hs hz hR
  obtain ⟨x0, x1, x2⟩ := rest3 HK0.out
  go_enter Tryz.func62, Tryz.ntmps62
  go_upto_region 1 with (fail)
  rw [← hw0]
  clear hw0
  go_wp2_with fail
  ((with_reducible refine (Ri.out _ HN0.out HT0.out).mono ?_); rintro r w1 ⟨rfl, g1⟩)
  have HK1 := Lib.hid (Blk.below HK0.out g1 HK0.out.lt)
  have HN1 := Lib.hid (HN0.out.below g1)
  have HT1 := Lib.hid (HT0.out.below g1 (Nat.le_refl _))
  have HB1 := Lib.hid (HB0.out.trans (g1.mono HB0.out.size))
  clear g1 x0 x1 x2
  obtain ⟨x0, x1, x2⟩ := rest3 HK1.out
  go_wp2_with fail
  ((with_reducible refine (Te.out _ HN1.out HT1.out).mono ?_); rintro r w2 ⟨rfl, g2⟩)
  have HK2 := Lib.hid (Blk.below HK1.out g2 HK1.out.lt)
  have HB2 := Lib.hid (HB1.out.trans (g2.mono HB1.out.size))
  clear g2 x0 x1 x2
  obtain ⟨x0, x1, x2⟩ := rest3 HK2.out
  go_upto_region 9 with (fail)
  go_region_held3 (fun w' => w'.cell? ⟨w.heap.size, 0, none⟩ = some (.bool ng) ∧ w'.cell? ⟨w.heap.size, 2, none⟩ = some (.int .i64 k))
    (first
      | go_keep
      | (go_split_ands
         refine ⟨?_, ?_⟩ <;> (rw [gg.cell (World.block_lt_of_cell? _ _ (by assumption))]; assumption))
      | (go_split_ands
         refine ⟨?_, ?_⟩ <;> (exact (((Below.refl _ _).alloc (Nat.le_refl _) _).cell (World.block_lt_of_cell? _ _ (by assumption))).trans (by assumption))))
    ((first
      | (go_at_call 97; (with_reducible refine (Ze.out _).mono ?_); rintro r ws ⟨rfl, gg⟩; have ga := gg)
      | (go_at_call 96; (with_reducible refine (Jn.out _ _).mono ?_); rintro r ws ⟨rfl, gg⟩; have gb := gg)))
  have gc := ga.trans ((alloc_then gb).mono ga.size)
  have B := Lib.hid (HB2.out.trans ((show Below w2.heap.size w2 _ from ⟨gc.os, gc.tape, gc.output, gc.size, gc.block⟩).mono HB2.out.size))
  clear ga gb gc x0 x1 x2
  go_wp2_with fail
  go_ret
  exact ⟨rfl, B.out⟩
end Go.Proofs.YtnlpkehllihllaaGreatDoor

/-
  The walk of layout.Layout: numbers below 1.
-/
namespace Go.Proofs.YtnlpkehllihllaaGreatDoor
open Go.RowKit Go.Sort

set_option maxHeartbeats 3200000 in
set_option maxRecDepth 100000 in
/-- layout.Layout: digits behind a point, and noughts. -/
theorem lay_small (ng : Bool) (A : Option Addr) (c D m : Nat) (K : Int) (w : World) (hN : Num w (.slice A (lw D) c) D) (hD : D % 10 ≠ 0) (hb : D < 10 ^ 22) (hK : K = -(((textL D).length + m : Nat) : Int)) (hm : m ≤ 5) (hT : Tab w) :
    Calls Tryz.prog 62 #[.agg #[.bool ng, .slice A (lw D) c, .int .i64 K]] w fun r w' => r = .returned (S ((if ng = true then [45] else []) ++ ([48, 46] ++ (List.replicate m 48 ++ textL D)))) ∧ Below w.heap.size w w' := by
  have hD0 : D ≠ 0 := fun q => hD (by rw [q])
  have hl2 : lw D ≤ 2 := lw_le (k := 2) (Nat.lt_trans hb (by decide))
  have hl1 := lw_pos hD0
  obtain ⟨hk0, hb0⟩ := new3 w 49 (.bool ng) (.slice A (lw D) c) (.int .i64 K)
  obtain ⟨w0, hw0⟩ : ∃ w0, w0 = w.alloc (.cells #[.bool ng, .slice A (lw D) c, .int .i64 K] 49) := ⟨_, rfl⟩
  rw [← hw0] at hk0 hb0
  have HN0 := Lib.hid (hN.below hb0)
  have HT0 := Lib.hid (hT.below hb0 (Nat.le_refl _))
  have HB0 := Lib.hid hb0
  have HK0 := Lib.hid hk0
  have h22 : (textL D).length ≤ 22 := by
    obtain ⟨q1, q2⟩ := textL_len D hD0
    rcases Nat.lt_or_ge 22 (textL D).length with q | q
    · have : 10 ^ 22 ≤ 10 ^ ((textL D).length - 1) := Nat.pow_le_pow_right (by omega) (by omega)
      omega
    · exact q
  have h1' := (textL_len D hD0).1
  have Ri := Lib.hid fun W (h : Num W (.slice A (lw D) c) D) (hT : Tab W) => lright_any ng A c D K W h hD hb (by omega) (by omega) hT
  have Te := Lib.hid fun W (h : Num W (.slice A (lw D) c) D) (hT : Tab W) => text_any _ D W h (by omega) hT
  have Ze := Lib.hid fun W => zeros_any m W (by omega)
  obtain ⟨s, hs⟩ : ∃ s : ByteArray, s = ⟨(textL D).toArray⟩ := ⟨_, rfl⟩
  rw [show S (textL D) = .string s by rw [hs]] at Te
  have hsl : s.size = (textL D).length := by rw [hs]; show (textL D).toArray.size = _; simp
  obtain ⟨z, hz⟩ : ∃ z : ByteArray, z = ⟨(List.replicate m 48).toArray⟩ := ⟨_, rfl⟩
  rw [show S (List.replicate m 48) = .string z by rw [hz]] at Ze
  obtain ⟨R, hR⟩ : ∃ R, R = (if ng = true then [45] else []) ++ ([48, 46] ++ (List.replicate m 48 ++ textL D)) := ⟨_, rfl⟩
  have Jn := Lib.hid fun (W : World) (t : TypeId) => show Calls Tryz.prog 96 #[.bool ng, .slice (some ⟨W.heap.size, 0, none⟩) 3 3] (W.alloc (.cells #[.string ⟨#[48, 46]⟩, .string z, .string s] t)) fun e w' => e = .returned (S R) ∧ Below (W.alloc (.cells #[.string ⟨#[48, 46]⟩, .string z, .string s] t)).heap.size (W.alloc (.cells #[.string ⟨#[48, 46]⟩, .string z, .string s] t)) w' from by
    rw [hs, hz]
    have a := joined_any ng W.heap.size [[48, 46], List.replicate m 48, textL D] 3 (W.alloc (.cells #[S [48, 46], S (List.replicate m 48), S (textL D)] t)) rfl (srow_new W t [[48, 46], List.replicate m 48, textL D]) (by simp) (by simp) (by simp; omega)
    rw [show [[48, 46], List.replicate m 48, textL D].flatten = [48, 46] ++ (List.replicate m 48 ++ textL D) by simp, ← hR] at a
    exact a
  rw [← hR]
  obtain ⟨N, hNN⟩ : ∃ N, N = lw D := ⟨_, rfl⟩
  rw [← hNN] at HN0 Ri Te hk0 hw0 HK0 hl1 ⊢
  have t11 : ((N : Int) == 0) = false := by rw [beq_eq_false_iff_ne]; omega
  obtain ⟨P, hpp⟩ : ∃ P : Int, P = -(m : Int) := ⟨_, rfl⟩
  have e23 : IntKind.i64.wrap ((s.size : Int) + K) = P := by rw [IntKind.wrap_i64]; omega
  have e78 : IntKind.i64.wrap (-P) = (m : Int) := by rw [IntKind.wrap_i64]; omega
  have t38 : decide ((0 : Int) ≤ K) = false := decide_eq_false (by omega)
  have t53 : decide ((0 : Int) < P) = false := decide_eq_false (by omega)
  have t70 : decide ((-6 : Int) < P) = true := decide_eq_true (by omega)
  have t73 : decide (P ≤ (0 : Int)) = true := decide_eq_true (by omega)
  clear hk0 hb0 hN hT hNN hsl hD hb hD0 hl1 hl2 hK hm hpp hs hz hR h22 h1'
  obtain ⟨x0, x1, x2⟩ := rest3 HK0.out
  go_enter Tryz.func62, Tryz.ntmps62
  go_upto_region 1 with (fail)
  rw [← hw0]
  clear hw0
  go_wp2_with fail
  ((with_reducible refine (Ri.out _ HN0.out HT0.out).mono ?_); rintro r w1 ⟨rfl, g1⟩)
  have HK1 := Lib.hid (Blk.below HK0.out g1 HK0.out.lt)
  have HN1 := Lib.hid (HN0.out.below g1)
  have HT1 := Lib.hid (HT0.out.below g1 (Nat.le_refl _))
  have HB1 := Lib.hid (HB0.out.trans (g1.mono HB0.out.size))
  clear g1 x0 x1 x2
  obtain ⟨x0, x1, x2⟩ := rest3 HK1.out
  go_wp2_with fail
  ((with_reducible refine (Te.out _ HN1.out HT1.out).mono ?_); rintro r w2 ⟨rfl, g2⟩)
  have HK2 := Lib.hid (Blk.below HK1.out g2 HK1.out.lt)
  have HB2 := Lib.hid (HB1.out.trans (g2.mono HB1.out.size))
  clear g2 x0 x1 x2
  obtain ⟨x0, x1, x2⟩ := rest3 HK2.out
  go_upto_region 13 with (fail)
  go_region_held3 (fun w' => w'.cell? ⟨w.heap.size, 0, none⟩ = some (.bool ng) ∧ w'.cell? ⟨w.heap.size, 2, none⟩ = some (.int .i64 K))
    (first
      | go_keep
      | (go_split_ands
         refine ⟨?_, ?_⟩ <;> (rw [gg.cell (World.block_lt_of_cell? _ _ (by assumption))]; assumption))
      | (go_split_ands
         refine ⟨?_, ?_⟩ <;> (exact (((Below.refl _ _).alloc (Nat.le_refl _) _).cell (World.block_lt_of_cell? _ _ (by assumption))).trans (by assumption))))
    ((first
      | (go_at_call 97; (with_reducible refine (Ze.out _).mono ?_); rintro r ws ⟨rfl, gg⟩; have ga := gg)
      | (go_at_call 96; (with_reducible refine (Jn.out _ _).mono ?_); rintro r ws ⟨rfl, gg⟩; have gb := gg)))
  have gc := ga.trans ((alloc_then gb).mono ga.size)
  have B := Lib.hid (HB2.out.trans ((show Below w2.heap.size w2 _ from ⟨gc.os, gc.tape, gc.output, gc.size, gc.block⟩).mono HB2.out.size))
  clear ga gb gc x0 x1 x2
  go_wp2_with fail
  go_ret
  exact ⟨rfl, B.out⟩
end Go.Proofs.YtnlpkehllihllaaGreatDoor

/-
  The walk of layout.Layout: a point among the digits.
-/
namespace Go.Proofs.YtnlpkehllihllaaGreatDoor
open Go.RowKit Go.Sort

set_option maxHeartbeats 3200000 in
set_option maxRecDepth 100000 in
/-- layout.Layout: a point among the digits. -/
theorem lay_point (ng : Bool) (A : Option Addr) (c D p : Nat) (K : Int) (w : World) (hN : Num w (.slice A (lw D) c) D) (hD : D % 10 ≠ 0) (hb : D < 10 ^ 22) (hK : K = (p : Int) - (textL D).length) (hm : 0 < p ∧ p ≤ 21 ∧ p < (textL D).length) (hT : Tab w) :
    Calls Tryz.prog 62 #[.agg #[.bool ng, .slice A (lw D) c, .int .i64 K]] w fun r w' => r = .returned (S ((if ng = true then [45] else []) ++ ((textL D).take p ++ ([46] ++ (textL D).drop p)))) ∧ Below w.heap.size w w' := by
  have hD0 : D ≠ 0 := fun q => hD (by rw [q])
  have hl2 : lw D ≤ 2 := lw_le (k := 2) (Nat.lt_trans hb (by decide))
  have hl1 := lw_pos hD0
  obtain ⟨hk0, hb0⟩ := new3 w 49 (.bool ng) (.slice A (lw D) c) (.int .i64 K)
  obtain ⟨w0, hw0⟩ : ∃ w0, w0 = w.alloc (.cells #[.bool ng, .slice A (lw D) c, .int .i64 K] 49) := ⟨_, rfl⟩
  rw [← hw0] at hk0 hb0
  have HN0 := Lib.hid (hN.below hb0)
  have HT0 := Lib.hid (hT.below hb0 (Nat.le_refl _))
  have HB0 := Lib.hid hb0
  have HK0 := Lib.hid hk0
  have h22 : (textL D).length ≤ 22 := by
    obtain ⟨q1, q2⟩ := textL_len D hD0
    rcases Nat.lt_or_ge 22 (textL D).length with q | q
    · have : 10 ^ 22 ≤ 10 ^ ((textL D).length - 1) := Nat.pow_le_pow_right (by omega) (by omega)
      omega
    · exact q
  have h1' := (textL_len D hD0).1
  have Ri := Lib.hid fun W (h : Num W (.slice A (lw D) c) D) (hT : Tab W) => lright_any ng A c D K W h hD hb (by omega) (by omega) hT
  have Te := Lib.hid fun W (h : Num W (.slice A (lw D) c) D) (hT : Tab W) => text_any _ D W h (by omega) hT
  obtain ⟨s, hs⟩ : ∃ s : ByteArray, s = ⟨(textL D).toArray⟩ := ⟨_, rfl⟩
  rw [show S (textL D) = .string s by rw [hs]] at Te
  have hsl : s.size = (textL D).length := by rw [hs]; show (textL D).toArray.size = _; simp
  obtain ⟨sa, hsa⟩ : ∃ sa : ByteArray, sa = ⟨((textL D).take p).toArray⟩ := ⟨_, rfl⟩
  obtain ⟨sb, hsb⟩ : ∃ sb : ByteArray, sb = ⟨((textL D).drop p).toArray⟩ := ⟨_, rfl⟩
  have es : s.data.toList = textL D := by rw [hs]
  have ca : s.extract 0 p = sa := by
    rw [hsa]
    refine extract_of (q := (textL D).drop p) ?_ ?_
    · rw [List.drop_zero, es, List.take_append_drop]
    · rw [List.length_take]; omega
  have cb : s.extract p s.size = sb := by
    rw [hsb]
    refine extract_of (q := []) ?_ ?_
    · rw [es, List.append_nil]
    · rw [List.length_drop]; omega
  obtain ⟨R, hR⟩ : ∃ R, R = (if ng = true then [45] else []) ++ ((textL D).take p ++ ([46] ++ (textL D).drop p)) := ⟨_, rfl⟩
  have Jn := Lib.hid fun (W : World) (t : TypeId) => show Calls Tryz.prog 96 #[.bool ng, .slice (some ⟨W.heap.size, 0, none⟩) 3 3] (W.alloc (.cells #[.string sa, .string ⟨#[46]⟩, .string sb] t)).drew fun e w' => e = .returned (S R) ∧ Below (W.alloc (.cells #[.string sa, .string ⟨#[46]⟩, .string sb] t)).drew.heap.size (W.alloc (.cells #[.string sa, .string ⟨#[46]⟩, .string sb] t)).drew w' from by
    rw [hsa, hsb]
    have a := joined_any ng W.heap.size [(textL D).take p, [46], (textL D).drop p] 3 (W.alloc (.cells #[S ((textL D).take p), S [46], S ((textL D).drop p)] t)).drew rfl (show SRow (W.alloc _).drew _ _ from srow_new W t [(textL D).take p, [46], (textL D).drop p]) (by simp) (by simp) (by simp; omega)
    rw [show [(textL D).take p, [46], (textL D).drop p].flatten = (textL D).take p ++ ([46] ++ (textL D).drop p) by simp, ← hR] at a
    exact a
  rw [← hR]
  obtain ⟨N, hNN⟩ : ∃ N, N = lw D := ⟨_, rfl⟩
  rw [← hNN] at HN0 Ri Te hk0 hw0 HK0 hl1 ⊢
  have t11 : ((N : Int) == 0) = false := by rw [beq_eq_false_iff_ne]; omega
  have e23 : IntKind.i64.wrap ((s.size : Int) + K) = (p : Int) := by rw [IntKind.wrap_i64]; omega
  have t38 : decide ((0 : Int) ≤ K) = false := decide_eq_false (by omega)
  have t53 : decide ((0 : Int) < (p : Int)) = true := decide_eq_true (by omega)
  have t54 : decide (0 < p) = true := decide_eq_true (by omega)
  have t56 : decide ((p : Int) ≤ (21 : Int)) = true := decide_eq_true (by omega)
  have t57 : decide (p ≤ 21) = true := decide_eq_true (by omega)
  have c62 : (p : Int) ≤ (s.size : Int) := by omega
  have c63 : (0 : Int) ≤ (p : Int) := by omega
  clear hk0 hb0 hN hT hNN hsl hD hb hD0 hl1 hl2 hK hm hs hsa hsb es hR h22 h1'
  obtain ⟨x0, x1, x2⟩ := rest3 HK0.out
  go_enter Tryz.func62, Tryz.ntmps62
  go_upto_region 1 with (fail)
  rw [← hw0]
  clear hw0
  go_wp2_with fail
  ((with_reducible refine (Ri.out _ HN0.out HT0.out).mono ?_); rintro r w1 ⟨rfl, g1⟩)
  have HK1 := Lib.hid (Blk.below HK0.out g1 HK0.out.lt)
  have HN1 := Lib.hid (HN0.out.below g1)
  have HT1 := Lib.hid (HT0.out.below g1 (Nat.le_refl _))
  have HB1 := Lib.hid (HB0.out.trans (g1.mono HB0.out.size))
  clear g1 x0 x1 x2
  obtain ⟨x0, x1, x2⟩ := rest3 HK1.out
  go_wp2_with fail
  ((with_reducible refine (Te.out _ HN1.out HT1.out).mono ?_); rintro r w2 ⟨rfl, g2⟩)
  have HK2 := Lib.hid (Blk.below HK1.out g2 HK1.out.lt)
  have HB2 := Lib.hid (HB1.out.trans (g2.mono HB1.out.size))
  clear g2 x0 x1 x2
  obtain ⟨x0, x1, x2⟩ := rest3 HK2.out
  go_upto_region 11 with (fail)
  go_region_held3 (fun w' => w'.cell? ⟨w.heap.size, 0, none⟩ = some (.bool ng) ∧ w'.cell? ⟨w.heap.size, 2, none⟩ = some (.int .i64 K))
    (first
      | go_keep
      | (go_split_ands
         refine ⟨?_, ?_⟩ <;> (rw [gg.cell (World.block_lt_of_cell? _ _ (by assumption))]; assumption))
      | (go_split_ands
         refine ⟨?_, ?_⟩ <;> (exact (((Below.refl _ _).alloc (Nat.le_refl _) _).cell (World.block_lt_of_cell? _ _ (by assumption))).trans (by assumption))))
    ((first
      | (go_at_call 96; (with_reducible refine (Jn.out _ _).mono ?_); rintro r ws ⟨rfl, gg⟩; have gb := gg)))
  have gc := alloc_then (below_of_drew gb)
  have B := Lib.hid (HB2.out.trans ((show Below w2.heap.size w2 _ from ⟨gc.os, gc.tape, gc.output, gc.size, gc.block⟩).mono HB2.out.size))
  clear gb gc x0 x1 x2
  go_wp2_with fail
  go_ret
  exact ⟨rfl, B.out⟩
end Go.Proofs.YtnlpkehllihllaaGreatDoor

/-
  The walk of layout.Layout: one digit and a power.
-/
namespace Go.Proofs.YtnlpkehllihllaaGreatDoor
open Go.RowKit Go.Sort

theorem below_grows (w : World) (k : Nat) (os : Array Obj) : Below w.heap.size w (grow (w.drewN k) os) :=
  ⟨rfl, rfl, rfl, by show w.heap.size ≤ (w.heap ++ os).size; simp, fun g hg => by show (w.heap ++ os)[g]? = _; rw [Array.getElem?_append_left hg]⟩
theorem Tab.drew {w : World} (h : Tab w) : Tab w.drew := h
theorem itoa_any (n : Int) (w : World) (h1 : -1000 ≤ n) (h2 : n ≤ 1000) (hT : Tab w) : Calls Tryz.prog 98 #[.int .i64 n] w fun e w' => e = .returned (S (Lib.itoa n)) ∧ Below w.heap.size w w' := by
  refine (Tryz.strconv_Itoa n (by omega) (by omega) w hT).mono ?_
  rintro e w' ⟨rfl, k, os, rfl⟩
  exact ⟨rfl, below_grows w k os⟩
theorem dec_len {x : Nat} (h : x ≤ 1000) : (Lib.decDigits x).length ≤ 19 := (decDigits_le (by omega)).2
theorem itoa_len (n : Int) (h1 : -1000 ≤ n) (h2 : n ≤ 1000) : (Lib.itoa n).length ≤ 20 := by
  unfold Lib.itoa
  split
  · have := dec_len (x := n.natAbs) (by omega)
    rw [List.length_cons]; omega
  · have := dec_len (x := n.toNat) (by omega)
    omega

set_option maxHeartbeats 3200000 in
set_option maxRecDepth 100000 in
/-- layout.Layout: one digit and a power. -/
theorem lay_one (ng : Bool) (A : Option Addr) (c D : Nat) (K : Int) (w : World) (hN : Num w (.slice A (lw D) c) D) (hD : D % 10 ≠ 0) (hb : D < 10 ^ 22) (hK : (textL D).length = 1) (hm : -600 ≤ K ∧ K ≤ 900 ∧ (20 < K ∨ K ≤ -7)) (hT : Tab w) :
    Calls Tryz.prog 62 #[.agg #[.bool ng, .slice A (lw D) c, .int .i64 K]] w fun r w' => r = .returned (S ((if ng = true then [45] else []) ++ (textL D ++ ([101] ++ Lib.itoa K)))) ∧ Below w.heap.size w w' := by
  have hD0 : D ≠ 0 := fun q => hD (by rw [q])
  have hl2 : lw D ≤ 2 := lw_le (k := 2) (Nat.lt_trans hb (by decide))
  have hl1 := lw_pos hD0
  obtain ⟨hk0, hb0⟩ := new3 w 49 (.bool ng) (.slice A (lw D) c) (.int .i64 K)
  obtain ⟨w0, hw0⟩ : ∃ w0, w0 = w.alloc (.cells #[.bool ng, .slice A (lw D) c, .int .i64 K] 49) := ⟨_, rfl⟩
  rw [← hw0] at hk0 hb0
  have HN0 := Lib.hid (hN.below hb0)
  have HT0 := Lib.hid (hT.below hb0 (Nat.le_refl _))
  have HB0 := Lib.hid hb0
  have HK0 := Lib.hid hk0
  have h22 : (textL D).length ≤ 22 := by
    obtain ⟨q1, q2⟩ := textL_len D hD0
    rcases Nat.lt_or_ge 22 (textL D).length with q | q
    · have : 10 ^ 22 ≤ 10 ^ ((textL D).length - 1) := Nat.pow_le_pow_right (by omega) (by omega)
      omega
    · exact q
  have h1' := (textL_len D hD0).1
  have Ri := Lib.hid fun W (h : Num W (.slice A (lw D) c) D) (hT : Tab W) => lright_any ng A c D K W h hD hb (by omega) (by omega) hT
  have Te := Lib.hid fun W (h : Num W (.slice A (lw D) c) D) (hT : Tab W) => text_any _ D W h (by omega) hT
  have Ze := Lib.hid fun W (hT : Tab W) => itoa_any K W (by omega) (by omega) hT
  obtain ⟨s, hs⟩ : ∃ s : ByteArray, s = ⟨(textL D).toArray⟩ := ⟨_, rfl⟩
  rw [show S (textL D) = .string s by rw [hs]] at Te
  have hsl : s.size = (textL D).length := by rw [hs]; show (textL D).toArray.size = _; simp
  obtain ⟨z, hz⟩ : ∃ z : ByteArray, z = ⟨(Lib.itoa K).toArray⟩ := ⟨_, rfl⟩
  rw [show S (Lib.itoa K) = .string z by rw [hz]] at Ze
  obtain ⟨R, hR⟩ : ∃ R, R = (if ng = true then [45] else []) ++ (textL D ++ ([101] ++ Lib.itoa K)) := ⟨_, rfl⟩
  have Jn := Lib.hid fun (W : World) (t : TypeId) => show Calls Tryz.prog 96 #[.bool ng, .slice (some ⟨W.heap.size, 0, none⟩) 3 3] (W.alloc (.cells #[.string s, .string ⟨#[101]⟩, .string z] t)) fun e w' => e = .returned (S R) ∧ Below (W.alloc (.cells #[.string s, .string ⟨#[101]⟩, .string z] t)).heap.size (W.alloc (.cells #[.string s, .string ⟨#[101]⟩, .string z] t)) w' from by
    rw [hs, hz]
    have a := joined_any ng W.heap.size [textL D, [101], Lib.itoa K] 3 (W.alloc (.cells #[S (textL D), S [101], S (Lib.itoa K)] t)) rfl (srow_new W t [textL D, [101], Lib.itoa K]) (by simp) (by simp) (by have := itoa_len K (by omega) (by omega); simp; omega)
    rw [show [textL D, [101], Lib.itoa K].flatten = textL D ++ ([101] ++ Lib.itoa K) by simp, ← hR] at a
    exact a
  rw [← hR]
  obtain ⟨N, hNN⟩ : ∃ N, N = lw D := ⟨_, rfl⟩
  rw [← hNN] at HN0 Ri Te hk0 hw0 HK0 hl1 ⊢
  have t11 : ((N : Int) == 0) = false := by rw [beq_eq_false_iff_ne]; omega
  obtain ⟨P, hpp⟩ : ∃ P : Int, P = K + 1 := ⟨_, rfl⟩
  have e23 : IntKind.i64.wrap ((s.size : Int) + K) = P := by rw [IntKind.wrap_i64]; omega
  have e78 : IntKind.i64.wrap (P - 1) = K := by rw [IntKind.wrap_i64]; omega
  have t41 : decide (P ≤ (21 : Int)) = decide (K ≤ -7) := decide_eq_decide.2 ⟨fun q => by omega, fun q => by omega⟩
  have t38 : decide ((0 : Int) ≤ K) = decide (20 < K) := decide_eq_decide.2 ⟨fun q => by omega, fun q => by omega⟩
  have t53 : decide ((0 : Int) < P) = decide (20 < K) := decide_eq_decide.2 ⟨fun q => by omega, fun q => by omega⟩
  have t70 : decide ((-6 : Int) < P) = decide (20 < K) := decide_eq_decide.2 ⟨fun q => by omega, fun q => by omega⟩
  have t73 : decide (P ≤ (0 : Int)) = decide (K ≤ -7) := decide_eq_decide.2 ⟨fun q => by omega, fun q => by omega⟩
  have t86 : ((s.size : Int) == 1) = true := by rw [beq_iff_eq]; omega
  have hsd : (decide (20 < K) = true ∧ decide (K ≤ -7) = false) ∨ (decide (20 < K) = false ∧ decide (K ≤ -7) = true) := by
    rcases hm.2.2 with q | q
    · exact .inl ⟨decide_eq_true q, decide_eq_false (by omega)⟩
    · exact .inr ⟨decide_eq_false (by omega), decide_eq_true q⟩
  clear hk0 hb0 hN hT hNN hsl hD hb hD0 hl1 hl2 hK hm hpp hs hz hR h22 h1'
  rcases hsd with ⟨u1, u2⟩ | ⟨u1, u2⟩
  all_goals
    rw [u1] at t38 t53 t70
    rw [u2] at t41 t73
    clear u1 u2
    obtain ⟨x0, x1, x2⟩ := rest3 HK0.out
    go_enter Tryz.func62, Tryz.ntmps62
    go_upto_region 1 with (fail)
    rw [← hw0]
    clear hw0
    go_wp2_with fail
    ((with_reducible refine (Ri.out _ HN0.out HT0.out).mono ?_); rintro r w1 ⟨rfl, g1⟩)
    have HK1 := Lib.hid (Blk.below HK0.out g1 HK0.out.lt)
    have HN1 := Lib.hid (HN0.out.below g1)
    have HT1 := Lib.hid (HT0.out.below g1 (Nat.le_refl _))
    have HB1 := Lib.hid (HB0.out.trans (g1.mono HB0.out.size))
    clear g1 x0 x1 x2
    obtain ⟨x0, x1, x2⟩ := rest3 HK1.out
    go_wp2_with fail
    ((with_reducible refine (Te.out _ HN1.out HT1.out).mono ?_); rintro r w2 ⟨rfl, g2⟩)
    have HK2 := Lib.hid (Blk.below HK1.out g2 HK1.out.lt)
    have HT2 := Lib.hid (HT1.out.below g2 (Nat.le_refl _))
    have HB2 := Lib.hid (HB1.out.trans (g2.mono HB1.out.size))
    clear g2 x0 x1 x2
    obtain ⟨x0, x1, x2⟩ := rest3 HK2.out
    go_upto_region 15 with (fail)
    go_region_held3 (fun w' => w'.cell? ⟨w.heap.size, 0, none⟩ = some (.bool ng) ∧ w'.cell? ⟨w.heap.size, 2, none⟩ = some (.int .i64 K))
      (first
        | go_keep
        | (go_split_ands
           refine ⟨?_, ?_⟩ <;> (rw [gg.cell (World.block_lt_of_cell? _ _ (by assumption))]; assumption))
        | (go_split_ands
           refine ⟨?_, ?_⟩ <;> (exact (((Below.refl _ _).alloc (Nat.le_refl _) _).cell (World.block_lt_of_cell? _ _ (by assumption))).trans (by assumption))))
      ((first
        | (go_at_call 98; (with_reducible refine (Ze.out _ (by exact HT2.out.drew)).mono ?_); rintro r ws ⟨rfl, gg⟩; have ga := gg)
        | (go_at_call 96; (with_reducible refine (Jn.out _ _).mono ?_); rintro r ws ⟨rfl, gg⟩; have gb := gg)))
    have gc := ga.trans ((alloc_then gb).mono ga.size)
    have B := Lib.hid (HB2.out.trans ((show Below w2.heap.size w2 _ from ⟨gc.os, gc.tape, gc.output, gc.size, gc.block⟩).mono HB2.out.size))
    clear ga gb gc x0 x1 x2
    go_wp2_with fail
    go_ret
    exact ⟨rfl, B.out⟩
end Go.Proofs.YtnlpkehllihllaaGreatDoor

/-
  The walk of layout.Layout: digits and a power.
-/
namespace Go.Proofs.YtnlpkehllihllaaGreatDoor
open Go.RowKit Go.Sort

set_option maxHeartbeats 3200000 in
set_option maxRecDepth 100000 in
/-- layout.Layout: digits and a power. -/
theorem lay_many (ng : Bool) (A : Option Addr) (c D : Nat) (K E : Int) (w : World) (hN : Num w (.slice A (lw D) c) D) (hD : D % 10 ≠ 0) (hb : D < 10 ^ 22) (hK : 1 < (textL D).length ∧ E = (textL D).length + K - 1) (hm : -600 ≤ K ∧ K ≤ 900 ∧ (20 < E ∨ E ≤ -7)) (hT : Tab w) :
    Calls Tryz.prog 62 #[.agg #[.bool ng, .slice A (lw D) c, .int .i64 K]] w fun r w' => r = .returned (S ((if ng = true then [45] else []) ++ ((textL D).take 1 ++ ([46] ++ ((textL D).drop 1 ++ ([101] ++ Lib.itoa E)))))) ∧ Below w.heap.size w w' := by
  have hD0 : D ≠ 0 := fun q => hD (by rw [q])
  have hl2 : lw D ≤ 2 := lw_le (k := 2) (Nat.lt_trans hb (by decide))
  have hl1 := lw_pos hD0
  obtain ⟨hk0, hb0⟩ := new3 w 49 (.bool ng) (.slice A (lw D) c) (.int .i64 K)
  obtain ⟨w0, hw0⟩ : ∃ w0, w0 = w.alloc (.cells #[.bool ng, .slice A (lw D) c, .int .i64 K] 49) := ⟨_, rfl⟩
  rw [← hw0] at hk0 hb0
  have HN0 := Lib.hid (hN.below hb0)
  have HT0 := Lib.hid (hT.below hb0 (Nat.le_refl _))
  have HB0 := Lib.hid hb0
  have HK0 := Lib.hid hk0
  have h22 : (textL D).length ≤ 22 := by
    obtain ⟨q1, q2⟩ := textL_len D hD0
    rcases Nat.lt_or_ge 22 (textL D).length with q | q
    · have : 10 ^ 22 ≤ 10 ^ ((textL D).length - 1) := Nat.pow_le_pow_right (by omega) (by omega)
      omega
    · exact q
  have h1' := (textL_len D hD0).1
  have Ri := Lib.hid fun W (h : Num W (.slice A (lw D) c) D) (hT : Tab W) => lright_any ng A c D K W h hD hb (by omega) (by omega) hT
  have Te := Lib.hid fun W (h : Num W (.slice A (lw D) c) D) (hT : Tab W) => text_any _ D W h (by omega) hT
  have Ze := Lib.hid fun W (hT : Tab W) => itoa_any E W (by omega) (by omega) hT
  obtain ⟨s, hs⟩ : ∃ s : ByteArray, s = ⟨(textL D).toArray⟩ := ⟨_, rfl⟩
  rw [show S (textL D) = .string s by rw [hs]] at Te
  have hsl : s.size = (textL D).length := by rw [hs]; show (textL D).toArray.size = _; simp
  obtain ⟨z, hz⟩ : ∃ z : ByteArray, z = ⟨(Lib.itoa E).toArray⟩ := ⟨_, rfl⟩
  rw [show S (Lib.itoa E) = .string z by rw [hz]] at Ze
  obtain ⟨sa, hsa⟩ : ∃ sa : ByteArray, sa = ⟨((textL D).take 1).toArray⟩ := ⟨_, rfl⟩
  obtain ⟨sb, hsb⟩ : ∃ sb : ByteArray, sb = ⟨((textL D).drop 1).toArray⟩ := ⟨_, rfl⟩
  have es : s.data.toList = textL D := by rw [hs]
  have ca : s.extract 0 1 = sa := by
    rw [hsa]
    refine extract_of (q := (textL D).drop 1) ?_ ?_
    · rw [List.drop_zero, es, List.take_append_drop]
    · rw [List.length_take]; omega
  have cb : s.extract 1 s.size = sb := by
    rw [hsb]
    refine extract_of (q := []) ?_ ?_
    · rw [es, List.append_nil]
    · rw [List.length_drop]; omega
  obtain ⟨R, hR⟩ : ∃ R, R = (if ng = true then [45] else []) ++ ((textL D).take 1 ++ ([46] ++ ((textL D).drop 1 ++ ([101] ++ Lib.itoa E)))) := ⟨_, rfl⟩
  have Jn := Lib.hid fun (W : World) (t : TypeId) => show Calls Tryz.prog 96 #[.bool ng, .slice (some ⟨W.heap.size, 0, none⟩) 5 5] (W.alloc (.cells #[.string sa, .string ⟨#[46]⟩, .string sb, .string ⟨#[101]⟩, .string z] t)) fun e w' => e = .returned (S R) ∧ Below (W.alloc (.cells #[.string sa, .string ⟨#[46]⟩, .string sb, .string ⟨#[101]⟩, .string z] t)).heap.size (W.alloc (.cells #[.string sa, .string ⟨#[46]⟩, .string sb, .string ⟨#[101]⟩, .string z] t)) w' from by
    rw [hsa, hsb, hz]
    have a := joined_any ng W.heap.size [(textL D).take 1, [46], (textL D).drop 1, [101], Lib.itoa E] 5 (W.alloc (.cells #[S ((textL D).take 1), S [46], S ((textL D).drop 1), S [101], S (Lib.itoa E)] t)) rfl (srow_new W t [(textL D).take 1, [46], (textL D).drop 1, [101], Lib.itoa E]) (by simp) (by simp) (by have := itoa_len E (by omega) (by omega); simp; omega)
    rw [show [(textL D).take 1, [46], (textL D).drop 1, [101], Lib.itoa E].flatten = (textL D).take 1 ++ ([46] ++ ((textL D).drop 1 ++ ([101] ++ Lib.itoa E))) by simp, ← hR] at a
    exact a
  rw [← hR]
  obtain ⟨N, hNN⟩ : ∃ N, N = lw D := ⟨_, rfl⟩
  rw [← hNN] at HN0 Ri Te hk0 hw0 HK0 hl1 ⊢
  have t11 : ((N : Int) == 0) = false := by rw [beq_eq_false_iff_ne]; omega
  obtain ⟨P, hpp⟩ : ∃ P : Int, P = E + 1 := ⟨_, rfl⟩
  have e23 : IntKind.i64.wrap ((s.size : Int) + K) = P := by rw [IntKind.wrap_i64]; omega
  have e78 : IntKind.i64.wrap (P - 1) = E := by rw [IntKind.wrap_i64]; omega
  have t41 : decide (P ≤ (21 : Int)) = decide (E ≤ -7) := decide_eq_decide.2 ⟨fun q => by omega, fun q => by omega⟩
  have t53 : decide ((0 : Int) < P) = decide (20 < E) := decide_eq_decide.2 ⟨fun q => by omega, fun q => by omega⟩
  have t70 : decide ((-6 : Int) < P) = decide (20 < E) := decide_eq_decide.2 ⟨fun q => by omega, fun q => by omega⟩
  have t73 : decide (P ≤ (0 : Int)) = decide (E ≤ -7) := decide_eq_decide.2 ⟨fun q => by omega, fun q => by omega⟩
  have t86 : ((s.size : Int) == 1) = false := by rw [beq_eq_false_iff_ne]; omega
  have t87 : (s.size == 1) = false := by rw [beq_eq_false_iff_ne]; omega
  have c28 : (1 : Int) ≤ (s.size : Int) := by omega
  have hsd : (decide (20 < E) = true ∧ decide (E ≤ -7) = false ∧ decide ((0 : Int) ≤ K) = true) ∨ (decide (20 < E) = true ∧ decide (E ≤ -7) = false ∧ decide ((0 : Int) ≤ K) = false) ∨ (decide (20 < E) = false ∧ decide (E ≤ -7) = true ∧ decide ((0 : Int) ≤ K) = false) := by
    rcases hm.2.2 with q | q
    · rcases Int.lt_or_le K 0 with r | r
      · exact .inr (.inl ⟨decide_eq_true q, decide_eq_false (by omega), decide_eq_false (by omega)⟩)
      · exact .inl ⟨decide_eq_true q, decide_eq_false (by omega), decide_eq_true r⟩
    · exact .inr (.inr ⟨decide_eq_false (by omega), decide_eq_true q, decide_eq_false (by omega)⟩)
  clear hk0 hb0 hN hT hNN hsl hD hb hD0 hl1 hl2 hK hm hpp hs hz hsa hsb es hR h22 h1'
  rcases hsd with ⟨u1, u2, t38⟩ | ⟨u1, u2, t38⟩ | ⟨u1, u2, t38⟩
  all_goals
    rw [u1] at t53 t70
    rw [u2] at t41 t73
    clear u1 u2
    obtain ⟨x0, x1, x2⟩ := rest3 HK0.out
    go_enter Tryz.func62, Tryz.ntmps62
    go_upto_region 1 with (fail)
    rw [← hw0]
    clear hw0
    go_wp2_with fail
    ((with_reducible refine (Ri.out _ HN0.out HT0.out).mono ?_); rintro r w1 ⟨rfl, g1⟩)
    have HK1 := Lib.hid (Blk.below HK0.out g1 HK0.out.lt)
    have HN1 := Lib.hid (HN0.out.below g1)
    have HT1 := Lib.hid (HT0.out.below g1 (Nat.le_refl _))
    have HB1 := Lib.hid (HB0.out.trans (g1.mono HB0.out.size))
    clear g1 x0 x1 x2
    obtain ⟨x0, x1, x2⟩ := rest3 HK1.out
    go_wp2_with fail
    ((with_reducible refine (Te.out _ HN1.out HT1.out).mono ?_); rintro r w2 ⟨rfl, g2⟩)
    have HK2 := Lib.hid (Blk.below HK1.out g2 HK1.out.lt)
    have HT2 := Lib.hid (HT1.out.below g2 (Nat.le_refl _))
    have HB2 := Lib.hid (HB1.out.trans (g2.mono HB1.out.size))
    clear g2 x0 x1 x2
    obtain ⟨x0, x1, x2⟩ := rest3 HK2.out
    go_upto_region 7 with (fail)
    go_region_held3 (fun w' => w'.cell? ⟨w.heap.size, 0, none⟩ = some (.bool ng) ∧ w'.cell? ⟨w.heap.size, 2, none⟩ = some (.int .i64 K))
      (first
        | go_keep
        | (go_split_ands
           refine ⟨?_, ?_⟩ <;> (rw [gg.cell (World.block_lt_of_cell? _ _ (by assumption))]; assumption))
        | (go_split_ands
           refine ⟨?_, ?_⟩ <;> (exact (((Below.refl _ _).alloc (Nat.le_refl _) _).cell (World.block_lt_of_cell? _ _ (by assumption))).trans (by assumption))))
      ((first
        | (go_at_call 98; (with_reducible refine (Ze.out _ (by exact HT2.out.drew)).mono ?_); rintro r ws ⟨rfl, gg⟩; have ga := gg)
        | (go_at_call 96; (with_reducible refine (Jn.out _ _).mono ?_); rintro r ws ⟨rfl, gg⟩; have gb := gg)))
    have gc := ga.trans ((alloc_then gb).mono ga.size)
    have B := Lib.hid (HB2.out.trans ((show Below w2.heap.size w2 _ from ⟨gc.os, gc.tape, gc.output, gc.size, gc.block⟩).mono HB2.out.size))
    clear ga gb gc x0 x1 x2
    go_wp2_with fail
    go_ret
    exact ⟨rfl, B.out⟩
end Go.Proofs.YtnlpkehllihllaaGreatDoor

/-
  layout.Layout of shortest digits: all its cases.
-/
namespace Go.Proofs.YtnlpkehllihllaaGreatDoor
open Go.RowKit Go.Sort

/-- The text of digits, but for the sign. -/
def layT (D : Nat) (K : Int) : List UInt8 :=
  if 0 ≤ K ∧ (textL D).length + K ≤ 21 then textL D ++ List.replicate K.toNat 48
  else if 0 < (textL D).length + K ∧ (textL D).length + K ≤ 21 then (textL D).take ((textL D).length + K).toNat ++ ([46] ++ (textL D).drop ((textL D).length + K).toNat)
  else if -6 < (textL D).length + K ∧ (textL D).length + K ≤ 0 then [48, 46] ++ (List.replicate (-((textL D).length + K)).toNat 48 ++ textL D)
  else if (textL D).length = 1 then textL D ++ ([101] ++ Lib.itoa K)
  else (textL D).take 1 ++ ([46] ++ ((textL D).drop 1 ++ ([101] ++ Lib.itoa ((textL D).length + K - 1))))
theorem text_22 {D : Nat} (hD : D ≠ 0) (hb : D < 10 ^ 22) : 1 ≤ (textL D).length ∧ (textL D).length ≤ 22 := by
  obtain ⟨q1, q2⟩ := textL_len D hD
  refine ⟨q1, ?_⟩
  rcases Nat.lt_or_ge 22 (textL D).length with q | q
  · have : 10 ^ 22 ≤ 10 ^ ((textL D).length - 1) := Nat.pow_le_pow_right (by omega) (by omega)
    omega
  · exact q
theorem lay_any (ng : Bool) (A : Option Addr) (c D : Nat) (K : Int) (w : World) (hN : Num w (.slice A (lw D) c) D) (hD : D % 10 ≠ 0) (hb : D < 10 ^ 22) (k1 : -500 ≤ K) (k2 : K ≤ 500) (hT : Tab w) :
    Calls Tryz.prog 62 #[.agg #[.bool ng, .slice A (lw D) c, .int .i64 K]] w fun r w' => r = .returned (S ((if ng = true then [45] else []) ++ layT D K)) ∧ Below w.heap.size w w' := by
  obtain ⟨h1, h2⟩ := text_22 (fun q => hD (by rw [q])) hb
  unfold layT
  by_cases c1 : 0 ≤ K ∧ (textL D).length + K ≤ 21
  · rw [if_pos c1]
    have a := lay_whole ng A c D K.toNat w hN hD hb (by omega) hT
    rwa [show ((K.toNat : Nat) : Int) = K by omega] at a
  · rw [if_neg c1]
    by_cases c2 : 0 < (textL D).length + K ∧ (textL D).length + K ≤ 21
    · rw [if_pos c2]
      exact lay_point ng A c D ((textL D).length + K).toNat K w hN hD hb (by omega) (by omega) hT
    · rw [if_neg c2]
      by_cases c3 : -6 < (textL D).length + K ∧ (textL D).length + K ≤ 0
      · rw [if_pos c3]
        exact lay_small ng A c D (-((textL D).length + K)).toNat K w hN hD hb (by omega) (by omega) hT
      · rw [if_neg c3]
        by_cases c4 : (textL D).length = 1
        · rw [if_pos c4]
          exact lay_one ng A c D K w hN hD hb c4 (by omega) hT
        · rw [if_neg c4]
          exact lay_many ng A c D K _ w hN hD hb ⟨by omega, rfl⟩ (by omega) hT
end Go.Proofs.YtnlpkehllihllaaGreatDoor
