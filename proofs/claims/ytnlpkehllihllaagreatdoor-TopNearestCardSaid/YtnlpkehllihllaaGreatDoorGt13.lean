/-
  A part of the proofs that calipertop.TopBack, TopFloats and TopNearest return true for every input and leave it as it was: part 13 of 47.
-/
import Derived.Test.YtnlpkehllihllaaGreatDoorRows
import Derived.Test.YtnlpkehllihllaaGreatDoorGt12
import Derived.Test.YtnlpkehllihllaaGreatDoorGt10
import Derived.WalkKit
import Derived.ProofKit
import Derived.LaidMore
import Derived.LaidHandle
import Derived.LaidSub
import Derived.OpenShut
import Derived.Lib.LaidTab
import Derived.Maps.Keyed
/-
  What the row's list of package-level variables gives: the tables that the walks read.
-/
namespace Go.Proofs.YtnlpkehllihllaaGreatDoor
open Go.ChangeShapes Go.WideShapes Go.ChangeAt Go.WideElems Go.RowKit

theorem gPow : Tryz.prog.globalNamed "internal/strconv.uint64pow10" = some 6 := by kernel_rfl
theorem gPowT : (Tryz.prog.globals[6]?).map (·.type) = some 184 := by kernel_rfl
theorem gBru : Tryz.prog.globalNamed "math/bits.deBruijn64tab" = some 9 := by kernel_rfl
theorem gBruT : (Tryz.prog.globals[9]?).map (·.type) = some 205 := by kernel_rfl
theorem gFrm : Tryz.prog.globalNamed "caliper/forms.forms" = some 0 := by kernel_rfl
theorem gFrmT : (Tryz.prog.globals[0]?).map (·.type) = some 76 := by kernel_rfl
theorem gNum : Tryz.prog.globalNamed "caliper/value.numbers" = some 2 := by kernel_rfl
theorem gNumT : (Tryz.prog.globals[2]?).map (·.type) = some 110 := by kernel_rfl
theorem cPow : Tryz.prog.cellsOf 184 = 20 := by kernel_rfl
theorem cBru : Tryz.prog.cellsOf 205 = 64 := by kernel_rfl
theorem cU64 : Tryz.prog.cellsOf 26 = 1 := by kernel_rfl
theorem cU8 : Tryz.prog.cellsOf 5 = 1 := by kernel_rfl
theorem cInt : Tryz.prog.cellsOf 3 = 1 := by kernel_rfl
theorem cFrm : Tryz.prog.cellsOf 55 = 7 := by kernel_rfl

theorem tab_of {W : World} (h : laidMetH Tryz.prog [("internal/strconv.uint64pow10", Rows.laid_internal_strconv_uint64pow10)] W) : Tab W :=
  Lib.tabIs_of_head (rest := []) gPow gPowT Tryz.underlying184 Tryz.underlying26 cU64 cPow h
theorem btab_of {W : World} (h : laidMetH Tryz.prog [("math/bits.deBruijn64tab", Rows.laid_math_bits_deBruijn64tab)] W) : BTab W := by
  have t : Lib.TabIs Tryz.prog W "math/bits.deBruijn64tab" .u8 (Lib.deBruijn64tab.map fun n : Nat => (n : Int)) :=
    Lib.tabIs_of_head (rest := []) gBru gBruT Tryz.underlying205 Tryz.underlying5 cU8 cBru h
  intro j hj
  have hc := Lib.TabIs.cell t gBru j (by simpa using hj)
  rw [hc]
  congr 2
  rw [List.getD_eq_getElem?_getD, List.getElem?_map, List.getD_eq_getElem?_getD, List.getElem?_eq_getElem hj]
  rfl

/-- A form as the row lists it. -/
def formD {H : Type} (n : Nat) : DataW H := .agg [.lit (.int .i64 (formAt n).kind), .lit (.int .i64 (formAt n).width), .lit (.int .i64 (formAt n).man), .lit (.int .i64 (formAt n).bias), .lit (.int .u64 (formAt n).top), .lit (.int .u64 (formAt n).inf), .lit (.int .u64 (formAt n).nan)]
set_option maxRecDepth 100000 in
theorem form_cells {H : Type} {enc : TypeId × Value → H} {W : World} {base : Nat} {sp : Nat → Bool} {held : Bool} {fuel : Nat} {cs : List Value} {p : List MemPlace} {n : Nat}
    (h : DataW.trod enc Tryz.prog W base sp held fuel 55 cs = some (formD n, p)) : cs = (formAt n).cells.toList := by
  obtain ⟨xs, m, _, hx, hl, hlen, hf⟩ := DataW.trod_struct Tryz.underlying55 h
  simp only [Prod.mk.injEq, formD, DataW.agg.injEq] at hx
  rw [cFrm] at hl
  match cs, hl with
  | [c0, c1, c2, c3, c4, c5, c6], _ =>
  match xs, hlen, hx with
  | [y0, y1, y2, y3, y4, y5, y6], _, hx =>
  simp only [List.map_cons, List.map_nil, List.cons.injEq] at hx
  have g0 := hf 0 _ rfl
  have g1 := hf 1 _ rfl
  have g2 := hf 2 _ rfl
  have g3 := hf 3 _ rfl
  have g4 := hf 4 _ rfl
  have g5 := hf 5 _ rfl
  have g6 := hf 6 _ rfl
  simp [cInt, cU64] at g0 g1 g2 g3 g4 g5 g6
  obtain ⟨k0, e0, r0, _⟩ := DataW.trod_int Tryz.underlying3 (x := y0) g0
  obtain ⟨k1, e1, r1, _⟩ := DataW.trod_int Tryz.underlying3 (x := y1) g1
  obtain ⟨k2, e2, r2, _⟩ := DataW.trod_int Tryz.underlying3 (x := y2) g2
  obtain ⟨k3, e3, r3, _⟩ := DataW.trod_int Tryz.underlying3 (x := y3) g3
  obtain ⟨k4, e4, r4, _⟩ := DataW.trod_int Tryz.underlying26 (x := y4) g4
  obtain ⟨k5, e5, r5, _⟩ := DataW.trod_int Tryz.underlying26 (x := y5) g5
  obtain ⟨k6, e6, r6, _⟩ := DataW.trod_int Tryz.underlying26 (x := y6) g6
  subst r0 r1 r2 r3 r4 r5 r6
  simp only [DataW.lit.injEq, Lit.int.injEq, true_and, and_true] at hx
  simp at e0 e1 e2 e3 e4 e5 e6
  obtain ⟨⟨h0, h1, h2, h3, h4, h5, h6⟩, _⟩ := hx
  subst e0 e1 e2 e3 e4 e5 e6
  rw [← h0, ← h1, ← h2, ← h3, ← h4, ← h5, ← h6]
  rfl
theorem ftab_of {W : World} (h : laidMetH Tryz.prog [("caliper/forms.forms", Rows.laid_caliper_forms_forms)] W) : FTab W := by
  have h' : laidMet Tryz.prog [("caliper/forms.forms", Rows.laid_caliper_forms_forms)] W := h
  obtain ⟨ps, ⟨g, t, cs, fuel, p, q, hg, ht, hv, hd, _, _⟩, _⟩ := h'
  obtain rfl := Option.some.inj (gFrm.symm.trans hg)
  obtain rfl := Option.some.inj (gFrmT.symm.trans ht)
  have e : (Rows.laid_caliper_forms_forms : DataW Unit) = .agg ((List.range 15).map formD) := rfl
  rw [e] at hd
  obtain ⟨xs, m, rfl, hx, hl, hlen, hel⟩ := DataW.trod_array Tryz.underlying76 hd
  simp only [Prod.mk.injEq, DataW.agg.injEq] at hx
  rw [cFrm] at hel
  intro n j hn hj
  have hE := hel n hn
  have hxn : (xs.map (·.1))[n]? = some (formD n) := by rw [← hx.1]; simp [hn]
  rw [List.getElem?_map] at hxn
  cases hy : xs[n]? with
  | none => simp [hy] at hxn
  | some y =>
    rw [hy] at hE hxn
    simp only [Option.map_some, Option.some.injEq] at hxn
    have hc := form_cells (n := n) (p := y.2) (by rw [hE, ← hxn])
    have hv2 := World.var?_cell gFrm hv (n * 7 + j)
    rw [hv2]
    have h2 : ((cs.toList.drop (n * 7)).take 7)[j]? = (formAt n).cells.toList[j]? := by rw [hc]
    rw [List.getElem?_take, if_pos hj, List.getElem?_drop] at h2
    simpa using h2

/-- The names of the functions in the map, as they are held. -/
def numD (k : Nat) : DataW (List UInt8) := .held ([99, 97, 108, 105, 112, 101, 114, 47, 118, 97, 108, 117, 101, 46, 110, 117, 109, 98, 101, 114, 115, 36] ++ [UInt8.ofNat (48 + k)])
theorem func_elem {P : Program} {W : World} {base : Nat} {sp : Nat → Bool} {m : Nat} {t : TypeId} {ps rs : Array TypeId} {va : Bool} {v : Value} {z : DataW (List UInt8) × List MemPlace} {k : Nat} {f0 : FuncId}
    (ht : P.underlying t = some (.func ps rs va)) (hone : ((List.range P.funcs.size).filter fun f => (P.funcs[f]?).any (·.name.toUTF8.data.toList == [99, 97, 108, 105, 112, 101, 114, 47, 118, 97, 108, 117, 101, 46, 110, 117, 109, 98, 101, 114, 115, 36] ++ [UInt8.ofNat (48 + k)])) = [f0])
    (h : elemAt (funcToken P) P W base sp true m t v = some z) (hz : numD k = z.1) : v = .func (.func f0) #[] #[] := by
  unfold elemAt at h
  split at h
  · next hf =>
    have hv : v.cells.toList = [v] := by
      cases v <;> simp [Value.formed, ht] at hf <;> rfl
    rw [hv] at h
    obtain ⟨d, q⟩ := z
    simp only at hz
    subst hz
    exact func_of_trod ht hone h
  · cases h
theorem zero_num (W : World) : (zeroValue 59).run Tryz.prog W = .ok .nilFunc W := by kernel_rfl
theorem ntab_of {l : List (String × DataW Unit)} {W : World} (hl : ("caliper/value.numbers", Rows.laid_caliper_value_numbers) ∈ l) (h : laidMetH Tryz.prog l W) : NTab W := by
  obtain ⟨g, t, cs, fuel, p, hg, ht, hv, hd⟩ := h.funcs hl
  obtain rfl := Option.some.inj (gNum.symm.trans hg)
  obtain rfl := Option.some.inj (gNumT.symm.trans ht)
  have hd' : DataW.trod (funcToken Tryz.prog) Tryz.prog W 0 (fun _ => true) true fuel 110 cs.toList = some (.map [(.int .i64 1, numD 1), (.int .i64 2, numD 2), (.int .i64 3, numD 3), (.int .i64 4, numD 4)], p) := hd
  rcases open_map Tryz.underlying110 hd' with ⟨_, hx⟩ | ⟨bm, es, clock, m, rfl, hcs, hb, _, F, hx⟩
  · simp at hx
  simp only [Prod.mk.injEq] at hx
  refine ⟨bm, es, clock, ?_, hb, ?_⟩
  · have := World.var?_cell hg hv 0
    rw [Array.eq_one_of_toList hcs] at this
    simpa using this
  · intro W2 k hb2 k0 k4
    have hkey : keyOf Tryz.prog 3 (.int .i64 k) = some (.int .i64 k) := Maps.keyOf_int_mk Tryz.underlying3 (WalkArith.wf_i64 (n := k) ⟨by omega, by omega⟩)
    have hor : k = 0 ∨ k = 1 ∨ k = 2 ∨ k = 3 ∨ k = 4 := by omega
    rcases Maps.fit_look (w := W2) false (Maps.int_keyed Tryz.underlying3) Tryz.underlying110 (zero_num W2) hb2 F hkey with ⟨hrun, _, hat⟩ | ⟨e0, y, hm, he, hrun, hR, hat, _⟩
    · rw [← hx.1] at hat
      have h0 := hat .nil
      rcases hor with rfl | rfl | rfl | rfl | rfl
      · exact hrun
      · cases h0
      · cases h0
      · cases h0
      · cases h0
    · rw [← hx.1] at hat
      have h0 := hat .nil
      have h1 := hat (.held [])
      rw [show (if false = true then Value.tuple #[e0.val, .bool true] else e0.val) = e0.val from rfl] at hrun
      rcases hor with rfl | rfl | rfl | rfl | rfl
      · exfalso
        have q0 : (DataW.nil : DataW (List UInt8)) = y.1 := h0
        have q1 : (DataW.held [] : DataW (List UInt8)) = y.1 := h1
        rw [← q0] at q1
        cases q1
      · rw [func_elem (f0 := 180) Tryz.underlying59 (by kernel_rfl) hR (show numD 1 = y.1 from h0)] at hrun
        exact hrun
      · rw [func_elem (f0 := 182) Tryz.underlying59 (by kernel_rfl) hR (show numD 2 = y.1 from h0)] at hrun
        exact hrun
      · rw [func_elem (f0 := 184) Tryz.underlying59 (by kernel_rfl) hR (show numD 3 = y.1 from h0)] at hrun
        exact hrun
      · rw [func_elem (f0 := 186) Tryz.underlying59 (by kernel_rfl) hR (show numD 4 = y.1 from h0)] at hrun
        exact hrun
end Go.Proofs.YtnlpkehllihllaaGreatDoor
