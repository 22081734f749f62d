/-
  A part of the proofs that calipertop.TopBack, TopFloats and TopNearest return true for every input and leave it as it was: part 30 of 47.
-/
import Derived.Test.YtnlpkehllihllaaGreatDoorGt13
import Derived.Test.YtnlpkehllihllaaGreatDoorGt29
/-
  What the rows' list of package-level variables gives: the tables that the walks read, and the map of words.
-/
namespace Go.Proofs.YtnlpkehllihllaaGreatDoor
open Go.ChangeShapes Go.WideShapes Go.ChangeAt Go.WideElems Go.RowKit

theorem gWrd : Tryz.prog.globalNamed "caliper/print.words" = some 3 := by kernel_rfl
theorem gWrdT : (Tryz.prog.globals[3]?).map (·.type) = some 118 := by kernel_rfl
theorem zero_str (W : World) : (zeroValue 9).run Tryz.prog W = .ok (.string ⟨#[]⟩) W := by kernel_rfl
/-- A string as an element of a map. -/
theorem str_elem {H : Type} {enc : TypeId × Value → H} {P : Program} {W : World} {base : Nat} {sp : Nat → Bool} {held : Bool} {m : Nat} {t : TypeId} {v : Value} {z : DataW H × List MemPlace} {bs : List UInt8}
    (ht : P.underlying t = some .string) (h : elemAt enc P W base sp held m t v = some z) (hz : (DataW.lit (.string bs) : DataW H) = z.1) : v = .string ⟨bs.toArray⟩ := by
  unfold elemAt at h
  split at h
  · next hf =>
    have hv : v.cells.toList = [v] := by
      cases v <;> simp [Value.formed, ht] at hf <;> rfl
    rw [hv] at h
    obtain ⟨s, hs, rfl, _⟩ := DataW.trod_string ht h
    simp only [DataW.lit.injEq, Lit.string.injEq] at hz
    rw [hz]
    simpa using hs
  · cases h
theorem ptab_of {W : World} (h : laidMetH Tryz.prog [("caliper/print.words", Rows.laid_caliper_print_words)] W) : PTab W := by
  have h' : laidMet Tryz.prog [("caliper/print.words", Rows.laid_caliper_print_words)] W := h
  obtain ⟨ps, ⟨g, t, cs, fuel, p, q, hg, ht, hv, hd, _, _⟩, _⟩ := h'
  obtain rfl := Option.some.inj (gWrd.symm.trans hg)
  obtain rfl := Option.some.inj (gWrdT.symm.trans ht)
  rcases open_map Tryz.underlying118 hd with ⟨_, hx⟩ | ⟨bm, es, clock, m, rfl, hcs, hb, _, F, hx⟩
  · simp [Rows.laid_caliper_print_words] at hx
  simp only [Prod.mk.injEq] at hx
  refine ⟨bm, es, clock, ?_, hb, ?_⟩
  · have := World.var?_cell hg hv 0
    rw [Array.eq_one_of_toList hcs] at this
    simpa using this
  · intro W2 k hb2 hor
    have hkey : keyOf Tryz.prog 3 (.int .i64 k) = some (.int .i64 k) := Maps.keyOf_int_mk Tryz.underlying3 (WalkArith.wf_i64 (n := k) ⟨by omega, by omega⟩)
    rcases Maps.fit_look (w := W2) false (Maps.int_keyed Tryz.underlying3) Tryz.underlying118 (zero_str W2) hb2 F hkey with ⟨hrun, _, hat⟩ | ⟨e0, y, hm, he, hrun, hR, hat, _⟩
    · exfalso
      rw [← hx.1] at hat
      have h0 := hat .nil
      rcases hor with rfl | rfl | rfl
      · cases h0
      · cases h0
      · cases h0
    · rw [← hx.1] at hat
      have h0 := hat .nil
      rw [show (if false = true then Value.tuple #[e0.val, .bool true] else e0.val) = e0.val from rfl] at hrun
      rcases hor with rfl | rfl | rfl
      · rw [str_elem (bs := [48]) Tryz.underlying9 hR h0] at hrun
        exact hrun
      · rw [str_elem (bs := [105, 110, 102]) Tryz.underlying9 hR h0] at hrun
        exact hrun
      · rw [str_elem (bs := [110, 97, 110]) Tryz.underlying9 hR h0] at hrun
        exact hrun

/-- What the rows' list gives. -/
abbrev rowL : List (String × DataW Unit) := Rows.topNearestRow.laid
theorem row_tab {W : World} (h : laidMetH Tryz.prog rowL W) : Tab W :=
  tab_of (laidMetH.filter (fun x => x.1 == "internal/strconv.uint64pow10") h)
theorem row_env {W : World} (h : laidMetH Tryz.prog rowL W) : Env W :=
  ⟨btab_of (laidMetH.filter (fun x => x.1 == "math/bits.deBruijn64tab") h), ftab_of (laidMetH.filter (fun x => x.1 == "caliper/forms.forms") h),
    ntab_of (show _ ∈ rowL from List.Mem.tail _ (List.Mem.tail _ (List.Mem.tail _ (List.Mem.tail _ (List.Mem.tail _ (List.Mem.tail _ (List.Mem.tail _ (List.Mem.head _)))))))) h⟩
theorem row_ptab {W : World} (h : laidMetH Tryz.prog rowL W) : PTab W :=
  ptab_of (laidMetH.filter (fun x => x.1 == "caliper/print.words") h)
end Go.Proofs.YtnlpkehllihllaaGreatDoor
