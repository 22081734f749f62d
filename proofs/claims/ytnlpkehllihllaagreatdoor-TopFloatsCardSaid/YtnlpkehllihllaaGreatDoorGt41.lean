/-
  A part of the proofs that calipertop.TopBack, TopFloats and TopNearest return true for every input and leave it as it was: part 41 of 47.
-/
import Derived.Test.YtnlpkehllihllaaGreatDoorGt31
import Derived.Test.YtnlpkehllihllaaGreatDoorGt40
/-
  calipertop.TopFloats: the walk's contract lifted to the row, and the card: the law returns true for every input.
-/
namespace Go.Proofs.YtnlpkehllihllaaGreatDoor
open Go.ChangeShapes Go.WideShapes Go.ChangeAt Go.RowKit

set_option maxRecDepth 100000 in
/-- What the walk gives, for every argument and every world that holds the tables. -/
theorem topFloats_contract (H : Type) (enc : TypeId × Value → H) (W : World) (base : Nat) (args : Array Value) (ds gs : List (DataW H)) (before : List MemPlace)
    (hval : ∀ (j : Nat) t v, Tryz.f5.params[j]? = some t → args[j]? = some v → Value.okWide Tryz.prog W .any base t v)
    (hW : DataW.Whole enc Tryz.prog Tryz.f5.params.toList Rows.topFloatsSpec.vars false W args.toList ds gs before) (hL : laidMetH Tryz.prog Rows.topFloatsRow.laid W) :
    Calls Tryz.prog 5 args W fun e W' => ∃ v, e = .returned v ∧ Rows.topFloatsSpec.post enc Tryz.prog Tryz.f5 false true false false W args v W' := by
  have hT := row_tab hL
  have hE := row_env hL
  have hP := row_ptab hL
  clear hL
  have hW' := hW
  obtain ⟨p, q, hA0, hV, rfl, hfz, hnd⟩ := hW
  have hA : DataW.TrodAll enc Tryz.prog W 0 (fun _ => true) true Tryz.f5.params.toList args.toList ds p := hA0
  rw [Tryz.params5] at hA hval
  obtain ⟨v0, vs0, d0, ds0, p0, q0, hargs0, rfl, rfl, h0, r0⟩ := trodAll_cons hA
  obtain ⟨hargsN, rfl, rfl⟩ := trodAll_nil r0
  obtain rfl : args = #[v0] := by cases args; simp_all
  obtain ⟨rfl, rfl⟩ := trodVars_none hV
  have x0 := hval 0 45 v0 (by simp) (by simp)
  obtain ⟨b, rfl, rfl, rfl, w0⟩ := open_float Tryz.underlying45 x0 h0
  have hb : b < 18446744073709551616 := by simpa [Lit.wf] using w0
  clear hA0
  simp only [List.append_nil] at hW'
  refine (floats_walk b W hb hE hT hP).mono fun e W' ⟨he, hg⟩ => ?_
  subst he
  exact ⟨_, rfl, post_held (pa := []) (pv := []) hW' (fun _ _ _ => trodAll_cons_mk (shut_bool Tryz.underlying4 _) trodAll_mk0) (fun _ _ => trodAll_cons_mk (shut_float Tryz.underlying45 w0) trodAll_mk0) (fun _ _ => rfl) rfl
    hg (ok_one (by kernel_rfl) rfl (okWide_bool_mk Tryz.underlying4 _))⟩

set_option maxRecDepth 100000 in
theorem topFloats_reads (os : Os) {H : Type} (enc : TypeId × Value → H) : ∃ places, DataW.whole enc Tryz.prog (((World.doorLaid Tryz.prog 136 os).layVars Tryz.prog [("unicode/utf8.first", Rows.laid_unicode_utf8_first)]).forCall (fun _ _ => 0) ⟨#[], #[.float .f64 0], []⟩).memory Tryz.f5.params.toList Rows.topFloatsSpec.vars false (#[.float .f64 0] : Array Value).toList 8 = some ([.lit (.float .f64 0)], [], places) :=
  ⟨[], by kernel_rfl⟩

set_option maxRecDepth 100000 in
/-- The row's step. -/
theorem topFloats_lifted (os : Os) (started : os.Started) (H : Type) (enc : TypeId × Value → H) (F : Stop.Interp) :
    ReturnsInHanded {} Tryz.checked os 5 .any ((OpenSpec.ofChange Rows.topFloatsSpec).preRow enc Tryz.prog Tryz.f5 Rows.topFloatsRow.domain false Rows.topFloatsRow.laid) (((OpenSpec.ofChange Rows.topFloatsSpec).at F).post enc Tryz.prog Tryz.f5 false true false false) := by
  obtain ⟨places, hx⟩ := topFloats_reads os enc
  refine returnsInHanded_of_row (C := Tryz.checked) (s := OpenSpec.ofChange Rows.topFloatsSpec) own started (by kernel_rfl) Tryz.func5
    (witness_row_atRef (enc := enc) (C := Tryz.checked) false ((World.doorLaid Tryz.prog 136 os).layVars Tryz.prog [("unicode/utf8.first", Rows.laid_unicode_utf8_first)]) #[.float .f64 0] (start_os os) (by kernel_rfl) (by kernel_rfl) (by kernel_rfl)
      (OpenSpec.preRow_of_cond 8 hx (by kernel_rfl) (fun k hk => by cases hk) (by kernel_rfl) (laid_met os _))) ?_
  intro W base args ds gs before hval hW _ _ _ hL _ _
  exact topFloats_contract H enc W base args ds gs before hval hW hL

theorem topFloats_said : Rows.TopFloatsSaid :=
  OpenClaim.holds_of_cond 5 Tryz.f5 rfl rfl rfl rfl rfl rfl rfl ⟨rfl, rfl, rfl, rfl, rfl⟩ rfl rfl rfl rfl rfl (by kernel_rfl) Tryz.func5 (by kernel_rfl)
    (of_decide_eq_true (by kernel_rfl)) (by unfold Func.isWrapper; first | (rw [if_pos (by decide +kernel)]; kernel_rfl) | (rw [if_neg (by decide +kernel)]; exact ⟨rfl, rfl⟩))
    (fun os started H enc _ F => by rw [OpenClaim.pre_eq_preRow]; exact topFloats_lifted os started H enc F)

/-- No parameter wants a stand-in; the program's own looks are on. -/
theorem topFloats_plain (f : FuncId) (fn : Func) (hf : Tryz.pinned.checked.prog.funcNamed "caliper/calipertop.TopFloats" = some f) (hfn : Tryz.pinned.checked.prog.funcs[f]? = some fn) :
    true = Tryz.pinned.checked.prog.looks [] ∧ ∀ (j : Nat) t, fn.params[j]? = some t → Tryz.pinned.checked.prog.wantsStandIn t = false := by
  obtain rfl : f = 5 := Option.some.inj ((show Tryz.prog.funcNamed "caliper/calipertop.TopFloats" = some 5 by kernel_rfl).symm.trans hf) |>.symm
  obtain rfl : fn = Tryz.f5 := (Option.some.inj (Tryz.func5.symm.trans hfn)).symm
  refine ⟨by kernel_rfl, fun j t ht => ?_⟩
  rw [Tryz.params5] at ht
  have hm : t ∈ [45] := by simpa using Array.mem_of_getElem? ht
  have hall : ([45].all fun u => !Tryz.prog.wantsStandIn u) = true := by kernel_rfl
  exact (show Tryz.prog.wantsStandIn t = false by simpa using List.all_eq_true.1 hall t hm)

/-- The card. -/
theorem topFloats_card : Rows.TopFloatsCardSaid :=
  Claim7.holds_tied_plain_at .later [] _ _ _ _ topFloats_said (fun _ h => by cases h) (by kernel_rfl) (fun _ h => by cases h) topFloats_row_tie rfl ⟨rfl, rfl⟩ (by kernel_rfl) rfl topFloats_plain (by kernel_rfl)
end Go.Proofs.YtnlpkehllihllaaGreatDoor
