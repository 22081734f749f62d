/-
  A part of the proofs that calipertop.TopBack, TopFloats and TopNearest return true for every input and leave it as it was: part 37 of 47.
-/
import Derived.Test.YtnlpkehllihllaaGreatDoorGt31
import Derived.Test.YtnlpkehllihllaaGreatDoorGt36
/-
  calipertop.TopBack: the walk's contract lifted to the row, and the card: the law returns true for every input.
-/
namespace Go.Proofs.YtnlpkehllihllaaGreatDoor
open Go.ChangeShapes Go.WideShapes Go.ChangeAt Go.RowKit

set_option maxRecDepth 100000 in
/-- What the walk gives, for every argument and every world that holds the tables. -/
theorem topBack_contract (H : Type) (enc : TypeId × Value → H) (W : World) (base : Nat) (args : Array Value) (ds gs : List (DataW H)) (before : List MemPlace)
    (hval : ∀ (j : Nat) t v, Tryz.f4.params[j]? = some t → args[j]? = some v → Value.okWide Tryz.prog W .any base t v)
    (hW : DataW.Whole enc Tryz.prog Tryz.f4.params.toList Rows.topBackSpec.vars false W args.toList ds gs before) (hL : laidMetH Tryz.prog Rows.topBackRow.laid W) :
    Calls Tryz.prog 4 args W fun e W' => ∃ v, e = .returned v ∧ Rows.topBackSpec.post enc Tryz.prog Tryz.f4 false true false false W args v W' := by
  have hT := row_tab hL
  have hE := row_env hL
  have hP := row_ptab hL
  clear hL
  have hW' := hW
  obtain ⟨p, q, hA0, hV, rfl, hfz, hnd⟩ := hW
  have hA : DataW.TrodAll enc Tryz.prog W 0 (fun _ => true) true Tryz.f4.params.toList args.toList ds p := hA0
  rw [Tryz.params4] at hA hval
  obtain ⟨v0, vs0, d0, ds0, p0, q0, hargs0, rfl, rfl, h0, r0⟩ := trodAll_cons hA
  obtain ⟨v1, vs1, d1, ds1, p1, q1, hargs1, rfl, rfl, h1, r1⟩ := trodAll_cons r0
  obtain ⟨v2, vs2, d2, ds2, p2, q2, hargs2, rfl, rfl, h2, r2⟩ := trodAll_cons r1
  obtain ⟨hargsN, rfl, rfl⟩ := trodAll_nil r2
  obtain rfl : args = #[v0, v1, v2] := by cases args; simp_all
  obtain ⟨rfl, rfl⟩ := trodVars_none hV
  have x0 := hval 0 3 v0 (by simp) (by simp)
  obtain ⟨n0, rfl, rfl, rfl, w0⟩ := open_int Tryz.underlying3 x0 h0
  have x1 := hval 1 26 v1 (by simp) (by simp)
  obtain ⟨n1, rfl, rfl, rfl, w1⟩ := open_int Tryz.underlying26 x1 h1
  have x2 := hval 2 4 v2 (by simp) (by simp)
  obtain ⟨b2, rfl, rfl, rfl⟩ := open_bool Tryz.underlying4 x2 h2
  clear hA0
  simp only [List.append_nil] at hW'
  obtain ⟨np, rfl, hp⟩ := u64_nat w1
  refine (back_walk n0 np b2 W hp hE hT hP).mono fun e W' ⟨he, hg⟩ => ?_
  subst he
  exact ⟨_, rfl, post_held (pa := []) (pv := []) hW' (fun _ _ _ => trodAll_cons_mk (shut_bool Tryz.underlying4 _) trodAll_mk0) (fun _ _ => (trodAll_cons_mk (shut_int Tryz.underlying3 w0) (trodAll_cons_mk (shut_int Tryz.underlying26 w1) (trodAll_cons_mk (shut_bool Tryz.underlying4 _) trodAll_mk0)))) (fun _ _ => rfl) rfl
    hg (ok_one (by kernel_rfl) rfl (okWide_bool_mk Tryz.underlying4 _))⟩

set_option maxRecDepth 100000 in
theorem topBack_reads (os : Os) {H : Type} (enc : TypeId × Value → H) : ∃ places, DataW.whole enc Tryz.prog (((World.doorLaid Tryz.prog 136 os).layVars Tryz.prog [("unicode/utf8.first", Rows.laid_unicode_utf8_first)]).forCall (fun _ _ => 0) ⟨#[], #[.int .i64 0, .int .u64 0, .bool false], []⟩).memory Tryz.f4.params.toList Rows.topBackSpec.vars false (#[.int .i64 0, .int .u64 0, .bool false] : Array Value).toList 8 = some ([.lit (.int .i64 0), .lit (.int .u64 0), .lit (.bool false)], [], places) :=
  ⟨[], by kernel_rfl⟩

set_option maxRecDepth 100000 in
/-- The row's step. -/
theorem topBack_lifted (os : Os) (started : os.Started) (H : Type) (enc : TypeId × Value → H) (F : Stop.Interp) :
    ReturnsInHanded {} Tryz.checked os 4 .any ((OpenSpec.ofChange Rows.topBackSpec).preRow enc Tryz.prog Tryz.f4 Rows.topBackRow.domain false Rows.topBackRow.laid) (((OpenSpec.ofChange Rows.topBackSpec).at F).post enc Tryz.prog Tryz.f4 false true false false) := by
  obtain ⟨places, hx⟩ := topBack_reads os enc
  refine returnsInHanded_of_row (C := Tryz.checked) (s := OpenSpec.ofChange Rows.topBackSpec) own started (by kernel_rfl) Tryz.func4
    (witness_row_atRef (enc := enc) (C := Tryz.checked) false ((World.doorLaid Tryz.prog 136 os).layVars Tryz.prog [("unicode/utf8.first", Rows.laid_unicode_utf8_first)]) #[.int .i64 0, .int .u64 0, .bool false] (start_os os) (by kernel_rfl) (by kernel_rfl) (by kernel_rfl)
      (OpenSpec.preRow_of_cond 8 hx (by kernel_rfl) (fun k hk => by cases hk) (by kernel_rfl) (laid_met os _))) ?_
  intro W base args ds gs before hval hW _ _ _ hL _ _
  exact topBack_contract H enc W base args ds gs before hval hW hL

theorem topBack_said : Rows.TopBackSaid :=
  OpenClaim.holds_of_cond 4 Tryz.f4 rfl rfl rfl rfl rfl rfl rfl ⟨rfl, rfl, rfl, rfl, rfl⟩ rfl rfl rfl rfl rfl (by kernel_rfl) Tryz.func4 (by kernel_rfl)
    (of_decide_eq_true (by kernel_rfl)) (by unfold Func.isWrapper; first | (rw [if_pos (by decide +kernel)]; kernel_rfl) | (rw [if_neg (by decide +kernel)]; exact ⟨rfl, rfl⟩))
    (fun os started H enc _ F => by rw [OpenClaim.pre_eq_preRow]; exact topBack_lifted os started H enc F)

/-- No parameter wants a stand-in; the program's own looks are on. -/
theorem topBack_plain (f : FuncId) (fn : Func) (hf : Tryz.pinned.checked.prog.funcNamed "caliper/calipertop.TopBack" = some f) (hfn : Tryz.pinned.checked.prog.funcs[f]? = some fn) :
    true = Tryz.pinned.checked.prog.looks [] ∧ ∀ (j : Nat) t, fn.params[j]? = some t → Tryz.pinned.checked.prog.wantsStandIn t = false := by
  obtain rfl : f = 4 := Option.some.inj ((show Tryz.prog.funcNamed "caliper/calipertop.TopBack" = some 4 by kernel_rfl).symm.trans hf) |>.symm
  obtain rfl : fn = Tryz.f4 := (Option.some.inj (Tryz.func4.symm.trans hfn)).symm
  refine ⟨by kernel_rfl, fun j t ht => ?_⟩
  rw [Tryz.params4] at ht
  have hm : t ∈ [3, 26, 4] := by simpa using Array.mem_of_getElem? ht
  have hall : ([3, 26, 4].all fun u => !Tryz.prog.wantsStandIn u) = true := by kernel_rfl
  exact (show Tryz.prog.wantsStandIn t = false by simpa using List.all_eq_true.1 hall t hm)

/-- The card. -/
theorem topBack_card : Rows.TopBackCardSaid :=
  Claim7.holds_tied_plain_at .later [] _ _ _ _ topBack_said (fun _ h => by cases h) (by kernel_rfl) (fun _ h => by cases h) topBack_row_tie rfl ⟨rfl, rfl⟩ (by kernel_rfl) rfl topBack_plain (by kernel_rfl)
end Go.Proofs.YtnlpkehllihllaaGreatDoor
