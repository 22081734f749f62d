/-
  A part of the proofs that calipertop.TopBack, TopFloats and TopNearest return true for every input and leave it as it was: part 46 of 47.
-/
import Derived.Test.YtnlpkehllihllaaGreatDoorGt31
import Derived.Test.YtnlpkehllihllaaGreatDoorGt45
/-
  calipertop.TopNearest: the walk's contract lifted to the row, and the card: the law returns true for every input.
-/
namespace Go.Proofs.YtnlpkehllihllaaGreatDoor
open Go.ChangeShapes Go.WideShapes Go.ChangeAt Go.RowKit

theorem cU64' : Tryz.prog.cellsOf 26 = 1 := by kernel_rfl
theorem cNat' : Tryz.prog.cellsOf 23 = 1 := by kernel_rfl
theorem cBool' : Tryz.prog.cellsOf 4 = 1 := by kernel_rfl
theorem cInt' : Tryz.prog.cellsOf 3 = 1 := by kernel_rfl
theorem cEx' : Tryz.prog.cellsOf 25 = 4 := by kernel_rfl
/-- The words of a slice that came in. -/
theorem rw_of_ints {W : World} {a : Addr} {len cap : Nat} {zs : List Int} (hl : len ≤ cap) (hz : zs.length = cap) (hc : ∀ i, i < zs.length → W.cell? (a.add i) = some (.int .u64 (zs.getD i 0))) (hw : ∀ n ∈ zs, (Lit.int .u64 n).wf = true) :
    ∃ ws : List Nat, RW W (some a) ws ∧ ws.length = len ∧ okw ws := by
  have hwf : ∀ n ∈ zs, ∃ p : Nat, n = p ∧ p < 18446744073709551616 := fun n hn => u64_nat (hw n hn)
  refine ⟨(zs.take len).map Int.toNat, ?_, by rw [List.length_map, List.length_take]; omega, ?_⟩
  · by_cases h0 : len = 0
    · left; rw [h0]; rfl
    · right
      have hfirst := hc 0 (by omega)
      rw [show a.add 0 = a from by simp [Addr.add]] at hfirst
      obtain ⟨b, off, spot⟩ := a
      have hb := World.block_lt_of_cell? _ _ hfirst
      have hs : spot = none := by
        cases spot with
        | none => rfl
        | some x =>
          exfalso
          unfold World.cell? at hfirst
          split at hfirst
          · simp at hfirst
          · cases hfirst
      subst hs
      refine ⟨b, off, rfl, hb, fun j hj => ?_⟩
      rw [List.length_map, List.length_take] at hj
      have hcj := hc j (by omega)
      rw [Addr.add_lit] at hcj
      rw [hcj]
      have hm : zs.getD j 0 ∈ zs := by
        rw [List.getD_eq_getElem?_getD, List.getElem?_eq_getElem (by omega)]
        exact List.getElem_mem _
      obtain ⟨p, hp, _⟩ := hwf _ hm
      have e : ((zs.take len).map Int.toNat).getD j 0 = (zs.getD j 0).toNat := by
        rw [List.getD_eq_getElem?_getD, List.getElem?_map, List.getElem?_take, if_pos (by omega), List.getD_eq_getElem?_getD, List.getElem?_eq_getElem (by omega)]
        rfl
      rw [e, hp]
      rfl
  · intro x hx
    obtain ⟨z, hz1, rfl⟩ := List.mem_map.1 hx
    obtain ⟨p, rfl, hp⟩ := hwf z (List.mem_of_mem_take hz1)
    simpa using hp
set_option maxRecDepth 100000 in
/-- An api.Exact that came in, opened. -/
theorem open_exact {H : Type} {enc : TypeId × Value → H} {W : World} {base : Nat} {v : Value} {d : DataW H} {p : List MemPlace} (hv : Value.okWide Tryz.prog W .any base 25 v)
    (h : DataW.Trod enc Tryz.prog W 0 (fun _ => true) true 25 v d p) : ∃ (g : Bool) (A : Option Addr) (L c : Nat) (t f : Int) (ws : List Nat), v = .agg #[.bool g, .slice A L c, .int .i64 t, .int .i64 f] ∧ RW W A ws ∧ ws.length = L ∧ okw ws ∧ L ≤ c ∧ c ≤ maxLen := by
  obtain ⟨cs, rfl, hcs⟩ := okWide_struct Tryz.underlying25 hv
  obtain ⟨fuel, h⟩ := h
  obtain ⟨xs, m, _, hx, hl, hlen, hf⟩ := DataW.trod_struct Tryz.underlying25 h
  rw [cEx'] at hcs
  obtain ⟨c0, c1, c2, c3, rfl⟩ : ∃ c0 c1 c2 c3, cs = #[c0, c1, c2, c3] := by
    obtain ⟨l⟩ := cs
    match l, hcs with
    | [c0, c1, c2, c3], _ => exact ⟨c0, c1, c2, c3, rfl⟩
  match xs, hlen with
  | [y0, y1, y2, y3], _ =>
  have g0 := hf 0 _ rfl
  have g1 := hf 1 _ rfl
  have g2 := hf 2 _ rfl
  have g3 := hf 3 _ rfl
  simp [Value.cells, cInt', cBool', cNat'] at g0 g1 g2 g3
  obtain ⟨g, e0, _⟩ := DataW.trod_bool Tryz.underlying4 (x := y0) g0
  obtain ⟨t, e2, _, _⟩ := DataW.trod_int Tryz.underlying3 (x := y2) g2
  obtain ⟨f, e3, _, _⟩ := DataW.trod_int Tryz.underlying3 (x := y3) g3
  simp at e0 e2 e3
  subst e0 e2 e3
  rcases open_ints Tryz.underlying23 Tryz.underlying26 cU64' g1 with ⟨e1, _⟩ | ⟨a, len, cap, zs, e1, _, hl1, hm1, hz1, _, hc1, hw1⟩
  · simp at e1
    subst e1
    exact ⟨g, none, 0, 0, t, f, [], rfl, .inl rfl, rfl, okw_nil, Nat.le_refl _, Nat.zero_le _⟩
  · simp at e1
    subst e1
    rw [if_pos rfl] at hz1
    obtain ⟨ws, r1, r2, r3⟩ := rw_of_ints hl1 hz1 hc1 hw1
    exact ⟨g, some a, len, cap, t, f, ws, rfl, r1, r2, r3, hl1, hm1⟩

set_option maxRecDepth 100000 in
/-- What the walk gives, for every argument and every world that holds the tables. -/
theorem topNearest_contract (H : Type) (enc : TypeId × Value → H) (W : World) (base : Nat) (args : Array Value) (ds gs : List (DataW H)) (before : List MemPlace)
    (hval : ∀ (j : Nat) t v, Tryz.f3.params[j]? = some t → args[j]? = some v → Value.okWide Tryz.prog W .any base t v)
    (hW : DataW.Whole enc Tryz.prog Tryz.f3.params.toList Rows.topNearestSpec.vars false W args.toList ds gs before) (hL : laidMetH Tryz.prog Rows.topNearestRow.laid W) :
    Calls Tryz.prog 3 args W fun e W' => ∃ v, e = .returned v ∧ Rows.topNearestSpec.post enc Tryz.prog Tryz.f3 false true false false W args v W' := by
  have hT := row_tab hL
  have hE := row_env hL
  have hP := row_ptab hL
  clear hL
  have hW' := hW
  obtain ⟨p, q, hA0, hV, rfl, hfz, hnd⟩ := hW
  have hA : DataW.TrodAll enc Tryz.prog W 0 (fun _ => true) true Tryz.f3.params.toList args.toList ds p := hA0
  rw [Tryz.params3] at hA hval
  obtain ⟨v0, vs0, d0, ds0, p0, q0, hargs0, rfl, rfl, h0, r0⟩ := trodAll_cons hA
  obtain ⟨v1, vs1, d1, ds1, p1, q1, hargs1, rfl, rfl, h1, r1⟩ := trodAll_cons r0
  obtain ⟨v2, vs2, d2, ds2, p2, q2, hargs2, rfl, rfl, h2, r2⟩ := trodAll_cons r1
  obtain ⟨hargsN, rfl, rfl⟩ := trodAll_nil r2
  obtain rfl : args = #[v0, v1, v2] := by cases args; simp_all
  obtain ⟨rfl, rfl⟩ := trodVars_none hV
  have x0 := hval 0 3 v0 (by simp) (by simp)
  obtain ⟨n0, rfl, rfl, rfl, w0⟩ := open_int Tryz.underlying3 x0 h0
  have x2 := hval 2 26 v2 (by simp) (by simp)
  obtain ⟨n2, rfl, rfl, rfl, w2⟩ := open_int Tryz.underlying26 x2 h2
  have x1 := hval 1 25 v1 (by simp) (by simp)
  have h1k := h1
  obtain ⟨g, A, L, c, t, f, ws, rfl, hr, hl, ho, hc, hm⟩ := open_exact x1 h1
  clear hA0
  simp only [List.append_nil, List.nil_append] at hW'
  obtain ⟨np, rfl, hp⟩ := u64_nat w2
  refine (near_walk n0 g A L c ws t f np W hr hl ho hc hm hp hE hT).mono fun e W' ⟨he, hg⟩ => ?_
  subst he
  have hlt : ∀ p ∈ p1, p.block < W.heap.size := fun p hp => hW'.lt p hp
  exact ⟨_, rfl, post_held (pa := p1) (pv := []) hW' (fun _ _ _ => trodAll_cons_mk (shut_bool Tryz.underlying4 _) trodAll_mk0) (fun sp hsp => by
      have k0 := trodAll_cons_mk (shut_int (enc := enc) (P := Tryz.prog) (w := W') (base := 0) (spare := sp) (held := true) Tryz.underlying3 w0) (trodAll_cons_mk (Go.WideElems.Trod_stays laid_out (by kernel_rfl) (of_decide_eq_true (by kernel_rfl)) h1k (fun x hx => hg.same (hlt x hx)) (fun x hx => hsp x hx)) (trodAll_cons_mk (shut_int Tryz.underlying26 w2) trodAll_mk0))
      simp only [List.nil_append, List.append_nil] at k0
      exact k0) (fun _ _ => rfl) (by simp)
    hg (ok_one (by kernel_rfl) rfl (okWide_bool_mk Tryz.underlying4 _))⟩

set_option maxRecDepth 100000 in
theorem topNearest_reads (os : Os) {H : Type} (enc : TypeId × Value → H) : ∃ places, DataW.whole enc Tryz.prog (((World.doorLaid Tryz.prog 136 os).layVars Tryz.prog [("unicode/utf8.first", Rows.laid_unicode_utf8_first)]).forCall (fun _ _ => 0) ⟨#[], #[.int .i64 0, .agg #[.bool false, .slice none 0 0, .int .i64 0, .int .i64 0], .int .u64 0], []⟩).memory Tryz.f3.params.toList Rows.topNearestSpec.vars false (#[.int .i64 0, .agg #[.bool false, .slice none 0 0, .int .i64 0, .int .i64 0], .int .u64 0] : Array Value).toList 8 = some ([.lit (.int .i64 0), .agg [.lit (.bool false), .nil, .lit (.int .i64 0), .lit (.int .i64 0)], .lit (.int .u64 0)], [], places) :=
  ⟨[], by kernel_rfl⟩

set_option maxRecDepth 100000 in
/-- The row's step. -/
theorem topNearest_lifted (os : Os) (started : os.Started) (H : Type) (enc : TypeId × Value → H) (F : Stop.Interp) :
    ReturnsInHanded {} Tryz.checked os 3 .any ((OpenSpec.ofChange Rows.topNearestSpec).preRow enc Tryz.prog Tryz.f3 Rows.topNearestRow.domain false Rows.topNearestRow.laid) (((OpenSpec.ofChange Rows.topNearestSpec).at F).post enc Tryz.prog Tryz.f3 false true false false) := by
  obtain ⟨places, hx⟩ := topNearest_reads os enc
  refine returnsInHanded_of_row (C := Tryz.checked) (s := OpenSpec.ofChange Rows.topNearestSpec) own started (by kernel_rfl) Tryz.func3
    (witness_row_atRef (enc := enc) (C := Tryz.checked) false ((World.doorLaid Tryz.prog 136 os).layVars Tryz.prog [("unicode/utf8.first", Rows.laid_unicode_utf8_first)]) #[.int .i64 0, .agg #[.bool false, .slice none 0 0, .int .i64 0, .int .i64 0], .int .u64 0] (start_os os) (by kernel_rfl) (by kernel_rfl) (by kernel_rfl)
      (OpenSpec.preRow_of_cond 8 hx (by kernel_rfl) (fun k hk => by cases hk) (by kernel_rfl) (laid_met os _))) ?_
  intro W base args ds gs before hval hW _ _ _ hL _ _
  exact topNearest_contract H enc W base args ds gs before hval hW hL

theorem topNearest_said : Rows.TopNearestSaid :=
  OpenClaim.holds_of_cond 3 Tryz.f3 rfl rfl rfl rfl rfl rfl rfl ⟨rfl, rfl, rfl, rfl, rfl⟩ rfl rfl rfl rfl rfl (by kernel_rfl) Tryz.func3 (by kernel_rfl)
    (of_decide_eq_true (by kernel_rfl)) (by unfold Func.isWrapper; first | (rw [if_pos (by decide +kernel)]; kernel_rfl) | (rw [if_neg (by decide +kernel)]; exact ⟨rfl, rfl⟩))
    (fun os started H enc _ F => by rw [OpenClaim.pre_eq_preRow]; exact topNearest_lifted os started H enc F)

/-- No parameter wants a stand-in; the program's own looks are on. -/
theorem topNearest_plain (f : FuncId) (fn : Func) (hf : Tryz.pinned.checked.prog.funcNamed "caliper/calipertop.TopNearest" = some f) (hfn : Tryz.pinned.checked.prog.funcs[f]? = some fn) :
    true = Tryz.pinned.checked.prog.looks [] ∧ ∀ (j : Nat) t, fn.params[j]? = some t → Tryz.pinned.checked.prog.wantsStandIn t = false := by
  obtain rfl : f = 3 := Option.some.inj ((show Tryz.prog.funcNamed "caliper/calipertop.TopNearest" = some 3 by kernel_rfl).symm.trans hf) |>.symm
  obtain rfl : fn = Tryz.f3 := (Option.some.inj (Tryz.func3.symm.trans hfn)).symm
  refine ⟨by kernel_rfl, fun j t ht => ?_⟩
  rw [Tryz.params3] at ht
  have hm : t ∈ [3, 25, 26] := by simpa using Array.mem_of_getElem? ht
  have hall : ([3, 25, 26].all fun u => !Tryz.prog.wantsStandIn u) = true := by kernel_rfl
  exact (show Tryz.prog.wantsStandIn t = false by simpa using List.all_eq_true.1 hall t hm)

/-- The card. -/
theorem topNearest_card : Rows.TopNearestCardSaid :=
  Claim7.holds_tied_plain_at .later [] _ _ _ _ topNearest_said (fun _ h => by cases h) (by kernel_rfl) (fun _ h => by cases h) topNearest_row_tie rfl ⟨rfl, rfl⟩ (by kernel_rfl) rfl topNearest_plain (by kernel_rfl)
end Go.Proofs.YtnlpkehllihllaaGreatDoor
