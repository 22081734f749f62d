/-
  The walks of slices.Clone at words, nat.Norm, nat.Of.
-/
import Derived.Test.YtfciahfdmnnejaaDoorMul
namespace Go.Proofs.YtfciahfdmnnejaaDoor
open Go.RowKit

/-- What the call owns, read as words. -/
theorem rw_of_owns {w : World} {base n : Nat} {v : Value} {ws : List Nat} (h : w.ownsRow base 30 1 v n (ws.map U)) : ∃ A c, v = .slice A n c ∧ n ≤ c ∧ c ≤ maxLen ∧ ws.length = n ∧ RW w A ws := by
  have hl : ws.length = n := by simpa using h.1
  rcases h.2 with ⟨rfl, rfl⟩ | ⟨g, cap, cur, rfl, hb, hh, hn, hm, hc, ht⟩
  · exact ⟨none, 0, rfl, Nat.le_refl _, Nat.zero_le _, hl, .inl (List.length_eq_zero_iff.1 hl)⟩
  · refine ⟨_, cap, rfl, hn, hm, hl, .inr ⟨g, 0, rfl, Blk.lt hh, fun j hj => ?_⟩⟩
    rw [Nat.zero_add, Blk.cell (t := 30) hh]
    have e : (cur.toList.take (n * 1))[j]? = (ws.map U)[j]? := by rw [ht]
    rw [List.getElem?_take, if_pos (by omega), List.getElem?_map, List.getElem?_eq_getElem hj] at e
    rw [List.getD_eq_getElem?_getD, List.getElem?_eq_getElem hj]
    simpa using e

set_option maxHeartbeats 1000000 in
set_option maxRecDepth 100000 in
/-- slices.Clone at api.Nat. -/
theorem clone_any (A : Option Addr) (n c : Nat) (ws : List Nat) (w : World) (hr : RW w A ws) (hl : ws.length = n) (hs : n ≤ 17592186044416) :
    Calls Tryd.prog 49 #[.slice A n c] w fun e w' => ∃ A' c', e = .returned (.slice A' n c') ∧ n ≤ c' ∧ c' ≤ maxLen ∧ RW w' A' ws ∧ Below w.heap.size w w' := by
  obtain ⟨i0, hi, hz0, hz1, hz2⟩ := info_parts info30
  have q26 : ∀ (w : World) (a : Option Addr) (n c n' c' : Nat), (binOp .eql 26 (.slice a n c) (.slice none n' c')).run Tryd.prog w = .ok (.bool a.isNone) w := fun w a n c n' c' => Lib.run_eql_slice_nil w _ _ a n c n' c' Tryd.underlying26
  have Hl := Lib.hid hl
  clear hl
  rcases A with _ | ad
  · have hnil : ws = [] := by
      rcases hr with h | ⟨b, off, e, _⟩
      · exact h
      · cases e
    have Hnil := Lib.hid hnil
    clear hnil
    go_enter Tryd.func49, Tryd.ntmps49
    go_wp2
    go_ret
    have h0 : n = 0 := by have := Hl.out; rw [Hnil.out] at this; exact this.symm
    subst h0
    exact ⟨none, 0, rfl, Nat.le_refl _, Nat.zero_le _, .inl Hnil.out, Below.refl _ _⟩
  · have Hr := Lib.hid hr
    clear hr
    go_enter Tryd.func49, Tryd.ntmps49
    go_wp2_with (at_builtin; refine wpList_append_own _ rfl _ _ 26 rfl w.heap.size 30 i0 (.int .u64 0) 1 8 Tryd.underlying26 hi hz0 hz1 hz2 rfl (by decide) _ _ _ rfl (World.ownsRow_made w #[] 0 (Nat.le_refl _) (Nat.zero_le _) rfl) ad n c (ws.map U) rfl ?qc1 ?qc2 ?qc3 ?qc4 ?qc5 ?qc6 ?_)
    case qc1 => rw [List.length_map, Hl.out, Nat.mul_one]
    case qc2 =>
      intro j u hj
      have hjl : j < ws.length := by
        have := (List.getElem?_eq_some_iff.1 hj).1
        simpa using this
      obtain ⟨b, off, e, hb, hc⟩ := Hr.out.at_ hjl
      obtain rfl : ad = ⟨b, off, none⟩ := Option.some.inj e
      rw [Addr.add_lit]
      refine Lib.cell?_alloc_some _ ?_
      rw [hc j hjl]
      rw [List.getElem?_map, List.getElem?_eq_getElem hjl] at hj
      rw [List.getD_eq_getElem?_getD, List.getElem?_eq_getElem hjl]
      exact hj
    case qc3 => intro u hu; obtain ⟨x, _, rfl⟩ := List.mem_map.1 hu; rfl
    case qc4 => unfold maxLen; omega
    case qc5 => omega
    case qc6 => simp
    intro v' w1 hown hgrow _
    obtain ⟨A', c', rfl, h1, h2, _, h4⟩ := rw_of_owns (n := n) (ws := ws) (by simpa using hown)
    have Hown := Lib.hid hown
    clear hown
    go_wp2
    go_ret
    exact ⟨A', c', rfl, h1, h2, h4, ((Below.refl _ w).alloc (Nat.le_refl _) _).grown hgrow (by simp) (by intro k hk; simp [Value.ownBlock] at hk; omega)⟩

set_option maxHeartbeats 400000 in
/-- nat.Norm. -/
theorem norm_any (A : Option Addr) (n c : Nat) (ws : List Nat) (w : World) (hr : RW w A ws) (hl : ws.length = n) (hc : n ≤ c) (hm : c ≤ maxLen) (ho : okw ws) (hs : n ≤ 17592186044416) :
    Calls Tryd.prog 28 #[.slice A n c] w fun e w' => ∃ v, e = .returned v ∧ Num w' v (val ws) ∧ Below w.heap.size w w' := by
  have ht := tl_le ws n
  have Hl := Lib.hid hl
  have hlt : (ws.take (tl ws n)).length = tl ws n := by rw [List.length_take, hl]; omega
  have Hlt := Lib.hid hlt
  have hv : ws.take (tl ws n) = wds (val ws) := by have := take_tl ho; rwa [hl] at this
  have Hv := Lib.hid hv
  clear hl hlt hv
  go_enter Tryd.func28, Tryd.ntmps28
  go_wp2_with (first
    | (go_at_call 35; refine (trim_any _ _ _ ws _ hr Hl.out hc hm).mono ?_; rintro e w' ⟨rfl, rfl⟩)
    | (go_at_call 49; refine (clone_any _ _ _ _ _ (hr.take _) Hlt.out (by omega)).mono ?_; rintro e w' ⟨A', c', rfl, h1, h2, h3, h4⟩))
  go_ret
  rw [Hv.out] at h3
  have e : lw (val ws) = tl ws n := by rw [← Hlt.out, Hv.out]; rfl
  exact ⟨_, rfl, ⟨A', c', by rw [e]; rfl, by rw [e]; exact h1, h2, h3⟩, h4⟩

set_option maxHeartbeats 400000 in
/-- nat.Of. -/
theorem of_any (x : Nat) (w : World) (hx : x < 18446744073709551616) :
    Calls Tryd.prog 43 #[.int .u64 x] w fun e w' => ∃ v, e = .returned v ∧ Num w' v x ∧ Below w.heap.size w w' := by
  have hw : WB (w.alloc (.cells #[.int .u64 x] 30)) w.heap.size [x] := Blk.new w 30 _
  have hb : Below w.heap.size w (w.alloc (.cells #[.int .u64 x] 30)) := (Below.refl _ _).alloc (Nat.le_refl _) _
  have Hw := Lib.hid hw
  clear hw
  go_enter Tryd.func43, Tryd.ntmps43
  go_wp2_with (go_at_call 28; go_must (refine (norm_any (some ⟨w.heap.size, 0, none⟩) 1 1 [x] _ Hw.out.rw_ rfl (Nat.le_refl _) (by unfold maxLen; omega) (okw_cons hx okw_nil) (by omega)).mono ?_); rintro e w' ⟨v, rfl, h1, h2⟩)
  go_ret
  have e : val [x] = x := by simp [val]
  rw [e] at h1
  exact ⟨v, rfl, h1, hb.trans (h2.mono (by simp))⟩
end Go.Proofs.YtfciahfdmnnejaaDoor
