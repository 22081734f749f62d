/-
  The walk of nat.Mul.
-/
import Derived.Test.YtfciahfdmnnejaaDoorMulP
import Derived.Test.YtfciahfdmnnejaaDoorT1
import Derived.Deep.OwnRows
namespace Go.Proofs.YtfciahfdmnnejaaDoor
open Go.RowKit

theorem info30 : (Tryd.prog.info? 30).map (fun i => (i.zero, i.size, i.bytes)) = some (some (.int .u64 0), 1, 8) := by kernel_rfl
/-- make([]uint64, n) at api.Nat. -/
theorem make_nat (n : Nat) (hn : n ≤ 17592186044416) (W : World) :
    (Instr.makeSlice 26 (.int .i64 (n : Int)) (.int .i64 (n : Int))).run Tryd.prog W = .ok (.slice (some ⟨W.heap.size, 0, none⟩) n n) (W.alloc (.cells (madeCells #[.int .u64 0] n) 30)) :=
  run_make_row' (P := Tryd.prog) 26 30 (.int .u64 0) 8 Tryd.underlying26 info30 rfl .i64 .i64 n (by omega) (by omega) W

/-- What trim leaves of a block of words is the number that they are worth. -/
theorem num_of_wb {w : World} {g n : Nat} {o : List Nat} (h : WB w g o) (hl : o.length = n) (ho : okw o) (hn : n ≤ maxLen) : Num w (.slice (some ⟨g, 0, none⟩) (tl o n) (tl o n)) (val o) := by
  subst hl
  have e := tl_len ho
  refine ⟨some ⟨g, 0, none⟩, tl o o.length, by rw [e]; rfl, by rw [e]; exact Nat.le_refl _, ?_, ?_⟩
  · exact Nat.le_trans (tl_le _ _) hn
  · rw [← take_tl ho]; exact h.rw_.take _

set_option maxHeartbeats 1600000 in
set_option maxRecDepth 100000 in
/-- nat.Mul: the product. -/
theorem mul_any (va vb : Value) (x y : Nat) (w : World) (ha : Num w va x) (hb : Num w vb y) (hs : lw x + lw y ≤ 17592186044416) :
    Calls Tryd.prog 24 #[va, vb] w fun e w' => ∃ v, e = .returned v ∧ Num w' v (x * y) ∧ Below w.heap.size w w' := by
  obtain ⟨A, ca, rfl, hca, hma, hra⟩ := ha
  obtain ⟨B, cb, rfl, hcb, hmb, hrb⟩ := hb
  have hmk := fun W => make_nat (lw x + lw y) hs W
  rw [Int.natCast_add] at hmk
  go_enter Tryd.func24, Tryd.ntmps24
  go_wp2
  have hw0 : WB (w.alloc (.cells (madeCells #[.int .u64 0] (lw x + lw y)) 30)) w.heap.size (List.replicate (lw x + lw y) 0) := WB.made w _
  have hb0 : Below w.heap.size w (w.alloc (.cells (madeCells #[.int .u64 0] (lw x + lw y)) 30)) := (Below.refl _ _).alloc (Nat.le_refl _) _
  clear hmk
  go_loopw [22] (fun i wr => ∃ (k : Nat) (o : List Nat), k ≤ lw x ∧ i = .int .i64 k ∧ Hid (WB wr w.heap.size o) ∧ Hid (o.length = lw x + lw y) ∧ Hid (okw o) ∧ Hid (val o = val ((wds x).take k) * y) ∧ Below w.heap.size w wr)
    (fun i _ => lw x - (intOf i).toNat)
  case atStart => exact ⟨0, _, Nat.zero_le _, rfl, hw0, List.length_replicate, okw_replicate _, Lib.hid (by rw [val_replicate]; simp [val]), hb0⟩
  case round =>
    obtain ⟨k, o, hk, rfl, ho1, ho2, ho3, ho4, hbe⟩ := hrel
    by_cases hlt : k < lw x
    · obtain ⟨ba, oa, rfl, hba, hcella⟩ := hra.at_ (k := k) hlt
      have hcx : wr.cell? ⟨ba, oa + k, none⟩ = some (U ((wds x).getD k 0)) := (hbe.cell (p := ⟨ba, oa + k, none⟩) hba).trans (hcella k hlt)
      have hxw := wds_get x k
      obtain ⟨xi, hxi⟩ : ∃ xi : Nat, xi = (wds x).getD k 0 := ⟨_, rfl⟩
      rw [← hxi] at hcx hxw
      have Hxi := Lib.hid hxi
      clear hxi hcella
      obtain ⟨wo, rfl⟩ : ∃ wo : World, wo = wr := ⟨_, rfl⟩
      have Hz : Hid (∀ t, k + lw y ≤ t → o.getD t 0 = 0) := Lib.hid (fun t ht => val_small o (k + lw y) (by
        rw [ho4.out, bp_add]
        exact Nat.mul_lt_mul'' (Nat.lt_of_lt_of_le (val_lt (okw_take (okw_wds x) k)) (bp_mono (List.length_take_le _ _))) (lw_lt y)) t ht)
      go_wp2
      go_loopw [8, 29] (fun c j wr => ∃ (m cn : Nat) (o' : List Nat), m ≤ lw y ∧ j = .int .i64 m ∧ c = .int .u64 cn ∧ cn < 18446744073709551616 ∧ Hid (WB wr w.heap.size o') ∧ Hid (o'.length = lw x + lw y) ∧ Hid (okw o') ∧
          Hid (∀ t, k + lw y ≤ t → o'.getD t 0 = 0) ∧ Hid (val o' + cn * bp (k + m) = val o + xi * val ((wds y).take m) * bp k) ∧ Below w.heap.size w wr)
        (fun _ j _ => lw y - (intOf j).toNat)
      case atStart => exact ⟨0, 0, o, Nat.zero_le _, rfl, rfl, by omega, ho1, ho2, ho3, Hz, Lib.hid (by simp [val]), hbe⟩
      case round =>
        obtain ⟨m, cn, o', hm, rfl, rfl, hcn, hp1, hp2, hp3, hp4, hp5, hbe'⟩ := hrel
        by_cases hlm : m < lw y
        · obtain ⟨bb, ob, rfl, hbb, hcellb⟩ := hrb.at_ (k := m) hlm
          have hcy : wr.cell? ⟨bb, ob + m, none⟩ = some (U ((wds y).getD m 0)) := (hbe'.cell (p := ⟨bb, ob + m, none⟩) hbb).trans (hcellb m hlm)
          have hyw := wds_get y m
          obtain ⟨yi, hyi⟩ : ∃ yi : Nat, yi = (wds y).getD m 0 := ⟨_, rfl⟩
          rw [← hyi] at hcy hyw
          have Hyi := Lib.hid hyi
          have hco : wr.cell? ⟨w.heap.size, k + m, none⟩ = some (U (o'.getD (k + m) 0)) := hp1.out.cell (by rw [hp2.out]; omega)
          have hfo : wr.frozen? ⟨w.heap.size, k + m, none⟩ = false := hp1.out.frozen _
          have how := okw_get hp3.out (k + m)
          obtain ⟨oi, hoi⟩ : ∃ oi : Nat, oi = o'.getD (k + m) 0 := ⟨_, rfl⟩
          rw [← hoi] at hco how
          have Hoi := Lib.hid hoi
          clear hoi hyi hcellb
          obtain ⟨t, d, ht, hd, htd, et, ed, b1, b2, b3, b4, b5⟩ := mul_word xi yi cn oi hxw hyw hcn how
          have ha1 := fun W => run_add64' (mullI xi yi) cn 0 b1 (by omega) (by omega) (by omega) W
          have ha2 := fun W => run_add64' oi (sumI (mullI xi yi) cn 0) 0 (by omega) b2 (by omega) (by omega) W
          rw [et] at ha2
          have Het := Lib.hid et
          have Hed := Lib.hid ed
          clear et ed
          go_wp2_with (go_at_call 46; refine (mul64_any _ _ (by omega) (by omega) (by omega) (by omega) _).mono ?_; rintro e w' ⟨rfl, rfl⟩)
          go_roundw
          case rel =>
            refine ⟨m + 1, d, o'.set (k + m) t, by omega, by go_num, ?_, hd, hp1.out.set_ _ _, Lib.hid (by rw [List.length_set]; exact hp2.out), okw_set hp3.out _ _ ht, Lib.hid fun j hj => ?_, Lib.hid ?_, hbe'.setCell (Nat.le_refl _) _⟩
            · exact congrArg (Value.int .u64) ((congrArg IntKind.u64.wrap Hed.out).trans (Mul64.wrapN d hd))
            · rw [List.getD_eq_getElem?_getD, List.getElem?_set_ne (by omega), ← List.getD_eq_getElem?_getD]; exact hp4.out j hj
            · exact mul_inner o' k m xi cn (val o) t d (wds y) hlm (by rw [hp2.out]; omega) hp5.out (by rw [← Hyi.out, ← Hoi.out]; exact htd)
          case measure => simp [intOf]; omega
        · obtain rfl : m = lw y := by omega
          have hco : wr.cell? ⟨w.heap.size, k + lw y, none⟩ = some (U (o'.getD (k + lw y) 0)) := hp1.out.cell (by rw [hp2.out]; omega)
          have hfo : wr.frozen? ⟨w.heap.size, k + lw y, none⟩ = false := hp1.out.frozen _
          go_wp2
          go_roundw
          case rel =>
            refine ⟨k + 1, o'.set (k + lw y) cn, by omega, by go_num, hp1.out.set_ _ _, Lib.hid (by rw [List.length_set]; exact hp2.out), okw_set hp3.out _ _ hcn, Lib.hid ?_, hbe'.setCell (Nat.le_refl _) _⟩
            rw [mul_outer o o' k (lw y) xi y cn (by rw [hp2.out]; omega) (hp4.out _ (Nat.le_refl _)) (by rw [hp5.out, take_wds, val_wds]), ho4.out, val_take_succ _ _ hlt, ← Hxi.out, Nat.add_mul, Nat.mul_comm xi]
          case measure => simp [intOf]; omega
    · go_wp2_with (go_at_call 35; refine (trim_any _ _ _ o _ ho1.out.rw_ ho2.out (Nat.le_refl _) (by unfold maxLen; omega)).mono ?_; rintro e w' ⟨rfl, rfl⟩)
      go_ret
      refine ⟨_, rfl, ?_, hbe⟩
      have hkk : k = lw x := by omega
      have e := ho4.out
      rw [hkk, take_wds, val_wds] at e
      rw [← e]
      exact num_of_wb ho1.out ho2.out ho3.out (by unfold maxLen; omega)
end Go.Proofs.YtfciahfdmnnejaaDoor
