/-
  The document's product over half words: caliperref01.Times.
-/
import Derived.Test.YtfciahfdmnnejaaDoorR1
import Derived.Deep.QuietTactic
import Derived.BigQuiet
namespace Go.Proofs.YtfciahfdmnnejaaDoor
open Go.RowKit Go.Sort

theorem h_take_succ (ws : List Nat) (k : Nat) : H.val (ws.take (k + 1)) = H.val (ws.take k) + H.bp k * ws.getD k 0 := by
  rcases Nat.lt_or_ge k ws.length with h | h
  · exact H.val_take_succ ws k h
  · rw [List.take_of_length_le h, List.take_of_length_le (by omega), List.getD_eq_getElem?_getD, List.getElem?_eq_none h]
    simp
/-- A step of the inner loop. -/
theorem h_inner (o : List Nat) (i m x c v t d : Nat) (wy : List Nat) (hi : i + m < o.length)
    (hv : H.val o + c * H.bp (i + m) = v + x * H.val (wy.take m) * H.bp i) (ht : t + 4294967296 * d = x * wy.getD m 0 + o.getD (i + m) 0 + c) :
    H.val (o.set (i + m) t) + d * H.bp (i + (m + 1)) = v + x * H.val (wy.take (m + 1)) * H.bp i := by
  have h1 := H.val_set o (i + m) t hi
  rw [h_take_succ wy m, Nat.mul_add, Nat.add_mul]
  have e1 : d * H.bp (i + (m + 1)) = 4294967296 * d * H.bp (i + m) := by rw [← Nat.add_assoc, H.bp_succ, ← Nat.mul_assoc, Nat.mul_comm d]
  have e2 : x * (H.bp m * wy.getD m 0) * H.bp i = x * wy.getD m 0 * H.bp (i + m) := by
    rw [H.bp_add, Nat.mul_comm (H.bp m), ← Nat.mul_assoc, Nat.mul_assoc, Nat.mul_comm (H.bp m)]
  rw [e1, e2]
  have e3 : (t + 4294967296 * d) * H.bp (i + m) = (x * wy.getD m 0 + o.getD (i + m) 0 + c) * H.bp (i + m) := by rw [ht]
  rw [Nat.add_mul, Nat.add_mul, Nat.add_mul] at e3
  omega
/-- What a half word's step comes to fits in a word. -/
theorem h_fits {x y o c : Nat} (hx : x < 4294967296) (hy : y < 4294967296) (ho : o < 4294967296) (hc : c < 4294967296) : x * y + o + c < 18446744073709551616 := by
  have := Nat.mul_le_mul (show x ≤ 4294967295 by omega) (show y ≤ 4294967295 by omega)
  omega
theorem h_word {x y o c : Nat} (hx : x < 4294967296) (hy : y < 4294967296) (ho : o < 4294967296) (hc : c < 4294967296) :
    ∃ T : Nat, IntKind.u64.wrap (IntKind.u64.wrap (IntKind.u64.wrap ((x : Int) * (y : Int)) + (o : Int)) + (c : Int)) = (T : Int) ∧ Hid (T = x * y + o + c) ∧ T < 18446744073709551616 := by
  have hf := h_fits hx hy ho hc
  refine ⟨x * y + o + c, ?_, rfl, hf⟩
  rw [← Int.natCast_mul]
  generalize x * y = p at *
  rw [Mul64.wrapN p (by omega), show (p : Int) + (o : Int) = ((p + o : Nat) : Int) by omega, Mul64.wrapN (p + o) (by omega), show ((p + o : Nat) : Int) + (c : Int) = ((p + o + c : Nat) : Int) by omega, Mul64.wrapN (p + o + c) hf]
/-- Behind the last half word but one nothing is carried. -/
theorem h_over {o : List Nat} {i ly c v x y : Nat} (hv : H.val o + c * H.bp (i + (ly + 1)) = v + x * y * H.bp i) (h0 : v < H.bp (i + ly)) (hx : x < 4294967296) (hy : y < H.bp ly) : c = 0 := by
  rcases Nat.eq_zero_or_pos c with h | h
  · exact h
  · have e : H.bp (i + (ly + 1)) = 4294967296 * H.bp (i + ly) := by rw [← Nat.add_assoc, H.bp_succ]
    have h1 : x * y * H.bp i ≤ 4294967295 * H.bp (i + ly) - H.bp i * 0 := by
      rw [H.bp_add, Nat.mul_zero, Nat.sub_zero, Nat.mul_comm (H.bp i), ← Nat.mul_assoc]
      exact Nat.mul_le_mul_right _ (Nat.mul_le_mul (by omega) (Nat.le_of_lt hy))
    have h2 : H.bp (i + (ly + 1)) ≤ c * H.bp (i + (ly + 1)) := Nat.le_mul_of_pos_left _ h
    rw [e] at h2
    rw [e] at hv
    omega
/-- make([]uint64, n). -/
theorem make_row (n : Nat) (hn : n ≤ 17592186044416) (W : World) :
    (Instr.makeSlice 25 (.int .i64 (n : Int)) (.int .i64 (n : Int))).run Tryd.prog W = .ok (.slice (some ⟨W.heap.size, 0, none⟩) n n) (W.alloc (.cells (madeCells #[.int .u64 0] n) 30)) :=
  run_make_row' (P := Tryd.prog) 25 30 (.int .u64 0) 8 Tryd.underlying25 info30 rfl .i64 .i64 n (by omega) (by omega) W

set_option maxHeartbeats 1600000 in
set_option maxRecDepth 100000 in
/-- caliperref01.Times: the product. -/
theorem rtimes_any (va vb : Value) (x y : Nat) (w : World) (ha : HN w va x) (hb : HN w vb y) (hs : H.lw x + H.lw y ≤ 1048576) :
    Calls Tryd.prog 67 #[va, vb] w fun e w' => ∃ v, e = .returned v ∧ HN w' v (x * y) ∧ Below w.heap.size w w' := by
  obtain ⟨A, ca, rfl, hca, hma, hra⟩ := ha
  obtain ⟨B, cb, rfl, hcb, hmb, hrb⟩ := hb
  have hmk := fun W => make_row (H.lw x + H.lw y + 1) (by omega) W
  rw [show ((H.lw x + H.lw y + 1 : Nat) : Int) = (H.lw x : Int) + (H.lw y : Int) + 1 by omega] at hmk
  go_enter Tryd.func67, Tryd.ntmps67
  go_wp2
  have hw0 : WB (w.alloc (.cells (madeCells #[.int .u64 0] (H.lw x + H.lw y + 1)) 30)) w.heap.size (List.replicate (H.lw x + H.lw y + 1) 0) := WB.made w _
  have hb0 : Below w.heap.size w (w.alloc (.cells (madeCells #[.int .u64 0] (H.lw x + H.lw y + 1)) 30)) := (Below.refl _ _).alloc (Nat.le_refl _) _
  clear hmk
  go_loopw [6] (fun i wr => ∃ (k : Nat) (o : List Nat), k ≤ H.lw x ∧ i = .int .i64 k ∧ Hid (WB wr w.heap.size o) ∧ Hid (o.length = H.lw x + H.lw y + 1) ∧ Hid (H.okw o) ∧ Hid (H.val o = H.val ((H.wds x).take k) * y) ∧ Below w.heap.size w wr)
    (fun i _ => H.lw x - (intOf i).toNat)
  case atStart => exact ⟨0, _, Nat.zero_le _, rfl, hw0, List.length_replicate, H.okw_replicate _, Lib.hid (by rw [H.val_replicate]; simp [H.val]), hb0⟩
  case round =>
    obtain ⟨k, o, hk, rfl, ho1, ho2, ho3, ho4, hbe⟩ := hrel
    by_cases hlt : k < H.lw x
    · obtain ⟨ba, oa, rfl, hba, hcella⟩ := hra.at_ (k := k) hlt
      have hxw := H.wds_get x k
      obtain ⟨xi, hxi⟩ : ∃ xi : Nat, xi = (H.wds x).getD k 0 := ⟨_, rfl⟩
      have hcx0 := hcella k hlt
      rw [← hxi] at hcx0 hxw
      have Hxi := Lib.hid hxi
      clear hxi hcella
      obtain ⟨wo, rfl⟩ : ∃ wo : World, wo = wr := ⟨_, rfl⟩
      have Hz : Hid (H.val o < H.bp (k + H.lw y)) := Lib.hid (by
        rw [ho4.out, H.bp_add]
        exact Nat.mul_lt_mul'' (Nat.lt_of_lt_of_le (H.val_lt (H.okw_take (H.okw_wds x) k)) (H.bp_mono (List.length_take_le _ _))) (H.lw_lt y))
      go_wp2
      go_loopw [7, 8] (fun c j wr => ∃ (m cn : Nat) (o' : List Nat), m ≤ H.lw y + 1 ∧ j = .int .i64 m ∧ c = .int .u64 cn ∧ cn < 4294967296 ∧ Hid (WB wr w.heap.size o') ∧ Hid (o'.length = H.lw x + H.lw y + 1) ∧ Hid (H.okw o') ∧
          Hid (H.val o' + cn * H.bp (k + m) = H.val o + xi * H.val ((H.wds y).take m) * H.bp k) ∧ Below w.heap.size w wr)
        (fun _ j _ => H.lw y + 1 - (intOf j).toNat)
      case atStart => exact ⟨0, 0, o, Nat.zero_le _, rfl, rfl, by omega, ho1, ho2, ho3, Lib.hid (by simp [H.val]), hbe⟩
      case round =>
        obtain ⟨m, cn, o', hm, rfl, rfl, hcn, hp1, hp2, hp3, hp5, hbe'⟩ := hrel
        by_cases hlm : m < H.lw y
        · have t1 : decide ((m : Int) < (H.lw y : Int)) = true := by simp; omega
          have t2 : decide (m < H.lw y) = true := by simp; omega
          have hcx : wr.cell? ⟨ba, oa + k, none⟩ = some (U xi) := (hbe'.cell (p := ⟨ba, oa + k, none⟩) hba).trans hcx0
          have hg := fun N => rget_any B (H.lw y) cb (H.wds y) (m : Int) (wr.drewN N) (hrb.below (below_drewN hbe' N)) rfl (by omega) (by omega)
          rw [show ((m : Int)).toNat = m by omega] at hg
          have hyw := H.wds_get y m
          obtain ⟨yi, hyi⟩ : ∃ yi : Nat, yi = (H.wds y).getD m 0 := ⟨_, rfl⟩
          rw [← hyi] at hg hyw
          have Hg := Lib.hid hg
          have Hyi := Lib.hid hyi
          have hco : wr.cell? ⟨w.heap.size, k + m, none⟩ = some (U (o'.getD (k + m) 0)) := hp1.out.cell (by rw [hp2.out]; omega)
          have hfo : wr.frozen? ⟨w.heap.size, k + m, none⟩ = false := hp1.out.frozen _
          have how := H.okw_get hp3.out (k + m)
          obtain ⟨oi, hoi⟩ : ∃ oi : Nat, oi = o'.getD (k + m) 0 := ⟨_, rfl⟩
          rw [← hoi] at hco how
          have Hoi := Lib.hid hoi
          obtain ⟨T, ew, hT, hT64⟩ := h_word hxw hyw how hcn
          clear hoi hyi hg
          go_wp2_with fail
          go_quiet ((go_at_call 82; exact Calls.quiet_of_same ((Hg.out _).mono fun _ _ h => ⟨h.1, h.2.symm⟩)))
          go_wp2
          have em : (T : Int) % 4294967296 = ((T % 4294967296 : Nat) : Int) := by omega
          have ed : (T : Int) / 4294967296 = ((T / 4294967296 : Nat) : Int) := by omega
          have hwb : WB ((wr.drewN nq).setCell ⟨w.heap.size, k + m, none⟩ (.int .u64 ((T : Int) % 4294967296))) w.heap.size (o'.set (k + m) (T % 4294967296)) := by
            rw [em]; exact (hp1.out.drewN nq).set_ _ _
          refine ⟨⟨m + 1, T / 4294967296, o'.set (k + m) (T % 4294967296), by omega, rfl, by rw [ed], by omega, Lib.hid hwb, Lib.hid (by rw [List.length_set]; exact hp2.out), H.okw_set hp3.out _ _ (Nat.mod_lt _ (by omega)), Lib.hid ?_, (below_drewN hbe' nq).setCell (Nat.le_refl _) _⟩, by simp [intOf]; omega⟩
          exact h_inner o' k m xi cn (H.val o) (T % 4294967296) (T / 4294967296) (H.wds y) (by rw [hp2.out]; omega) hp5.out (by rw [← Hyi.out, ← Hoi.out, ← hT.out]; omega)
        · have t1 : decide ((m : Int) < (H.lw y : Int)) = false := by simp; omega
          have t2 : decide (m < H.lw y) = false := by simp; omega
          have et : H.val ((H.wds y).take m) = y := by rw [List.take_of_length_le (show (H.wds y).length ≤ m from by show H.lw y ≤ m; omega), H.val_wds]
          by_cases hc0 : cn = 0
          · subst hc0
            have hv := hp5.out
            rw [et, Nat.zero_mul, Nat.add_zero] at hv
            have Hv := Lib.hid hv
            clear hv et
            go_wp2
            refine ⟨⟨k + 1, o', by omega, rfl, hp1, hp2, hp3, Lib.hid ?_, hbe'⟩, by simp [intOf]; omega⟩
            rw [Hv.out, ho4.out, h_take_succ, ← Hxi.out, Nat.add_mul, Nat.mul_comm (H.bp k), Nat.mul_assoc, Nat.mul_assoc, Nat.mul_comm y]
          · have t3 : decide (0 < (cn : Int)) = true := by simp; omega
            have t4 : decide (0 < cn) = true := by simp; omega
            have hme : m ≤ H.lw y := by
              rcases Nat.lt_or_ge m (H.lw y + 1) with h | h
              · omega
              · have hm' : m = H.lw y + 1 := by omega
                have hv := hp5.out
                rw [et, hm'] at hv
                exact absurd (h_over hv Hz.out hxw (H.lw_lt y)) hc0
            clear et
            have hcx : wr.cell? ⟨ba, oa + k, none⟩ = some (U xi) := (hbe'.cell (p := ⟨ba, oa + k, none⟩) hba).trans hcx0
            have hg := fun N => rget_any B (H.lw y) cb (H.wds y) (m : Int) (wr.drewN N) (hrb.below (below_drewN hbe' N)) rfl (by omega) (by omega)
            rw [show ((m : Int)).toNat = m by omega] at hg
            have hyw := H.wds_get y m
            obtain ⟨yi, hyi⟩ : ∃ yi : Nat, yi = (H.wds y).getD m 0 := ⟨_, rfl⟩
            rw [← hyi] at hg hyw
            have Hg := Lib.hid hg
            have Hyi := Lib.hid hyi
            have hco : wr.cell? ⟨w.heap.size, k + m, none⟩ = some (U (o'.getD (k + m) 0)) := hp1.out.cell (by rw [hp2.out]; omega)
            have hfo : wr.frozen? ⟨w.heap.size, k + m, none⟩ = false := hp1.out.frozen _
            have how := H.okw_get hp3.out (k + m)
            obtain ⟨oi, hoi⟩ : ∃ oi : Nat, oi = o'.getD (k + m) 0 := ⟨_, rfl⟩
            rw [← hoi] at hco how
            have Hoi := Lib.hid hoi
            obtain ⟨T, ew, hT, hT64⟩ := h_word hxw hyw how hcn
            clear hoi hyi hg
            go_wp2_with fail
            go_quiet ((go_at_call 82; exact Calls.quiet_of_same ((Hg.out _).mono fun _ _ h => ⟨h.1, h.2.symm⟩)))
            go_wp2
            have em : (T : Int) % 4294967296 = ((T % 4294967296 : Nat) : Int) := by omega
            have ed : (T : Int) / 4294967296 = ((T / 4294967296 : Nat) : Int) := by omega
            have hwb : WB ((wr.drewN nq).setCell ⟨w.heap.size, k + m, none⟩ (.int .u64 ((T : Int) % 4294967296))) w.heap.size (o'.set (k + m) (T % 4294967296)) := by
              rw [em]; exact (hp1.out.drewN nq).set_ _ _
            refine ⟨⟨m + 1, T / 4294967296, o'.set (k + m) (T % 4294967296), by omega, rfl, by rw [ed], by omega, Lib.hid hwb, Lib.hid (by rw [List.length_set]; exact hp2.out), H.okw_set hp3.out _ _ (Nat.mod_lt _ (by omega)), Lib.hid ?_, (below_drewN hbe' nq).setCell (Nat.le_refl _) _⟩, by simp [intOf]; omega⟩
            exact h_inner o' k m xi cn (H.val o) (T % 4294967296) (T / 4294967296) (H.wds y) (by rw [hp2.out]; omega) hp5.out (by rw [← Hyi.out, ← Hoi.out, ← hT.out]; omega)
    · go_wp2_with (go_at_call 81; refine (rtrim_any _ _ _ o _ ho1.out.rw_ ho2.out (Nat.le_refl _) (by unfold maxLen; omega)).mono ?_; rintro e w' ⟨rfl, rfl⟩)
      go_ret
      refine ⟨_, rfl, ?_, hbe⟩
      have hkk : k = H.lw x := by omega
      have e := ho4.out
      rw [hkk, H.take_wds, H.val_wds] at e
      rw [← e]
      exact hn_of_rw ho1.out.rw_ ho2.out ho3.out (Nat.le_refl _) (by unfold maxLen; omega)
end Go.Proofs.YtfciahfdmnnejaaDoor
