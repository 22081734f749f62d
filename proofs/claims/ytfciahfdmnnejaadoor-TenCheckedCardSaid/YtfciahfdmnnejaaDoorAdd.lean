/-
  The walk of nat.Add.
-/
import Derived.Test.YtfciahfdmnnejaaDoorDigP
import Derived.Test.YtfciahfdmnnejaaDoorShl
namespace Go.Proofs.YtfciahfdmnnejaaDoor
open Go.RowKit

theorem take_add (ws : List Nat) (i : Nat) : val (ws.take (i + 1)) = val (ws.take i) + bp i * ws.getD i 0 := by
  rcases Nat.lt_or_ge i ws.length with h | h
  · exact val_take_succ ws i h
  · rw [List.take_of_length_le (by omega), List.take_of_length_le (by omega), List.getD_eq_getElem?_getD, List.getElem?_eq_none h]; simp
theorem add_step {o wx wy : List Nat} {k c t d : Nat} (hk : k < o.length) (hz : o.getD k 0 = 0) (hv : val o + c * bp k = val (wx.take k) + val (wy.take k)) (ht : t + 18446744073709551616 * d = wx.getD k 0 + wy.getD k 0 + c) :
    val (o.set k t) + d * bp (k + 1) = val (wx.take (k + 1)) + val (wy.take (k + 1)) := by
  have h1 := val_set o k t hk
  rw [hz, Nat.zero_mul, Nat.add_zero] at h1
  rw [take_add, take_add, h1, bp_succ]
  have e := congrArg (fun z => bp k * z) ht
  simp only [Nat.mul_add] at e
  have e1 : d * (18446744073709551616 * bp k) = bp k * (18446744073709551616 * d) := by rw [Nat.mul_comm d, Nat.mul_assoc, Nat.mul_left_comm]
  have e2 : t * bp k = bp k * t := Nat.mul_comm ..
  have e3 : c * bp k = bp k * c := Nat.mul_comm ..
  omega

set_option maxHeartbeats 1600000 in
set_option maxRecDepth 100000 in
/-- nat.Add: the sum. -/
theorem add_any (va vb : Value) (x y : Nat) (w : World) (ha : Num w va x) (hb : Num w vb y) (hs : lw x + lw y ≤ 8796093022208) :
    Calls Tryd.prog 31 #[va, vb] w fun e w' => ∃ v, e = .returned v ∧ Num w' v (x + y) ∧ Below w.heap.size w w' := by
  obtain ⟨A, ca, rfl, hca, hma, hra⟩ := ha
  obtain ⟨B, cb, rfl, hcb, hmb, hrb⟩ := hb
  obtain ⟨M, hM⟩ : ∃ M, M = max (lw x) (lw y) := ⟨_, rfl⟩
  have hmx : lw x ≤ M := by omega
  have hmy : lw y ≤ M := by omega
  have hM1 : M + 1 ≤ 17592186044416 := by omega
  have hmk := fun W => make_nat (M + 1) hM1 W
  rw [show ((M + 1 : Nat) : Int) = (M : Int) + 1 by omega] at hmk
  have hxy : x + y < bp (M + 1) := by
    have h1 := lw_lt x
    have h2 := lw_lt y
    have h3 := bp_mono hmx
    have h4 := bp_mono hmy
    rw [bp_succ]
    have := bp_pos M
    omega
  have Hxy := Lib.hid hxy
  have HM := Lib.hid hM
  clear hxy hM
  go_enter Tryd.func31, Tryd.ntmps31
  go_upto_region 1 with (fail)
  go_cut [5] (fun v wx => v = .slice (some ⟨w.heap.size, 0, none⟩) (M + 1) (M + 1) ∧ wx = w.alloc (.cells (madeCells #[.int .u64 0] (M + 1)) 30))
  case first =>
    rcases Nat.lt_or_ge (lw x) (lw y) with h | h
    · have e : M = lw y := by have := HM.out; omega
      subst e
      clear HM hmx hmy hM1 Hxy
      go_wp2_with fail
      go_meet
      exact ⟨rfl, rfl⟩
    · have e : M = lw x := by have := HM.out; omega
      subst e
      have h' : ¬ lw x < lw y := by omega
      clear HM hmx hmy hM1 Hxy
      go_wp2_with fail
      go_meet
      exact ⟨rfl, rfl⟩
  case rest =>
    obtain ⟨rfl, rfl⟩ := hcut
    clear hmk
    have hw0 : WB (w.alloc (.cells (madeCells #[.int .u64 0] (M + 1)) 30)) w.heap.size (List.replicate (M + 1) 0) := WB.made w _
    have hb0 : Below w.heap.size w (w.alloc (.cells (madeCells #[.int .u64 0] (M + 1)) 30)) := (Below.refl _ _).alloc (Nat.le_refl _) _
    go_wp2_with fail
    go_loopw [6, 17] (fun c i wr => ∃ (k cn : Nat) (o : List Nat), k ≤ M + 1 ∧ i = .int .i64 k ∧ c = .int .u64 cn ∧ cn ≤ 1 ∧ Hid (WB wr w.heap.size o) ∧ Hid (o.length = M + 1) ∧ Hid (okw o) ∧ Hid (∀ j, k ≤ j → o.getD j 0 = 0) ∧
        Hid (val o + cn * bp k = val ((wds x).take k) + val ((wds y).take k)) ∧ Below w.heap.size w wr)
      (fun _ i _ => M + 1 - (intOf i).toNat)
    case atStart => exact ⟨0, 0, _, Nat.zero_le _, rfl, rfl, by omega, hw0, List.length_replicate, okw_replicate _, Lib.hid (fun j _ => rep_getD _ j), Lib.hid (by rw [val_replicate]; simp [val]), hb0⟩
    case round =>
      obtain ⟨k, cn, o, hk, rfl, rfl, hcn, p1, p2, p3, p4, p5, hbe⟩ := hrel
      by_cases hlt : k < M + 1
      · have hg1 := fun W (h : RW W A (wds x)) => at_any A (lw x) ca (wds x) (k : Int) W h rfl (by omega) (by omega)
        have hg2 := fun W (h : RW W B (wds y)) => at_any B (lw y) cb (wds y) (k : Int) W h rfl (by omega) (by omega)
        rw [Int.toNat_natCast] at hg1 hg2
        have hxw := wds_get x k
        have hyw := wds_get y k
        obtain ⟨xi, hxi⟩ : ∃ xi : Nat, xi = (wds x).getD k 0 := ⟨_, rfl⟩
        obtain ⟨yi, hyi⟩ : ∃ yi : Nat, yi = (wds y).getD k 0 := ⟨_, rfl⟩
        rw [← hxi] at hg1 hxw
        rw [← hyi] at hg2 hyw
        obtain ⟨t, d, ht, hd, e1, et, ed⟩ := back_word xi yi cn hxw hyw hcn
        have ha1 := fun W => run_add64' xi yi cn (by omega) (by omega) (by omega) (by omega) W
        rw [et, ed] at ha1
        have hstep := add_step (o := o) (by rw [p2.out]; exact hlt) (p4.out k (Nat.le_refl _)) p5.out (by rw [← hxi, ← hyi]; exact e1)
        have hco : wr.cell? ⟨w.heap.size, k, none⟩ = some (U (o.getD k 0)) := p1.out.cell (by rw [p2.out]; exact hlt)
        have hfo : wr.frozen? ⟨w.heap.size, k, none⟩ = false := p1.out.frozen _
        have Hg1 := Lib.hid hg1
        have Hg2 := Lib.hid hg2
        have Hstep := Lib.hid hstep
        have ra := Lib.hid (hra.below hbe)
        have rb := Lib.hid (hrb.below hbe)
        clear hg1 hg2 hstep hxi hyi e1 et ed
        go_wp2_with fail
        refine (Hg1.out _ ra.out).mono ?_
        rintro e w' ⟨rfl, rfl⟩
        go_wp2_with fail
        refine (Hg2.out _ rb.out).mono ?_
        rintro e w' ⟨rfl, rfl⟩
        go_wp2_with fail
        go_roundw
        case rel =>
          exact ⟨k + 1, d, o.set k t, by omega, by go_num, rfl, hd, p1.out.set_ _ _, Lib.hid (by rw [List.length_set]; exact p2.out), okw_set p3.out _ _ ht, Lib.hid (fun j hj => by rw [set_ne (by omega)]; exact p4.out j (by omega)), Hstep, hbe.setCell (Nat.le_refl _) _⟩
        case measure => simp [intOf]; omega
      · have hkk : k = M + 1 := by omega
        have e := p5.out
        rw [hkk, List.take_of_length_le (by rw [wds_length]; omega), List.take_of_length_le (by rw [wds_length]; omega), val_wds, val_wds] at e
        have e2 : val o = x + y := by
          rcases Nat.eq_zero_or_pos cn with h | h
          · rw [h, Nat.zero_mul, Nat.add_zero] at e; exact e
          · have := Nat.mul_le_mul_right (bp (M + 1)) h
            have := Hxy.out
            omega
        have E2 := Lib.hid e2
        clear e e2
        go_wp2_with fail
        refine (trim_any _ _ _ o _ p1.out.rw_ p2.out (Nat.le_refl _) (by unfold maxLen; omega)).mono ?_
        rintro e w' ⟨rfl, rfl⟩
        go_wp2_with fail
        go_ret
        refine ⟨_, rfl, ?_, hbe⟩
        rw [← E2.out]
        exact num_of_wb p1.out p2.out p3.out (by unfold maxLen; omega)
end Go.Proofs.YtfciahfdmnnejaaDoor
