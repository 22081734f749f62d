/-
  The walks of ten.Check and caliperlaw03.TenChecked.
-/
import Derived.Test.YtfciahfdmnnejaaDoorChk
namespace Go.Proofs.YtfciahfdmnnejaaDoor
open Go.RowKit Go.Sort

/-- ten.check. -/
theorem check_any (k : Int) (w : World) (h1 : -400 ≤ k) (h2 : k ≤ 400) : Calls Tryd.prog 59 #[.int .i64 k] w fun e w' => e = .returned (.tuple #[]) ∧ Below w.heap.size w w' := by
  rcases Int.lt_or_le k 0 with h | h
  · exact check_down k k.natAbs w (by omega) (by omega) (by omega)
  · obtain ⟨n, rfl⟩ := Int.eq_ofNat_of_zero_le h
    exact check_up n w (by omega)

/-- The deferred function of ten.Check, where nothing has been thrown. -/
theorem catch_idle (p : Addr) (w : World) :
    CallsD Tryd.prog 58 #[.pointer (some p)] .returning w fun e u' w' => e = .returned (.tuple #[]) ∧ u' = .returning ∧ w' = w := by
  refine callsD_of_wpS Tryd.func58 rfl fun c₀ cs hu => ?_
  apply wpS_seq
  apply wpS_region
  simp [wpOpsS, go_sem, recoverD, hu, Tryd.ntmps58, Exit.thenS]
  apply wpS_seq
  apply wpS_region
  simp [wpOpsS, go_sem, Exit.thenS]
  refine wpS_cond (t := false) (by simp [Act.eval, Array.replicate]) ?_
  simp only [Bool.false_eq_true, if_false]
  refine wpS_of_wp (wp_skip ?_)
  cases c₀
  simp_all [bodyPostS, results, Tryd.results58]

set_option maxHeartbeats 1600000 in
set_option maxRecDepth 100000 in
/-- ten.Check. -/
theorem tcheck_any (w : World) : Calls Tryd.prog 33 #[] w fun e w' => e = .returned (.bool true) ∧ Below w.heap.size w w' := by
  have hmf : ∀ (fn : Fn) (first cap : Array Value) (w : World), (Instr.makeFunc fn first cap).run Tryd.prog w = .ok (.func fn first cap) w := fun _ _ _ _ => rfl
  go_enter_defers Tryd.func33, Tryd.ntmps33
  go_wp2_with fail
  have hb0 := Lib.hid (Below.refl (w.heap.size + 1) (w.alloc (.cells #[.bool false] 4)))
  go_loopw [3] (fun i wr => ∃ k : Nat, k ≤ 801 ∧ i = .int .i64 k ∧ Hid (Below (w.heap.size + 1) (w.alloc (.cells #[.bool false] 4)) wr)) (fun i _ => 801 - (intOf i).toNat)
  case atStart => exact ⟨0, by omega, rfl, hb0⟩
  case round =>
    obtain ⟨k, hk, rfl, hb⟩ := hrel
    by_cases hlt : k < 801
    · go_wp2_with fail
      refine (check_any _ _ (by omega) (by omega)).mono ?_
      rintro r w1 ⟨rfl, g1⟩
      have hb1 := Lib.hid (hb.out.trans (g1.mono (by have := hb.out.size; simpa using this)))
      clear g1
      go_wp2_with fail
      exact ⟨⟨k + 1, by omega, rfl, hb1⟩, by simp [intOf]; omega⟩
    · have hk1 : Blk wr w.heap.size 4 #[.bool false] := Blk.below (Blk.new w 4 _) hb.out (by omega)
      have hc : wr.cell? ⟨w.heap.size, 0, none⟩ = some (.bool false) := Blk.cell hk1 0
      have hf : wr.frozen? ⟨w.heap.size, 0, none⟩ = false := Blk.frozen hk1 0
      have hz : w.heap.size < wr.heap.size := hk1.lt
      have hs : (wr.setCell ⟨w.heap.size, 0, none⟩ (.bool true)).cell? ⟨w.heap.size, 0, none⟩ = some (.bool true) := Blk.cell (hk1.set_ 0 (.bool true)) 0
      have hB : Below w.heap.size w (wr.setCell ⟨w.heap.size, 0, none⟩ (.bool true)) := (((Below.refl _ _).alloc (Nat.le_refl _) _).trans (hb.out.mono (by omega))).setCell (Nat.le_refl _) _
      go_wp2_with fail
      refine leaves_cons (f := 58) (args := #[.pointer (some ⟨w.heap.size, 0, none⟩)]) (by simp) (by simp [go_sem]) ?_
      refine (catch_idle ⟨w.heap.size, 0, none⟩ _).mono ?_
      rintro e u' w'' ⟨rfl, rfl, rfl⟩
      simp [Leaves, settle, results, Tryd.results33, go_sem, hs, hB]

set_option maxHeartbeats 1600000 in
set_option maxRecDepth 100000 in
/-- caliperlaw03.TenChecked. -/
theorem tenChecked_any (n : Int) (w : World) (htab : Tab w) :
    Calls Tryd.prog 11 #[.int .u8 n] w fun e w' => e = .returned (.bool true) ∧ Below w.heap.size w w' := by
  by_cases h : bits .and .u8 n 15 = 7
  · have t1 : (bits .and .u8 n 15 != 7) = false := by rw [h]; rfl
    clear h
    go_enter Tryd.func11, Tryd.ntmps11
    go_wp2_with fail
    refine (shown_any _ htab).mono ?_
    rintro r w1 ⟨rfl, g1⟩
    go_wp2_with fail
    refine (tcheck_any _).mono ?_
    rintro r w2 ⟨rfl, g2⟩
    have k2 := g1.trans (g2.mono g1.size)
    go_wp2
    go_ret
    exact ⟨rfl, k2⟩
  · have t1 : (bits .and .u8 n 15 != 7) = true := by simpa using h
    clear h
    go_enter Tryd.func11, Tryd.ntmps11
    go_wp2_with fail
    refine (shown_any _ htab).mono ?_
    rintro r w1 ⟨rfl, g1⟩
    go_wp2
    go_ret
    exact ⟨rfl, g1⟩
end Go.Proofs.YtfciahfdmnnejaaDoor
