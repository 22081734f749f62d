/-
  A part of the proofs that calipertop.TopBack, TopFloats and TopNearest return true for every input and leave it as it was: part 17 of 47.
-/
import Derived.Test.YtnlpkehllihllaaGreatDoorGt10
/-
  The walk of exact.Of.
-/
namespace Go.Proofs.YtnlpkehllihllaaGreatDoor
open Go.RowKit Go.Sort

set_option maxHeartbeats 1600000 in
set_option maxRecDepth 100000 in
/-- exact.Of of a nought. -/
theorem xof_zero (g : Bool) (m e : Int) (w : World) :
    Calls Tryz.prog 73 #[.agg #[.int .i64 1, .bool g, .int .u64 m, .int .i64 e]] w fun r w' => r = .returned (.tuple #[.agg #[.bool g, .slice none 0 0, .int .i64 0, .int .i64 0], .bool true]) ∧ Below w.heap.size w w' := by
  go_enter Tryz.func73, Tryz.ntmps73
  go_wp2_with fail
  exact bodyPost_ret (v := .tuple #[.agg #[.bool g, .slice none 0 0, .int .i64 0, .int .i64 0], .bool true]) (by simp [results, Tryz.results73, go_sem]) rfl ⟨rfl, below_two w _ _⟩

set_option maxHeartbeats 1600000 in
set_option maxRecDepth 100000 in
/-- exact.Of of a number. -/
theorem xof_fin (g : Bool) (m : Nat) (e : Int) (w : World) (hm : m < 18446744073709551616) (e1 : -5000 ≤ e) (e2 : e ≤ 5000) :
    Calls Tryz.prog 73 #[.agg #[.int .i64 2, .bool g, .int .u64 m, .int .i64 e]] w fun r w' => ∃ v, r = .returned (.tuple #[.agg #[.bool g, v, .int .i64 e, .int .i64 0], .bool true]) ∧ Num w' v m ∧ Below w.heap.size w w' := by
  have In := Lib.hid fun W => in_any e W e1 e2
  have Ofm := Lib.hid fun W => of_any m W hm
  have hka : Blk ((w.alloc (.cells #[.int .i64 2, .bool g, .int .u64 m, .int .i64 e] 91)).alloc (.cells #[.bool false, .slice none 0 0, .int .i64 0, .int .i64 0] 25)) w.heap.size 91 #[.int .i64 2, .bool g, .int .u64 m, .int .i64 e] := (Blk.new w _ _).alloc _
  have hkr : Blk ((w.alloc (.cells #[.int .i64 2, .bool g, .int .u64 m, .int .i64 e] 91)).alloc (.cells #[.bool false, .slice none 0 0, .int .i64 0, .int .i64 0] 25)) (w.heap.size + 1) 25 #[.bool false, .slice none 0 0, .int .i64 0, .int .i64 0] := by
    have h := Blk.new (w.alloc (.cells #[.int .i64 2, .bool g, .int .u64 m, .int .i64 e] 91)) 25 #[.bool false, .slice none 0 0, .int .i64 0, .int .i64 0]
    simpa using h
  have HW := Lib.hid (below_two w (.cells #[.int .i64 2, .bool g, .int .u64 m, .int .i64 e] 91) (.cells #[.bool false, .slice none 0 0, .int .i64 0, .int .i64 0] 25))
  have HKA := Lib.hid hka
  have HKR := Lib.hid hkr
  clear hka hkr
  go_enter Tryz.func73, Tryz.ntmps73
  go_wp2_with (go_at_call 53; refine (In.out _).mono ?_; rintro r w' ⟨rfl, rfl⟩)
  obtain ⟨wx, hwx⟩ : ∃ wx, wx = ((w.alloc (.cells #[.int .i64 2, .bool g, .int .u64 m, .int .i64 e] 91)).alloc (.cells #[.bool false, .slice none 0 0, .int .i64 0, .int .i64 0] 25)) := ⟨_, rfl⟩
  rw [← hwx] at HW HKA HKR ⊢
  clear hwx
  have k1 : wx.cell? ⟨w.heap.size, 1, none⟩ = some (.bool g) := Blk.cell HKA.out 1
  have k2 : wx.cell? ⟨w.heap.size, 2, none⟩ = some (.int .u64 m) := Blk.cell HKA.out 2
  have k3 : wx.cell? ⟨w.heap.size, 3, none⟩ = some (.int .i64 e) := Blk.cell HKA.out 3
  have j0 : wx.cell? ⟨w.heap.size + 1, 0, none⟩ = some (.bool false) := Blk.cell HKR.out 0
  have j1 : wx.cell? ⟨w.heap.size + 1, 1, none⟩ = some (.slice none 0 0) := Blk.cell HKR.out 1
  have j2 : wx.cell? ⟨w.heap.size + 1, 2, none⟩ = some (.int .i64 0) := Blk.cell HKR.out 2
  have j3 : wx.cell? ⟨w.heap.size + 1, 3, none⟩ = some (.int .i64 0) := Blk.cell HKR.out 3
  have q0 : ∀ o, wx.frozen? ⟨w.heap.size + 1, o, none⟩ = false := fun o => Blk.frozen HKR.out o
  have hlt : w.heap.size + 1 < wx.heap.size := HKR.out.lt
  go_region_held3 (fun w' => w'.cell? ⟨w.heap.size, 1, none⟩ = some (.bool g) ∧ w'.cell? ⟨w.heap.size, 2, none⟩ = some (.int .u64 m) ∧ w'.cell? ⟨w.heap.size, 3, none⟩ = some (.int .i64 e))
    (first
      | go_keep
      | (go_split_ands
         refine ⟨?_, ?_, ?_⟩ <;> (rw [gg.cell (World.block_lt_of_cell? _ _ (by assumption))]; assumption)))
    ((first
      | (go_at_call 12; (with_reducible refine (Ofm.out _).mono ?_); rintro r ws ⟨v1, rfl, n1, gg⟩; have n1c := n1; obtain ⟨A1, c1, rfl, _, _, _⟩ := n1c; have ga := gg; have HKR1 := Lib.hid (Blk.below HKR.out.drew gg hlt); have s0 : ws.cell? ⟨w.heap.size + 1, 0, none⟩ = some (.bool false) := Blk.cell HKR1.out 0; have s1 : ws.cell? ⟨w.heap.size + 1, 1, none⟩ = some (.slice none 0 0) := Blk.cell HKR1.out 1; have s2 : ws.cell? ⟨w.heap.size + 1, 2, none⟩ = some (.int .i64 0) := Blk.cell HKR1.out 2; have s3 : ws.cell? ⟨w.heap.size + 1, 3, none⟩ = some (.int .i64 0) := Blk.cell HKR1.out 3; have s4 : ∀ o, ws.frozen? ⟨w.heap.size + 1, o, none⟩ = false := fun o => Blk.frozen HKR1.out o)))
  go_wp2_with fail
  obtain ⟨w4, hw4, hk4, hb4, ho4⟩ := stored4 HKR1.out (Nat.le_succ _) (HW.out.trans ((below_of_drew ga).mono HW.out.size)) (.bool g) (.slice A1 (lw m) c1) (.int .i64 e) (.int .i64 0)
  have hn4 := n1.off HKR1.out (by simp [noU]) ho4
  have r0 := Blk.cell hk4 0
  have r1 := Blk.cell hk4 1
  have r2 := Blk.cell hk4 2
  have r3 := Blk.cell hk4 3
  rw [hw4]
  exact bodyPost_ret (v := .tuple #[.agg #[.bool g, .slice A1 (lw m) c1, .int .i64 e, .int .i64 0], .bool true]) (by simp [results, Tryz.results73, go_sem, r0, r1, r2, r3]) rfl ⟨_, rfl, hn4, hb4⟩
end Go.Proofs.YtnlpkehllihllaaGreatDoor
