/-
  The document's logarithms: caliperref03.least, Log10Of2, Log2Of10, and that the formulas meet them.
-/
import Derived.Test.YtfciahfdmnnejaaDoorR8
import Derived.Test.YtfciahfdmnnejaaDoorGoes
namespace Go.Proofs.YtfciahfdmnnejaaDoor
open Go.RowKit Go.Sort

theorem Num.alloc {w : World} {v : Value} {x : Nat} (h : Num w v x) (o : Obj) : Num (w.alloc o) v x := h.below ((Below.refl _ _).alloc (Nat.le_refl _) o)
/-- The word 1 in a new block, its number given. -/
theorem num_one {w : World} {b : Nat} (h : w.heap.size = b) : Num (w.alloc (.cells #[.int .u64 1] 30)) (.slice (some ⟨b, 0, none⟩) 1 1) 1 := by
  subst h
  exact num_lit w 1 (by omega) (by omega)
theorem below_allocs {B : Nat} {a w : World} (h : Below B a w) (o : Obj) (ha : B = a.heap.size) : Below B a (w.alloc o) := h.alloc (by rw [ha]; exact h.size) o
theorem blk_new {w : World} {b : Nat} (h : w.heap.size = b) (t : TypeId) (cs : Array Value) : Blk (w.alloc (.cells cs t)) b t cs := by
  subst h
  exact Blk.new w t cs
theorem blk_then {w w' : World} {g : Nat} {t : TypeId} {cs : Array Value} (h : Blk w g t cs) (hb : Below w.heap.size w w') : Blk w' g t cs := Blk.below h hb (Blk.lt h)
theorem blk_alloc {w : World} {g : Nat} {t : TypeId} {cs : Array Value} (h : Blk w g t cs) (o : Obj) : Blk (w.alloc o) g t cs := blk_then h ((Below.refl _ _).alloc (Nat.le_refl _) o)
theorem lw_one_le : lw 1 ≤ 64 := Nat.le_trans (lw_le (k := 1) (by decide)) (by omega)

set_option maxHeartbeats 1600000 in
set_option maxRecDepth 100000 in
/-- caliperref03.least. -/
theorem rleast_any (e k : Int) (b : Bool) (w : World) (he1 : -5001 ≤ e) (he2 : e ≤ 5001) (hk1 : -5001 ≤ k) (hk2 : k ≤ 5001) (hb : decide (0 ≤ crossI 1 e 0 1 k k) = b) :
    Calls Tryd.prog 40 #[.int .i64 e, .int .i64 k] w fun e w' => e = .returned (.bool b) ∧ Below w.heap.size w w' := by
  have hc := fun W va vb h1 h2 => rcmp_any false false va vb 1 1 e 0 k k W h1 h2 lw_one_le lw_one_le he1 he2 (by omega) (by omega) hk1 hk2 hk1 hk2
  obtain ⟨c, hcc⟩ : ∃ c, c = crossI 1 e 0 1 k k := ⟨_, rfl⟩
  rw [← hcc] at hb hc
  have Hc := Lib.hid hc
  clear hc hcc
  go_enter Tryd.func40, Tryd.ntmps40
  go_wp2_with fail
  refine (Hc.out _ _ _ ((((num_one rfl).alloc _).alloc _).alloc _) ((num_one (by simp)).alloc _)).mono ?_
  rintro e w1 ⟨rfl, g1⟩
  have b1 : Below w.heap.size w w1 := (below_allocs (below_allocs (below_allocs (below_allocs (Below.refl _ w) _ rfl) _ rfl) _ rfl) _ rfl).trans (g1.mono (by simp; omega))
  clear g1
  go_wp2
  go_ret
  exact ⟨rfl, b1⟩

set_option maxHeartbeats 1600000 in
set_option maxRecDepth 100000 in
/-- caliperref03.Log10Of2. -/
theorem rlog10_any (n k : Int) (w : World) (h1 : -1200 ≤ n) (h2 : n ≤ 1200) (hk1 : -5000 ≤ k) (hk2 : k ≤ 5000) (t1 : decide (0 ≤ crossI 1 n 0 1 k k) = true) (t2 : decide (0 ≤ crossI 1 n 0 1 (k + 1) (k + 1)) = false) :
    Calls Tryd.prog 20 #[.int .i64 n, .int .i64 k] w fun e w' => e = .returned (.bool true) ∧ Below w.heap.size w w' := by
  have L1 := Lib.hid fun W => rleast_any n k true W (by omega) (by omega) (by omega) (by omega) t1
  have L2 := Lib.hid fun W => rleast_any n (k + 1) false W (by omega) (by omega) (by omega) (by omega) t2
  have ec : cutI n = n := by unfold cutI; omega
  have hcut := fun W => rcut_any n W
  rw [ec] at hcut
  have C := Lib.hid hcut
  clear t1 t2 ec hcut
  go_enter Tryd.func20, Tryd.ntmps20
  go_wp2_with fail
  refine (C.out _).mono ?_
  rintro e w1 ⟨rfl, rfl⟩
  go_wp2_with fail
  refine (L1.out _).mono ?_
  rintro e w2 ⟨rfl, g2⟩
  go_wp2_with fail
  refine (L2.out _).mono ?_
  rintro e w3 ⟨rfl, g3⟩
  have b3 := g2.trans (g3.mono g2.size)
  go_wp2
  go_ret
  exact ⟨rfl, b3⟩

set_option maxHeartbeats 1600000 in
set_option maxRecDepth 100000 in
/-- caliperref03.Log2Of10. -/
theorem rlog2_any (n k : Int) (w : World) (h1 : -1200 ≤ n) (h2 : n ≤ 1200) (hk1 : -5000 ≤ k) (hk2 : k ≤ 5000) (t1 : decide (crossI 1 k 0 1 n n ≤ 0) = true) (t2 : decide (crossI 1 n n 1 (k + 1) 0 < 0) = true) :
    Calls Tryd.prog 21 #[.int .i64 n, .int .i64 k] w fun e w' => e = .returned (.bool true) ∧ Below w.heap.size w w' := by
  have hc1 := fun W va vb h1' h2' => rcmp_any false false va vb 1 1 k 0 n n W h1' h2' lw_one_le lw_one_le (by omega) (by omega) (by omega) (by omega) (by omega) (by omega) (by omega) (by omega)
  have hc2 := fun W va vb h1' h2' => rcmp_any false false va vb 1 1 n n (k + 1) 0 W h1' h2' lw_one_le lw_one_le (by omega) (by omega) (by omega) (by omega) (by omega) (by omega) (by omega) (by omega)
  obtain ⟨c, hcc⟩ : ∃ c, c = crossI 1 k 0 1 n n := ⟨_, rfl⟩
  obtain ⟨d, hdd⟩ : ∃ d, d = crossI 1 n n 1 (k + 1) 0 := ⟨_, rfl⟩
  rw [← hcc] at hc1 t1
  rw [← hdd] at hc2 t2
  have Hc1 := Lib.hid hc1
  have Hc2 := Lib.hid hc2
  have ec : cutI n = n := by unfold cutI; omega
  have hcut := fun W => rcut_any n W
  rw [ec] at hcut
  have C := Lib.hid hcut
  clear ec hcut hcc hdd hc1 hc2
  go_enter Tryd.func21, Tryd.ntmps21
  go_wp2_with fail
  refine (C.out _).mono ?_
  rintro e w1 ⟨rfl, rfl⟩
  go_wp2_with fail
  refine (Hc1.out _ _ _ ((((((num_one rfl).alloc _).alloc _).alloc _).alloc _).alloc _) ((num_one (by simp)).alloc _)).mono ?_
  rintro e w2 ⟨rfl, g2⟩
  have K : Blk w2 (w.heap.size + 1 + 1 + 1) 43 #[.bool false, .slice (some ⟨w.heap.size + 1 + 1, 0, none⟩) 1 1, .int .i64 (k + 1), .int .i64 0] := blk_then (by exact blk_alloc (blk_alloc (blk_new (by simp) 43 _) _) _) g2
  have J : Blk w2 (w.heap.size + 1 + 1 + 1 + 1 + 1) 43 #[.bool false, .slice (some ⟨w.heap.size + 1 + 1 + 1 + 1, 0, none⟩) 1 1, .int .i64 n, .int .i64 n] := blk_then (by exact blk_new (by simp) 43 _) g2
  have k0 : w2.cell? ⟨w.heap.size + 1 + 1 + 1, 0, none⟩ = some (.bool false) := Blk.cell K 0
  have k1 : w2.cell? ⟨w.heap.size + 1 + 1 + 1, 1, none⟩ = some (.slice (some ⟨w.heap.size + 1 + 1, 0, none⟩) 1 1) := Blk.cell K 1
  have k2 : w2.cell? ⟨w.heap.size + 1 + 1 + 1, 2, none⟩ = some (.int .i64 (k + 1)) := Blk.cell K 2
  have k3 : w2.cell? ⟨w.heap.size + 1 + 1 + 1, 3, none⟩ = some (.int .i64 0) := Blk.cell K 3
  have j0 : w2.cell? ⟨w.heap.size + 1 + 1 + 1 + 1 + 1, 0, none⟩ = some (.bool false) := Blk.cell J 0
  have j1 : w2.cell? ⟨w.heap.size + 1 + 1 + 1 + 1 + 1, 1, none⟩ = some (.slice (some ⟨w.heap.size + 1 + 1 + 1 + 1, 0, none⟩) 1 1) := Blk.cell J 1
  have j2 : w2.cell? ⟨w.heap.size + 1 + 1 + 1 + 1 + 1, 2, none⟩ = some (.int .i64 n) := Blk.cell J 2
  have j3 : w2.cell? ⟨w.heap.size + 1 + 1 + 1 + 1 + 1, 3, none⟩ = some (.int .i64 n) := Blk.cell J 3
  clear K J
  have m1 : Num w2 (.slice (some ⟨w.heap.size + 1 + 1, 0, none⟩) 1 1) 1 := Num.below (by exact ((((num_one (by simp)).alloc _).alloc _).alloc _)) g2
  have m2 : Num w2 (.slice (some ⟨w.heap.size + 1 + 1 + 1 + 1, 0, none⟩) 1 1) 1 := Num.below (by exact ((num_one (by simp)).alloc _)) g2
  have b2 : Below w.heap.size w w2 := (below_allocs (below_allocs (below_allocs (below_allocs (below_allocs (below_allocs (Below.refl _ w) _ rfl) _ rfl) _ rfl) _ rfl) _ rfl) _ rfl).trans (g2.mono (by simp; omega))
  clear g2
  go_wp2_with fail
  refine (Hc2.out _ _ _ m2 m1).mono ?_
  rintro e w3 ⟨rfl, g3⟩
  have b3 := b2.trans (g3.mono b2.size)
  clear k0 k1 k2 k3 j0 j1 j2 j3 m1 m2 g3 b2
  go_wp2
  go_ret
  exact ⟨rfl, b3⟩

/-- At one number: the formulas' answers are the document's. -/
def logsAt (n : Int) : Bool :=
  decide (0 ≤ crossI 1 n 0 1 (lo10 n) (lo10 n)) && !decide (0 ≤ crossI 1 n 0 1 (lo10 n + 1) (lo10 n + 1)) && decide (crossI 1 (lo2 n) 0 1 n n ≤ 0) && decide (crossI 1 n n 1 (lo2 n + 1) 0 < 0)
def logsTo : Nat → Bool
  | 0 => true
  | i + 1 => logsAt ((i : Int) - 1200) && logsTo i
set_option maxRecDepth 100000 in
theorem logsTo_all : logsTo 2401 = true := by decide +kernel
theorem logsTo_at : ∀ (m i : Nat), logsTo m = true → i < m → logsAt ((i : Int) - 1200) = true
  | m + 1, i, h, hi => by
    rw [logsTo, Bool.and_eq_true] at h
    rcases Nat.lt_or_ge i m with h1 | h1
    · exact logsTo_at m i h.2 h1
    · obtain rfl : i = m := by omega
      exact h.1
theorem logs_at {n : Int} (h1 : -1200 ≤ n) (h2 : n ≤ 1200) : logsAt n = true := by
  have h := logsTo_at 2401 (n + 1200).toNat logsTo_all (by omega)
  rw [show (((n + 1200).toNat : Nat) : Int) - 1200 = n by omega] at h
  exact h
end Go.Proofs.YtfciahfdmnnejaaDoor
