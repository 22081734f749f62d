/-
  The walk of caliperref03.Significand.
-/
import Derived.Test.YtfciahfdmnnejaaDoorR10
namespace Go.Proofs.YtfciahfdmnnejaaDoor
open Go.RowKit Go.Sort

theorem num_lit2 {w : World} {g hi lo : Nat} (hg : w.heap.size = g) (h0 : hi ≠ 0) (h1 : hi < 18446744073709551616) (h2 : lo < 18446744073709551616) :
    Num (w.alloc (.cells #[U lo, U hi] 30)) (.slice (some ⟨g, 0, none⟩) 2 2) (lo + 18446744073709551616 * hi) := by
  subst hg
  have hwb : WB (w.alloc (.cells #[U lo, U hi] 30)) w.heap.size [lo, hi] := Blk.new w 30 _
  have hv : val [lo, hi] = lo + 18446744073709551616 * hi := by simp [val]
  have hw : wds (lo + 18446744073709551616 * hi) = [lo, hi] := by
    rw [← hv]
    exact wds_of (okw_cons h2 (okw_cons h1 okw_nil)) (.inr (by simpa using h0))
  have hl : lw (lo + 18446744073709551616 * hi) = 2 := by unfold lw; rw [hw]; rfl
  exact ⟨some ⟨w.heap.size, 0, none⟩, 2, by rw [hl], by rw [hl]; exact Nat.le_refl _, by unfold maxLen; omega, by rw [hw]; exact hwb.rw_⟩

set_option maxHeartbeats 1600000 in
set_option maxRecDepth 100000 in
/-- caliperref03.Significand beyond the reach. -/
theorem rsig_far (k : Int) (w : World) (h : k < -400 ∨ 400 < k) : Calls Tryd.prog 23 #[.int .i64 k, .int .u64 0, .int .u64 0, .int .i64 0] w fun e w' => e = .returned (.bool true) ∧ w = w' := by
  rcases h with h | h
  · have t1 : decide (k < -400) = true := by simp; omega
    go_enter Tryd.func23, Tryd.ntmps23
    go_wp2
    go_ret
    exact ⟨rfl, rfl⟩
  · have t1 : decide (k < -400) = false := by simp; omega
    have t2 : decide (400 < k) = true := by simp; omega
    go_enter Tryd.func23, Tryd.ntmps23
    go_wp2
    go_ret
    exact ⟨rfl, rfl⟩

set_option maxHeartbeats 1600000 in
set_option maxRecDepth 100000 in
/-- caliperref03.Significand. -/
theorem rsig_any (k e : Int) (hi lo s : Nat) (w : World) (h1 : -400 ≤ k) (h2 : k ≤ 400) (a1 : hi < 18446744073709551616) (a2 : 9223372036854775808 ≤ hi) (a3 : lo < 18446744073709551616) (hs : s = lo + 18446744073709551616 * hi)
    (i1 : -5000 ≤ e) (i2 : e ≤ 5000) (q1 : decide (crossI s e 0 1 k k ≤ 0) = true) (q2 : decide (crossI 1 k k (s + 1) e 0 < 0) = true) :
    Calls Tryd.prog 23 #[.int .i64 k, .int .u64 hi, .int .u64 lo, .int .i64 e] w fun r w' => r = .returned (.bool true) ∧ Below w.heap.size w w' := by
  have t1 : decide (k < -400) = false := by simp; omega
  have t2 : decide (400 < k) = false := by simp; omega
  have t3 : decide ((hi : Int) < 9223372036854775808) = false := by simp; omega
  have t4 : decide (e < -5000) = false := by simp; omega
  have t5 : decide (5000 < e) = false := by simp; omega
  have hl2 : lw s = 2 := by
    rw [hs]
    have hv : val [lo, hi] = lo + 18446744073709551616 * hi := by simp [val]
    rw [← hv]
    unfold lw
    rw [wds_of (okw_cons a3 (okw_cons a1 okw_nil)) (.inr (by simp; omega))]
    rfl
  have l3 := lw_add s 1
  have l1 : lw 1 ≤ 1 := lw_le (by decide)
  have hc1 := fun W va vb h1' h2' => rcmp_any false false va vb s 1 e 0 k k W h1' h2' (by omega) (by omega) (by omega) (by omega) (by omega) (by omega) (by omega) (by omega) (by omega) (by omega)
  have hc2 := fun W va vb h1' h2' => rcmp_any false false va vb 1 (s + 1) k k e 0 W h1' h2' (by omega) (by omega) (by omega) (by omega) (by omega) (by omega) (by omega) (by omega) (by omega) (by omega)
  obtain ⟨c, hcc⟩ : ∃ c, c = crossI s e 0 1 k k := ⟨_, rfl⟩
  obtain ⟨d, hdd⟩ : ∃ d, d = crossI 1 k k (s + 1) e 0 := ⟨_, rfl⟩
  rw [← hcc] at hc1 q1
  rw [← hdd] at hc2 q2
  have C1 := Lib.hid hc1
  have C2 := Lib.hid hc2
  have N2 := Lib.hid (fun (W : World) (g : Nat) (hg : W.heap.size = g) => num_lit2 (w := W) (g := g) (hi := hi) (lo := lo) hg (by omega) a1 a3)
  rw [← hs] at N2
  have HL := Lib.hid hl2
  have L3 := Lib.hid l3
  have L1 := Lib.hid l1
  clear hcc hdd hc1 hc2 hs hl2 l3 l1 h1 h2 i1 i2
  go_enter Tryd.func23, Tryd.ntmps23
  go_wp2_with fail
  have z1 : Below w.heap.size w ((w.alloc (.cells #[U lo, U hi] 30)).alloc (.cells #[.int .u64 1] 30)) := ((Below.refl _ _).alloc (Nat.le_refl _) _).alloc (by simp) _
  refine (radd_any _ _ s 1 _ (by exact (N2.out w _ rfl).alloc _) (num_one (by simp)) (by have := HL.out; have := L1.out; omega)).mono ?_
  rintro r w1 ⟨v1, rfl, n1, g1⟩
  have k1 := z1.trans (g1.mono z1.size)
  have ns : Num w1 (.slice (some ⟨w.heap.size, 0, none⟩) 2 2) s := Num.below (by exact (N2.out w _ rfl).alloc _) g1
  obtain ⟨A1, cA, rfl, j1, j2, j3⟩ := n1
  have n1 : Num w1 (.slice A1 (lw (s + 1)) cA) (s + 1) := ⟨A1, cA, rfl, j1, j2, j3⟩
  clear z1 g1 j1 j2 j3
  go_wp2_with fail
  have z2 : Below w1.heap.size w1 ((w1.alloc (.cells #[.int .u64 1] 30)).alloc (.cells #[.bool false, .slice (some ⟨w1.heap.size, 0, none⟩) 1 1, .int .i64 k, .int .i64 k] 43)) := ((Below.refl _ _).alloc (Nat.le_refl _) _).alloc (by simp) _
  refine (C1.out _ _ _ (ns.below z2) (by exact (num_one rfl).alloc _)).mono ?_
  rintro r w2 ⟨rfl, g2⟩
  have J : Blk w2 (w1.heap.size + 1) 43 #[.bool false, .slice (some ⟨w1.heap.size, 0, none⟩) 1 1, .int .i64 k, .int .i64 k] := blk_then (by exact blk_new (by simp) 43 _) g2
  have m1 : Num w2 (.slice (some ⟨w1.heap.size, 0, none⟩) 1 1) 1 := Num.below (by exact (num_one rfl).alloc _) g2
  have y2 := z2.trans (g2.mono z2.size)
  replace n1 := n1.below y2
  have k2 := k1.trans (y2.mono k1.size)
  have j0 : w2.cell? ⟨w1.heap.size + 1, 0, none⟩ = some (.bool false) := Blk.cell J 0
  have j1 : w2.cell? ⟨w1.heap.size + 1, 1, none⟩ = some (.slice (some ⟨w1.heap.size, 0, none⟩) 1 1) := Blk.cell J 1
  have j2 : w2.cell? ⟨w1.heap.size + 1, 2, none⟩ = some (.int .i64 k) := Blk.cell J 2
  have j3 : w2.cell? ⟨w1.heap.size + 1, 3, none⟩ = some (.int .i64 k) := Blk.cell J 3
  clear J z2 g2 y2 k1 ns
  go_wp2_with fail
  refine (C2.out _ _ _ m1 n1).mono ?_
  rintro r w3 ⟨rfl, g3⟩
  have k3 := k2.trans (g3.mono k2.size)
  clear j0 j1 j2 j3 m1 n1 g3 k2
  go_wp2
  go_ret
  exact ⟨rfl, k3⟩
end Go.Proofs.YtfciahfdmnnejaaDoor
