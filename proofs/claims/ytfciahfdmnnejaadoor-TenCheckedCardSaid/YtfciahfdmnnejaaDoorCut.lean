/-
  The walk of caliperlaw03.TenCut.
-/
import Derived.Test.YtfciahfdmnnejaaDoorShown
namespace Go.Proofs.YtfciahfdmnnejaaDoor
open Go.RowKit Go.Sort

/-- A slice that the program writes out: one word. -/
theorem num_lit (w : World) (b : Nat) (h0 : b ≠ 0) (h : b < 18446744073709551616) : Num (w.alloc (.cells #[.int .u64 b] 30)) (.slice (some ⟨w.heap.size, 0, none⟩) 1 1) b := by
  have h1 : WB (w.alloc (.cells #[.int .u64 b] 30)) w.heap.size [b] := Blk.new w 30 #[.int .u64 b]
  refine ⟨some ⟨w.heap.size, 0, none⟩, 1, by rw [lw_word h h0], by rw [lw_word h h0]; omega, by unfold maxLen; omega, ?_⟩
  rw [wds_word h h0]
  exact h1.rw_
theorem cmpI_self (x : Nat) : cmpI x x = 0 := by unfold cmpI; simp
theorem cut_up {n : Int} (h : 5000 ≤ n) : cutI n = 5000 := by unfold cutI; omega
theorem cut_down {n : Int} (h : n ≤ -5000) : cutI n = -5000 := by unfold cutI; omega

set_option maxHeartbeats 1600000 in
set_option maxRecDepth 100000 in
theorem tenCut_near (n : Int) (w : World) (htab : Tab w) (h1 : -5000 ≤ n) (h2 : n ≤ 5000) :
    Calls Tryd.prog 6 #[.int .i64 n] w fun e w' => e = .returned (.bool true) ∧ Below w.heap.size w w' := by
  have t1 : decide (-5000 ≤ n) = true := by simp; omega
  have t2 : decide (n ≤ 5000) = true := by simp; omega
  go_enter Tryd.func6, Tryd.ntmps6
  go_wp2_with (go_at_call 12; refine (shown_any _ htab).mono ?_; rintro e w1 ⟨rfl, g1⟩)
  go_ret
  exact ⟨rfl, g1⟩

set_option maxHeartbeats 1600000 in
set_option maxRecDepth 100000 in
theorem tenCut_up (n : Int) (w : World) (htab : Tab w) (h1 : 5000 < n) :
    Calls Tryd.prog 6 #[.int .i64 n] w fun e w' => e = .returned (.bool true) ∧ Below w.heap.size w w' := by
  have t1 : decide (-5000 ≤ n) = true := by simp; omega
  have t2 : decide (n ≤ 5000) = false := by simp; omega
  have t3 : decide (n < 0) = false := by simp; omega
  have t4 : decide (0 < n) = true := by simp; omega
  have s1 := fun W => sig_far n W (by omega)
  have l1 := fun W => log10Of2_any n W
  have l2 := fun W => log10Of2_any 5000 W
  have m1 := fun W => log2Of10_any n W
  have m2 := fun W => log2Of10_any 5000 W
  have p1 := fun W => pow5_any n W
  have p2 := fun W => pow5_any 5000 W
  have q1 := fun W => pow10_any n W
  have q2 := fun W => pow10_any 5000 W
  have e1 := cut_up (n := n) (by omega)
  have e2 := cut_up (n := 5000) (by omega)
  rw [e1] at l1 m1 p1 q1
  rw [e2] at l2 m2 p2 q2
  obtain ⟨L, hL⟩ : ∃ L, L = (5000 : Int) * 661971961083 / 2199023255552 := ⟨_, rfl⟩
  obtain ⟨M, hM⟩ : ∃ M, M = (5000 : Int) * 913124641741 / 274877906944 := ⟨_, rfl⟩
  obtain ⟨F, hF⟩ : ∃ F, F = 5 ^ (5000 : Int).toNat := ⟨_, rfl⟩
  obtain ⟨T, hT⟩ : ∃ T, T = 10 ^ (5000 : Int).toNat := ⟨_, rfl⟩
  rw [← hL] at l1 l2
  rw [← hM] at m1 m2
  rw [← hF] at p1 p2
  rw [← hT] at q1 q2
  have hFl : lw F ≤ 17592186044416 := by rw [hF]; exact Nat.le_trans (lw_pow (by omega) (by omega)) (by omega)
  have hTl : lw T ≤ 17592186044416 := by rw [hT]; exact Nat.le_trans (lw_pow (by omega) (by omega)) (by omega)
  have S1 := Lib.hid s1
  have L1 := Lib.hid l1
  have L2 := Lib.hid l2
  have M1 := Lib.hid m1
  have M2 := Lib.hid m2
  have P1 := Lib.hid p1
  have P2 := Lib.hid p2
  have Q1 := Lib.hid q1
  have Q2 := Lib.hid q2
  clear hL hM hF hT e1 e2 s1 l1 l2 m1 m2 p1 p2 q1 q2
  go_enter Tryd.func6, Tryd.ntmps6
  go_wp2_with (go_at_call 12; refine (shown_any _ htab).mono ?_; rintro e w1 ⟨rfl, g1⟩)
  refine (S1.out _).mono ?_
  rintro e w2 ⟨rfl, rfl⟩
  go_wp2_with fail
  refine (L1.out _).mono ?_
  rintro e w2 ⟨rfl, rfl⟩
  go_wp2_with fail
  refine (L2.out _).mono ?_
  rintro e w2 ⟨rfl, rfl⟩
  go_wp2_with fail
  refine (M1.out _).mono ?_
  rintro e w2 ⟨rfl, rfl⟩
  go_wp2_with fail
  refine (M2.out _).mono ?_
  rintro e w2 ⟨rfl, rfl⟩
  go_wp2_with fail
  refine (P1.out _).mono ?_
  rintro e w2 ⟨v2, rfl, n2, g2⟩
  go_wp2_with fail
  refine (bits_any _ _ _ n2 hFl).mono ?_
  rintro e w3 ⟨rfl, rfl⟩
  go_wp2_with fail
  refine (P2.out _).mono ?_
  rintro e w4 ⟨v4, rfl, n4, g4⟩
  go_wp2_with fail
  refine (bits_any _ _ _ n4 hFl).mono ?_
  rintro e w5 ⟨rfl, rfl⟩
  have b4 := (g1.trans (g2.mono g1.size)).trans (g4.mono (Nat.le_trans g1.size g2.size))
  clear g1 g2 g4 n2 n4
  go_wp2_with fail
  refine (Q1.out _).mono ?_
  rintro e w6 ⟨v6, rfl, n6, g6⟩
  go_wp2_with fail
  refine (bits_any _ _ _ n6 hTl).mono ?_
  rintro e w7 ⟨rfl, rfl⟩
  go_wp2_with fail
  refine (Q2.out _).mono ?_
  rintro e w8 ⟨v8, rfl, n8, g8⟩
  go_wp2_with fail
  refine (bits_any _ _ _ n8 hTl).mono ?_
  rintro e w9 ⟨rfl, rfl⟩
  have b8 := (b4.trans (g6.mono b4.size)).trans (g8.mono (Nat.le_trans b4.size g6.size))
  clear b4 g6 g8 n6 n8
  go_wp2
  go_ret
  exact ⟨rfl, b8⟩

set_option maxHeartbeats 1600000 in
set_option maxRecDepth 100000 in
theorem tenCut_down (n : Int) (w : World) (htab : Tab w) (h1 : n < -5000) :
    Calls Tryd.prog 6 #[.int .i64 n] w fun e w' => e = .returned (.bool true) ∧ Below w.heap.size w w' := by
  have t1 : decide (-5000 ≤ n) = false := by simp; omega
  have t2 : decide (n ≤ 5000) = true := by simp; omega
  have t3 : decide (n < 0) = true := by simp; omega
  have t4 : decide (0 < n) = false := by simp; omega
  have s1 := fun W => sig_far n W (by omega)
  have l1 := fun W => log10Of2_any n W
  have l2 := fun W => log10Of2_any (-5000) W
  have m1 := fun W => log2Of10_any n W
  have m2 := fun W => log2Of10_any (-5000) W
  have p1 := fun W => pow5_any n W
  have p2 := fun W => pow5_any (-5000) W
  have q1 := fun W => pow10_any n W
  have q2 := fun W => pow10_any (-5000) W
  have e1 := cut_down (n := n) (by omega)
  have e2 := cut_down (n := -5000) (by omega)
  rw [e1] at l1 m1 p1 q1
  rw [e2] at l2 m2 p2 q2
  obtain ⟨L, hL⟩ : ∃ L, L = (-5000 : Int) * 661971961083 / 2199023255552 := ⟨_, rfl⟩
  obtain ⟨M, hM⟩ : ∃ M, M = (-5000 : Int) * 913124641741 / 274877906944 := ⟨_, rfl⟩
  obtain ⟨F, hF⟩ : ∃ F, F = 5 ^ (-5000 : Int).toNat := ⟨_, rfl⟩
  obtain ⟨T, hT⟩ : ∃ T, T = 10 ^ (-5000 : Int).toNat := ⟨_, rfl⟩
  rw [← hL] at l1 l2
  rw [← hM] at m1 m2
  rw [← hF] at p1 p2
  rw [← hT] at q1 q2
  have hFl : lw F ≤ 17592186044416 := by rw [hF]; exact Nat.le_trans (lw_pow (by omega) (by omega)) (by omega)
  have hTl : lw T ≤ 17592186044416 := by rw [hT]; exact Nat.le_trans (lw_pow (by omega) (by omega)) (by omega)
  have S1 := Lib.hid s1
  have L1 := Lib.hid l1
  have L2 := Lib.hid l2
  have M1 := Lib.hid m1
  have M2 := Lib.hid m2
  have P1 := Lib.hid p1
  have P2 := Lib.hid p2
  have Q1 := Lib.hid q1
  have Q2 := Lib.hid q2
  have hT1 : T = 1 := by rw [hT]; rfl
  have HT1 := Lib.hid hT1
  clear hT1 hL hM hF hT e1 e2 s1 l1 l2 m1 m2 p1 p2 q1 q2
  go_enter Tryd.func6, Tryd.ntmps6
  go_wp2_with (go_at_call 12; refine (shown_any _ htab).mono ?_; rintro e w1 ⟨rfl, g1⟩)
  refine (S1.out _).mono ?_
  rintro e w2 ⟨rfl, rfl⟩
  go_wp2_with fail
  refine (L1.out _).mono ?_
  rintro e w2 ⟨rfl, rfl⟩
  go_wp2_with fail
  refine (L2.out _).mono ?_
  rintro e w2 ⟨rfl, rfl⟩
  go_wp2_with fail
  refine (M1.out _).mono ?_
  rintro e w2 ⟨rfl, rfl⟩
  go_wp2_with fail
  refine (M2.out _).mono ?_
  rintro e w2 ⟨rfl, rfl⟩
  go_wp2_with fail
  refine (P1.out _).mono ?_
  rintro e w2 ⟨v2, rfl, n2, g2⟩
  go_wp2_with fail
  refine (bits_any _ _ _ n2 hFl).mono ?_
  rintro e w3 ⟨rfl, rfl⟩
  go_wp2_with fail
  refine (P2.out _).mono ?_
  rintro e w4 ⟨v4, rfl, n4, g4⟩
  go_wp2_with fail
  refine (bits_any _ _ _ n4 hFl).mono ?_
  rintro e w5 ⟨rfl, rfl⟩
  have b4 := (g1.trans (g2.mono g1.size)).trans (g4.mono (Nat.le_trans g1.size g2.size))
  clear g1 g2 g4 n2 n4
  go_wp2_with fail
  refine (Q1.out _).mono ?_
  rintro e w6 ⟨v6, rfl, n6, g6⟩
  go_wp2_with fail
  refine (bits_any _ _ _ n6 hTl).mono ?_
  rintro e w7 ⟨rfl, rfl⟩
  go_wp2_with fail
  refine (Q2.out _).mono ?_
  rintro e w8 ⟨v8, rfl, n8, g8⟩
  go_wp2_with fail
  refine (bits_any _ _ _ n8 hTl).mono ?_
  rintro e w9 ⟨rfl, rfl⟩
  have b8 := (b4.trans (g6.mono b4.size)).trans (g8.mono (Nat.le_trans b4.size g6.size))
  clear b4 g6 g8 n6 n8
  go_wp2_with fail
  refine (Q1.out _).mono ?_
  rintro e w10 ⟨v10, rfl, n10, g10⟩
  have b10 := b8.trans (g10.mono b8.size)
  rw [HT1.out] at n10
  clear b8 g10
  have n11 := n10.below ((Below.refl w10.heap.size w10).alloc (Nat.le_refl _) (.cells #[.int .u64 1] 30))
  have hc := cmp_any v10 _ 1 1 _ n11 (num_lit w10 1 (by omega) (by omega)) (Nat.le_trans (lw_le (k := 1) (by decide)) (by omega))
  rw [cmpI_self] at hc
  have Hc := Lib.hid hc
  clear hc n10 n11
  go_wp2_with fail
  refine Hc.out.mono ?_
  rintro e w12 ⟨rfl, n12, rfl⟩
  have b12 := below_drewN (b10.alloc b10.size (.cells #[.int .u64 1] 30)) n12
  clear b10 Hc
  go_wp2
  go_ret
  exact ⟨rfl, b12⟩

theorem tenCut_any (n : Int) (w : World) (htab : Tab w) :
    Calls Tryd.prog 6 #[.int .i64 n] w fun e w' => e = .returned (.bool true) ∧ Below w.heap.size w w' := by
  by_cases h1 : n < -5000
  · exact tenCut_down n w htab h1
  by_cases h2 : 5000 < n
  · exact tenCut_up n w htab h2
  exact tenCut_near n w htab (by omega) (by omega)
end Go.Proofs.YtfciahfdmnnejaaDoor
