/-
  The walk of caliperlaw03.TenPowers.
-/
import Derived.Test.YtfciahfdmnnejaaDoorR9
namespace Go.Proofs.YtfciahfdmnnejaaDoor
open Go.RowKit Go.Sort

theorem lo_small {n : Int} (h1 : -1200 ≤ n) (h2 : n ≤ 1200) : -400 ≤ lo10 n ∧ lo10 n ≤ 400 ∧ -4000 ≤ lo2 n ∧ lo2 n ≤ 4000 := by
  have ce : cutI n = n := by unfold cutI; omega
  unfold lo10 lo2
  rw [ce]
  omega

set_option maxHeartbeats 1600000 in
set_option maxRecDepth 100000 in
theorem tenPowers_any (n : Int) (w : World) (htab : Tab w) :
    Calls Tryd.prog 3 #[.int .i64 n] w fun e w' => e = .returned (.bool true) ∧ Below w.heap.size w w' := by
  obtain ⟨N, hN⟩ : ∃ N, N = n.tmod 1201 := ⟨_, rfl⟩
  have h1 : -1200 ≤ N := by rw [hN]; have := Int.lt_tmod_of_pos n (show (0 : Int) < 1201 by omega); omega
  have h2 : N ≤ 1200 := by rw [hN]; have := Int.tmod_lt_of_pos n (show (0 : Int) < 1201 by omega); omega
  have hN0 : n.tmod 1201 = N := hN.symm
  clear hN
  obtain ⟨i1, i2, i3, i4⟩ := lo_small h1 h2
  have hl := logs_at h1 h2
  unfold logsAt at hl
  rw [Bool.and_eq_true, Bool.and_eq_true, Bool.and_eq_true, Bool.not_eq_true'] at hl
  obtain ⟨⟨⟨q1, q2⟩, q3⟩, q4⟩ := hl
  obtain ⟨k, hk⟩ : ∃ k, k = lo10 N := ⟨_, rfl⟩
  obtain ⟨e, he⟩ : ∃ e, e = lo2 N := ⟨_, rfl⟩
  rw [← hk] at q1 q2 i1 i2
  rw [← he] at q3 q4 i3 i4
  have La := Lib.hid fun W => lo10_of N k W hk
  have Lb := Lib.hid fun W => lo2_of N e W he
  have R1 := Lib.hid fun W => rlog10_any N k W h1 h2 (by omega) (by omega) q1 q2
  have R2 := Lib.hid fun W => rlog2_any N e W h1 h2 (by omega) (by omega) q3 q4
  have P1 := Lib.hid fun W => pow10_any N W
  have P2 := Lib.hid fun W => rpow10_any N W
  have P3 := Lib.hid fun W => pow5_any N W
  have P4 := Lib.hid fun W => rpow5_any N W
  obtain ⟨c, hc⟩ : ∃ c, c = (cutI N).toNat := ⟨_, rfl⟩
  have hc5 : c ≤ 5000 := by rw [hc]; unfold cutI; omega
  rw [← hc] at P1 P2 P3 P4
  have t1 : decide (k < -400) = false := by simp; omega
  have t2 : decide (400 < k) = false := by simp; omega
  have t3 : decide (e < -4000) = false := by simp; omega
  have t4 : decide (4000 < e) = false := by simp; omega
  clear hk he hc q1 q2 q3 q4
  go_enter Tryd.func3, Tryd.ntmps3
  go_wp2_with fail
  refine (shown_any _ htab).mono ?_
  rintro e w1 ⟨rfl, g1⟩
  go_wp2_with fail
  refine (La.out _).mono ?_
  rintro e w2 ⟨rfl, rfl⟩
  go_wp2_with fail
  refine (Lb.out _).mono ?_
  rintro e w2 ⟨rfl, rfl⟩
  go_wp2_with fail
  refine (P1.out _).mono ?_
  rintro e w2 ⟨v2, rfl, n2, g2⟩
  go_wp2_with fail
  refine (P2.out _).mono ?_
  rintro e w3 ⟨v3, rfl, n3, g3⟩
  have b3 := (g1.trans (g2.mono g1.size)).trans (g3.mono (Nat.le_trans g1.size g2.size))
  replace n2 := n2.below g3
  clear g1 g2 g3
  go_wp2_with fail
  refine (cmp_same _ _ _ _ _ n2 n3 rfl (Nat.le_trans (lw_ten hc5) (by omega))).mono ?_
  rintro e w4 ⟨rfl, q4, hw4⟩
  have b4 := below_drewN b3 q4
  rw [← hw4] at b4
  clear hw4 b3 n2 n3
  go_wp2_with fail
  refine (P3.out _).mono ?_
  rintro e w5 ⟨v5, rfl, n5, g5⟩
  go_wp2_with fail
  refine (P4.out _).mono ?_
  rintro e w6 ⟨v6, rfl, n6, g6⟩
  have b6 := (b4.trans (g5.mono b4.size)).trans (g6.mono (Nat.le_trans b4.size g5.size))
  replace n5 := n5.below g6
  clear b4 g5 g6
  go_wp2_with fail
  refine (cmp_same _ _ _ _ _ n5 n6 rfl (Nat.le_trans (lw_five hc5) (by omega))).mono ?_
  rintro e w7 ⟨rfl, q7, hw7⟩
  have b7 := below_drewN b6 q7
  rw [← hw7] at b7
  clear hw7 b6 n5 n6
  go_wp2_with fail
  refine (R1.out _).mono ?_
  rintro e w8 ⟨rfl, g8⟩
  go_wp2_with fail
  refine (R2.out _).mono ?_
  rintro e w9 ⟨rfl, g9⟩
  have b9 := (b7.trans (g8.mono b7.size)).trans (g9.mono (Nat.le_trans b7.size g8.size))
  clear b7 g8 g9
  go_wp2
  go_ret
  exact ⟨rfl, b9⟩
end Go.Proofs.YtfciahfdmnnejaaDoor
