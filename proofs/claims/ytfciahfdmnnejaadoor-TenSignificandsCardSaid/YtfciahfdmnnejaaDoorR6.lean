/-
  The document's powers: caliperref03.cut, Pow, Pow10, Pow5.
-/
import Derived.Test.YtfciahfdmnnejaaDoorR5
namespace Go.Proofs.YtfciahfdmnnejaaDoor
open Go.RowKit Go.Sort

set_option maxHeartbeats 400000 in
theorem rcut_any (n : Int) (w : World) : Calls Tryd.prog 39 #[.int .i64 n] w fun e w' => e = .returned (.int .i64 (cutI n)) ∧ w = w' := by
  go_enter Tryd.func39, Tryd.ntmps39
  go_wp2
  all_goals
    go_ret
    exact ⟨ret_int (by unfold cutI; omega), rfl⟩

set_option maxHeartbeats 1600000 in
set_option maxRecDepth 100000 in
theorem rpow_any (two five : Int) (w : World) (h2 : two ≤ 5000) (h5 : five ≤ 5000) :
    Calls Tryd.prog 38 #[.int .i64 two, .int .i64 five] w fun e w' => ∃ v, e = .returned v ∧ Num w' v (5 ^ five.toNat * 2 ^ two.toNat) ∧ Below w.heap.size w w' := by
  obtain ⟨t, ht⟩ : ∃ t, t = two.toNat := ⟨_, rfl⟩
  have em : max two 0 = (t : Int) := by omega
  rw [← ht]
  have ht5 : t ≤ 5000 := by omega
  have hl : H.lw (5 ^ five.toNat) ≤ 20001 := h_lw_five (by omega)
  have hl2 : H.lw (5 ^ five.toNat * 2 ^ t) ≤ 40002 := Nat.le_trans (H.lw_mul _ _) (Nat.le_trans (Nat.add_le_add hl (h_lw_pow (b := 2) (N := t) (by omega) (by omega))) (by omega))
  obtain ⟨F, hF⟩ : ∃ F, F = 5 ^ five.toNat := ⟨_, rfl⟩
  have hf := fun W => rfives_any five W (by omega)
  rw [← hF] at hf hl hl2 ⊢
  have Hf := Lib.hid hf
  have Hl := Lib.hid hl
  have Hl2 := Lib.hid hl2
  clear hf hF hl hl2 ht
  go_enter Tryd.func38, Tryd.ntmps38
  go_wp2_with fail
  refine (Hf.out _).mono ?_
  rintro e w1 ⟨v1, rfl, n1, g1⟩
  go_wp2_with fail
  refine (rup_any _ _ t _ n1 (Nat.le_trans Hl.out (by omega)) (by omega)).mono ?_
  rintro e w2 ⟨v2, rfl, n2, g2⟩
  have b2 := g1.trans (g2.mono g1.size)
  clear g1 g2 n1
  go_wp2_with fail
  refine (rwords_any _ _ _ n2 (Nat.le_trans Hl2.out (by omega))).mono ?_
  rintro e w3 ⟨v3, rfl, n3, g3⟩
  have b3 := b2.trans (g3.mono b2.size)
  clear b2 g3 n2
  go_wp2
  go_ret
  exact ⟨_, rfl, n3, b3⟩

set_option maxHeartbeats 1600000 in
set_option maxRecDepth 100000 in
theorem rpow10_any (k : Int) (w : World) : Calls Tryd.prog 17 #[.int .i64 k] w fun e w' => ∃ v, e = .returned v ∧ Num w' v (10 ^ (cutI k).toNat) ∧ Below w.heap.size w w' := by
  have hc : cutI k ≤ 5000 := by unfold cutI; omega
  have hp := fun W => rpow_any (cutI k) (cutI k) W hc hc
  rw [← Nat.mul_pow] at hp
  have Hp := Lib.hid hp
  clear hp hc
  go_enter Tryd.func17, Tryd.ntmps17
  go_wp2_with (go_at_call 39; refine (rcut_any _ _).mono ?_; rintro e w' ⟨rfl, rfl⟩)
  refine (Hp.out _).mono ?_
  rintro e w1 ⟨v1, rfl, n1, g1⟩
  go_wp2
  go_ret
  exact ⟨_, rfl, n1, g1⟩

set_option maxHeartbeats 1600000 in
set_option maxRecDepth 100000 in
theorem rpow5_any (k : Int) (w : World) : Calls Tryd.prog 19 #[.int .i64 k] w fun e w' => ∃ v, e = .returned v ∧ Num w' v (5 ^ (cutI k).toNat) ∧ Below w.heap.size w w' := by
  have hc : cutI k ≤ 5000 := by unfold cutI; omega
  have hp := fun W => rpow_any 0 (cutI k) W (by omega) hc
  rw [show (0 : Int).toNat = 0 from rfl, Nat.pow_zero, Nat.mul_one] at hp
  have Hp := Lib.hid hp
  clear hp hc
  go_enter Tryd.func19, Tryd.ntmps19
  go_wp2_with (go_at_call 39; refine (rcut_any _ _).mono ?_; rintro e w' ⟨rfl, rfl⟩)
  refine (Hp.out _).mono ?_
  rintro e w1 ⟨v1, rfl, n1, g1⟩
  go_wp2
  go_ret
  exact ⟨_, rfl, n1, g1⟩
end Go.Proofs.YtfciahfdmnnejaaDoor
