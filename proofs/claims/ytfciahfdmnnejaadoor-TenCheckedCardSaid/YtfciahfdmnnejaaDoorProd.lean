/-
  The walk of caliperlaw03.TenProducts.
-/
import Derived.Test.YtfciahfdmnnejaaDoorCut
import Derived.Laws.BitsLemmas
namespace Go.Proofs.YtfciahfdmnnejaaDoor
open Go.RowKit Go.Sort

/-- The lowest sixteen bits of any int. -/
theorem and16 (x : Int) : 0 ≤ bits .and .i64 x 65535 ∧ bits .and .i64 x 65535 ≤ 65535 := by
  have h : bits .and .i64 x 65535 = IntKind.i64.wrap ((((BitVec.ofInt 64 x).toNat &&& 65535 : Nat)) : Int) := rfl
  have h2 : ((BitVec.ofInt 64 x).toNat &&& 65535 : Nat) ≤ 65535 := Nat.and_le_right
  rw [h, IntKind.wrap_i64]
  omega
theorem and16_mod (x : Int) (m : Nat) (hm : 0 < m) : ∃ a : Nat, (bits .and .i64 x 65535).tmod (m : Int) = (a : Int) ∧ a < m := by
  obtain ⟨h1, h2⟩ := and16 x
  obtain ⟨y, hy⟩ := Int.eq_ofNat_of_zero_le h1
  refine ⟨y % m, ?_, Nat.mod_lt _ hm⟩
  rw [hy]
  rfl
theorem pow10_of (k : Int) (n : Nat) (w : World) (hk : k = (n : Int)) (hn : n ≤ 5000) : Calls Tryd.prog 16 #[.int .i64 k] w fun e w' => ∃ v, e = .returned v ∧ Num w' v (10 ^ n) ∧ Below w.heap.size w w' := by
  have h := pow10_any k w
  rw [hk, show (cutI (n : Int)).toNat = n by unfold cutI; omega] at h
  rw [hk]
  exact h
theorem pow5_of (k : Int) (n : Nat) (w : World) (hk : k = (n : Int)) (hn : n ≤ 5000) : Calls Tryd.prog 18 #[.int .i64 k] w fun e w' => ∃ v, e = .returned v ∧ Num w' v (5 ^ n) ∧ Below w.heap.size w w' := by
  have h := pow5_any k w
  rw [hk, show (cutI (n : Int)).toNat = n by unfold cutI; omega] at h
  rw [hk]
  exact h
theorem pow2_of (k : Int) (n : Nat) (w : World) (hk : k = (n : Int)) (hn : n ≤ 5000) : Calls Tryd.prog 27 #[.int .u64 2, .int .i64 k] w fun e w' => ∃ v, e = .returned v ∧ Num w' v (2 ^ n) ∧ Below w.heap.size w w' := by
  have h := pow_any 2 k w (by omega) (by omega)
  rw [hk, show powN (n : Int) = n by unfold powN; omega] at h
  rw [hk]
  exact h
theorem lw_ten {n : Nat} (h : n ≤ 5000) : lw (10 ^ n) ≤ 5001 := Nat.le_trans (lw_pow (by omega) (by omega)) (by omega)
theorem lw_five {n : Nat} (h : n ≤ 5000) : lw (5 ^ n) ≤ 5001 := Nat.le_trans (lw_pow (by omega) (by omega)) (by omega)
theorem lw_twos {n : Nat} (h : n ≤ 5000) : lw (2 ^ n) ≤ 5001 := Nat.le_trans (lw_pow (by omega) (by omega)) (by omega)
/-- Two numbers that are the same one compare as 0. -/
theorem cmp_same (va vb : Value) (x y : Nat) (w : World) (ha : Num w va x) (hb : Num w vb y) (hxy : x = y) (hs : lw y ≤ 17592186044416) :
    Calls Tryd.prog 15 #[va, vb] w fun e w' => e = .returned (.int .i64 0) ∧ ∃ n, w' = w.drewN n := by
  subst hxy
  have h := cmp_any va vb x x w ha hb hs
  rw [cmpI_self] at h
  exact h

set_option maxHeartbeats 1600000 in
set_option maxRecDepth 100000 in
theorem tenProducts_any (a b : Int) (w : World) (htab : Tab w) :
    Calls Tryd.prog 7 #[.int .i64 a, .int .i64 b] w fun e w' => e = .returned (.bool true) ∧ Below w.heap.size w w' := by
  obtain ⟨A, hA, hA2⟩ := and16_mod a 801 (by omega)
  obtain ⟨B, hB, hB2⟩ := and16_mod b 801 (by omega)
  replace hA : (bits .and .i64 a 65535).tmod 801 = (A : Int) := hA
  replace hB : (bits .and .i64 b 65535).tmod 801 = (B : Int) := hB
  go_enter Tryd.func7, Tryd.ntmps7
  go_wp2_with fail
  refine (shown_any _ htab).mono ?_
  rintro e w1 ⟨rfl, g1⟩
  go_wp2_with fail
  refine (pow10_of _ A _ rfl (by omega)).mono ?_
  rintro e w2 ⟨v2, rfl, n2, g2⟩
  go_wp2_with fail
  refine (pow10_of _ B _ rfl (by omega)).mono ?_
  rintro e w3 ⟨v3, rfl, n3, g3⟩
  have b3 := (g1.trans (g2.mono g1.size)).trans (g3.mono (Nat.le_trans g1.size g2.size))
  replace n2 := n2.below g3
  clear g1 g2 g3
  go_wp2_with fail
  refine (mul_any _ _ _ _ _ n2 n3 (Nat.le_trans (Nat.add_le_add (lw_ten (by omega)) (lw_ten (by omega))) (by omega))).mono ?_
  rintro e w4 ⟨v4, rfl, n4, g4⟩
  have b4 := b3.trans (g4.mono b3.size)
  clear b3 g4 n2 n3
  go_wp2_with fail
  refine (pow10_of _ (A + B) _ (by omega) (by omega)).mono ?_
  rintro e w5 ⟨v5, rfl, n5, g5⟩
  have b5 := b4.trans (g5.mono b4.size)
  replace n4 := n4.below g5
  clear b4 g5
  go_wp2_with fail
  refine (cmp_same _ _ _ _ _ n4 n5 (Nat.pow_add 10 A B).symm (Nat.le_trans (lw_ten (by omega)) (by omega))).mono ?_
  rintro e w6 ⟨rfl, q6, hw6⟩
  have b6 := below_drewN b5 q6
  rw [← hw6] at b6
  clear hw6 b5 n4 n5
  go_wp2_with fail
  refine (pow5_of _ A _ rfl (by omega)).mono ?_
  rintro e w7 ⟨v7, rfl, n7, g7⟩
  go_wp2_with fail
  refine (pow2_of _ A _ rfl (by omega)).mono ?_
  rintro e w8 ⟨v8, rfl, n8, g8⟩
  have b8 := (b6.trans (g7.mono b6.size)).trans (g8.mono (Nat.le_trans b6.size g7.size))
  replace n7 := n7.below g8
  clear b6 g7 g8
  go_wp2_with fail
  refine (mul_any _ _ _ _ _ n7 n8 (Nat.le_trans (Nat.add_le_add (lw_five (by omega)) (lw_twos (by omega))) (by omega))).mono ?_
  rintro e w9 ⟨v9, rfl, n9, g9⟩
  have b9 := b8.trans (g9.mono b8.size)
  clear b8 g9 n7 n8
  go_wp2_with fail
  refine (pow10_of _ A _ rfl (by omega)).mono ?_
  rintro e w10 ⟨v10, rfl, n10, g10⟩
  have b10 := b9.trans (g10.mono b9.size)
  replace n9 := n9.below g10
  clear b9 g10
  go_wp2_with fail
  refine (cmp_same _ _ _ _ _ n9 n10 (Nat.mul_pow 5 2 A).symm (Nat.le_trans (lw_ten (by omega)) (by omega))).mono ?_
  rintro e w11 ⟨rfl, q11, hw11⟩
  have b11 := below_drewN b10 q11
  rw [← hw11] at b11
  clear hw11 b10 n9 n10
  go_wp2
  go_ret
  exact ⟨rfl, b11⟩
end Go.Proofs.YtfciahfdmnnejaaDoor
