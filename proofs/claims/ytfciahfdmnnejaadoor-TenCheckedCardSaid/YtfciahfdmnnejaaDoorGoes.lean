/-
  The walk of caliperlaw03.TenGoes.
-/
import Derived.Test.YtfciahfdmnnejaaDoorProd
namespace Go.Proofs.YtfciahfdmnnejaaDoor
open Go.RowKit Go.Sort

/-- Log10Of2 and Log2Of10, as formulas. -/
def lo10 (n : Int) : Int := cutI n * 661971961083 / 2199023255552
def lo2 (n : Int) : Int := cutI n * 913124641741 / 274877906944
theorem lo_bounds {e : Int} (h1 : -1500 < e) (h2 : e < 1500) :
    (lo10 (e + 1) = lo10 e ∨ lo10 (e + 1) = lo10 e + 1) ∧ (lo2 (e + 1) = lo2 e + 3 ∨ lo2 (e + 1) = lo2 e + 4) ∧ lo10 e ≤ max e (-1) ∧ lo2 (lo10 e) ≤ e ∧ lo10 (lo2 e) ≤ e ∧ e - 1 ≤ lo10 (lo2 e) ∧
      (-5000 ≤ lo10 e ∧ lo10 e ≤ 5000 ∧ -5000 ≤ lo2 e ∧ lo2 e ≤ 5000) := by
  have ce : cutI e = e := by unfold cutI; omega
  have ce1 : cutI (e + 1) = e + 1 := by unfold cutI; omega
  have c1 : cutI (lo10 e) = lo10 e := by unfold lo10; rw [ce]; unfold cutI; omega
  have c2 : cutI (lo2 e) = lo2 e := by unfold lo2; rw [ce]; unfold cutI; omega
  refine ⟨?_, ?_, ?_, ?_, ?_, ?_, ?_⟩
  · unfold lo10; rw [ce, ce1]; omega
  · unfold lo2; rw [ce, ce1]; omega
  · unfold lo10; rw [ce]; omega
  · rw [show lo2 (lo10 e) = cutI (lo10 e) * 913124641741 / 274877906944 from rfl, c1]; unfold lo10; rw [ce]; omega
  · rw [show lo10 (lo2 e) = cutI (lo2 e) * 661971961083 / 2199023255552 from rfl, c2]; unfold lo2; rw [ce]; omega
  · rw [show lo10 (lo2 e) = cutI (lo2 e) * 661971961083 / 2199023255552 from rfl, c2]; unfold lo2; rw [ce]; omega
  · unfold lo10 lo2; rw [ce]; omega

theorem lo10_of (n r : Int) (w : World) (h : r = lo10 n) : Calls Tryd.prog 13 #[.int .i64 n] w fun e w' => e = .returned (.int .i64 r) ∧ w = w' := by
  rw [h]
  exact log10Of2_any n w
theorem lo2_of (n r : Int) (w : World) (h : r = lo2 n) : Calls Tryd.prog 14 #[.int .i64 n] w fun e w' => e = .returned (.int .i64 r) ∧ w = w' := by
  rw [h]
  exact log2Of10_any n w
theorem shl_of (va : Value) (x : Nat) (k : Int) (n : Nat) (w : World) (ha : Num w va x) (hk : k = (n : Int)) (hn : n ≤ 5000) (hs : lw x ≤ 8796093022208) :
    Calls Tryd.prog 25 #[va, .int .i64 k] w fun e w' => ∃ v, e = .returned v ∧ Num w' v (x * 2 ^ n) ∧ Below w.heap.size w w' := by
  have h := shl_any va x k w ha hs
  rw [hk, show shN (n : Int) = n by unfold shN; omega] at h
  rw [hk]
  exact h

set_option maxHeartbeats 1600000 in
set_option maxRecDepth 100000 in
theorem tenGoes_any (k e : Int) (w : World) (htab : Tab w) :
    Calls Tryd.prog 5 #[.int .i64 k, .int .i64 e] w fun e w' => e = .returned (.bool true) ∧ Below w.heap.size w w' := by
  obtain ⟨A, hA, hA2⟩ := and16_mod k 1001 (by omega)
  replace hA : (bits .and .i64 k 65535).tmod 1001 = (A : Int) := hA
  obtain ⟨E, hE⟩ : ∃ E, E = e.tmod 1500 := ⟨_, rfl⟩
  have hE1 : -1500 < E := by rw [hE]; have := Int.tmod_lt_of_pos e (show (0 : Int) < 1500 by omega); have := Int.lt_tmod_of_pos e (show (0 : Int) < 1500 by omega); omega
  have hE2 : E < 1500 := by rw [hE]; exact Int.tmod_lt_of_pos e (by omega)
  have hE0 : e.tmod 1500 = E := hE.symm
  clear hE
  obtain ⟨hb, hd, f1, f2, f3, f4, i1, i2, i3, i4⟩ := lo_bounds hE1 hE2
  obtain ⟨a, ha⟩ : ∃ a, a = lo10 E := ⟨_, rfl⟩
  obtain ⟨b, hb'⟩ : ∃ b, b = lo10 (E + 1) := ⟨_, rfl⟩
  obtain ⟨c, hc⟩ : ∃ c, c = lo2 E := ⟨_, rfl⟩
  obtain ⟨d, hd'⟩ : ∃ d, d = lo2 (E + 1) := ⟨_, rfl⟩
  rw [← ha] at hb f1 f2 i1 i2
  rw [← hb'] at hb
  rw [← hc] at hd f3 f4 i3 i4
  rw [← hd'] at hd
  obtain ⟨x, hx⟩ : ∃ x, x = lo2 a := ⟨_, rfl⟩
  obtain ⟨y, hy⟩ : ∃ y, y = lo10 c := ⟨_, rfl⟩
  rw [← hx] at f2
  rw [← hy] at f3 f4
  have La := Lib.hid fun W => lo10_of E a W ha
  have Lb := Lib.hid fun W => lo10_of (E + 1) b W hb'
  have Lc := Lib.hid fun W => lo2_of E c W hc
  have Ld := Lib.hid fun W => lo2_of (E + 1) d W hd'
  have Lx := Lib.hid fun W => lo2_of a x W hx
  have Ly := Lib.hid fun W => lo10_of c y W hy
  have T1 : decide (a ≤ max E (-1)) = true := decide_eq_true f1
  have T2 : decide (x ≤ E) = true := decide_eq_true f2
  have T3 : decide (y ≤ E) = true := decide_eq_true f3
  have T4 : decide (E - 1 ≤ y) = true := decide_eq_true f4
  have Hb := Lib.hid hb
  have Hd := Lib.hid hd
  clear ha hb' hc hd' hx hy f1 f2 f3 f4 hb hd
  go_enter Tryd.func5, Tryd.ntmps5
  go_wp2_with fail
  refine (shown_any _ htab).mono ?_
  rintro e w1 ⟨rfl, g1⟩
  go_wp2_with fail
  refine (pow10_of _ (A + 1) _ (by omega) (by omega)).mono ?_
  rintro e w2 ⟨v2, rfl, n2, g2⟩
  go_wp2_with fail
  refine (pow10_of _ A _ rfl (by omega)).mono ?_
  rintro e w3 ⟨v3, rfl, n3, g3⟩
  have b3 := (g1.trans (g2.mono g1.size)).trans (g3.mono (Nat.le_trans g1.size g2.size))
  replace n2 := n2.below g3
  clear g1 g2 g3
  have ba := (Below.refl w3.heap.size w3).alloc (Nat.le_refl _) (.cells #[.int .u64 10] 30)
  have b3a := b3.trans (ba.mono b3.size)
  have n10 := num_lit w3 10 (by omega) (by omega)
  replace n2 := n2.below ba
  replace n3 := n3.below ba
  have hm := mul_any _ _ _ _ _ n3 n10 (Nat.le_trans (Nat.add_le_add (lw_ten (by omega)) (lw_le (k := 1) (by decide))) (by omega))
  have Hm := Lib.hid hm
  clear hm ba b3 n3 n10
  go_wp2_with fail
  refine Hm.out.mono ?_
  rintro e w4 ⟨v4, rfl, n4, g4⟩
  have b4 := b3a.trans (g4.mono b3a.size)
  replace n2 := n2.below g4
  clear b3a g4 Hm
  go_wp2_with fail
  refine (cmp_same _ _ _ _ _ n2 n4 (Nat.pow_succ ..) (Nat.le_trans (lw_mul _ _) (Nat.le_trans (Nat.add_le_add (lw_ten (by omega)) (lw_le (k := 1) (by decide))) (by omega)))).mono ?_
  rintro e w6 ⟨rfl, q6, hw6⟩
  have b6 := below_drewN b4 q6
  rw [← hw6] at b6
  clear hw6 b4 n4 n2
  go_wp2_with fail
  refine (pow10_of _ A _ rfl (by omega)).mono ?_
  rintro e w7 ⟨v7, rfl, n7, g7⟩
  go_wp2_with fail
  refine (pow5_of _ A _ rfl (by omega)).mono ?_
  rintro e w8 ⟨v8, rfl, n8, g8⟩
  have b8 := (b6.trans (g7.mono b6.size)).trans (g8.mono (Nat.le_trans b6.size g7.size))
  replace n7 := n7.below g8
  clear b6 g7 g8
  go_wp2_with fail
  refine (shl_of _ _ _ A _ n8 rfl (by omega) (Nat.le_trans (lw_five (by omega)) (by omega))).mono ?_
  rintro e w9 ⟨v9, rfl, n9, g9⟩
  have b9 := b8.trans (g9.mono b8.size)
  replace n7 := n7.below g9
  clear b8 g9 n8
  go_wp2_with fail
  refine (cmp_same _ _ _ _ _ n7 n9 (Nat.mul_pow 5 2 A) (by rw [← Nat.mul_pow]; exact Nat.le_trans (lw_ten (by omega)) (by omega))).mono ?_
  rintro e w11 ⟨rfl, q11, hw11⟩
  have b11 := below_drewN b9 q11
  rw [← hw11] at b11
  clear hw11 b9 n9 n7
  go_wp2_with fail
  refine (La.out _).mono ?_
  rintro e w12 ⟨rfl, rfl⟩
  go_wp2_with fail
  refine (Lb.out _).mono ?_
  rintro e w12 ⟨rfl, rfl⟩
  go_wp2_with fail
  refine (Lc.out _).mono ?_
  rintro e w12 ⟨rfl, rfl⟩
  go_wp2_with fail
  refine (Ld.out _).mono ?_
  rintro e w12 ⟨rfl, rfl⟩
  have F1 : (a + 1 == a) = false := by simp; omega
  have F2 : (c + 4 == c + 3) = false := by simp
  rcases Hb.out with hb | hb <;> rcases Hd.out with hd | hd <;> subst hb <;> subst hd
  all_goals
    go_wp2_with fail
    refine (Lx.out _).mono ?_
    rintro e w12 ⟨rfl, rfl⟩
    go_wp2_with fail
    refine (Ly.out _).mono ?_
    rintro e w12 ⟨rfl, rfl⟩
    go_wp2_with fail
    refine (Ly.out _).mono ?_
    rintro e w12 ⟨rfl, rfl⟩
    go_wp2
    go_ret
    exact ⟨rfl, b11⟩
end Go.Proofs.YtfciahfdmnnejaaDoor
