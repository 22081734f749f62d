/-
  The walks of ten.must, ten.check, ten.Check and caliperlaw03.TenChecked.
-/
import Derived.Test.YtfciahfdmnnejaaDoorChkL
import Derived.Test.YtfciahfdmnnejaaDoorAdd
import Derived.Defers
import Derived.Recover
namespace Go.Proofs.YtfciahfdmnnejaaDoor
open Go.RowKit Go.Sort

set_option maxHeartbeats 400000 in
theorem must_yes (w : World) : Calls Tryd.prog 80 #[.bool true] w fun e w' => e = .returned (.tuple #[]) ∧ w = w' := by
  go_enter Tryd.func80, Tryd.ntmps80
  go_wp2
  go_end0
  exact ⟨rfl, rfl⟩
theorem shN_small {n : Int} (h : n ≤ 131072) : shN n = n.toNat := by unfold shN; omega
theorem shl_int (va : Value) (x : Nat) (n : Int) (w : World) (ha : Num w va x) (hn : n ≤ 5000) (hs : lw x ≤ 20000) :
    Calls Tryd.prog 25 #[va, .int .i64 n] w fun e w' => ∃ v, e = .returned v ∧ Num w' v (x * 2 ^ n.toNat) ∧ Below w.heap.size w w' := by
  have h := shl_any va x n w ha (by omega)
  rw [shN_small (by omega)] at h
  exact h
theorem lw_shifted {x : Nat} {n : Int} (hx : lw x ≤ 20000) (hn : n ≤ 5000) : lw (x * 2 ^ n.toNat) ≤ 30000 := by
  have h1 := lw_mul x (2 ^ n.toNat)
  have h2 : lw (2 ^ n.toNat) ≤ 5001 := lw_twos (by omega)
  omega

set_option maxHeartbeats 3200000 in
set_option maxRecDepth 100000 in
/-- ten.check of a power that is not negative. -/
theorem check_up (k : Nat) (w : World) (h2 : k ≤ 400) :
    Calls Tryd.prog 59 #[.int .i64 k] w fun e w' => e = .returned (.tuple #[]) ∧ Below w.heap.size w w' := by
  obtain ⟨hi, lo, a1, a2, a3, a4, a5⟩ := sig_words (k := (k : Int)) (by omega) (by omega)
  have hc := chk_at (k := (k : Int)) (by omega) (by omega)
  have he := (sig_range (k := (k : Int)) (by omega) (by omega)).2.2
  have i1 : -4000 ≤ lo2 (k : Int) - 127 := by unfold lo2 cutI; omega
  have i2 : lo2 (k : Int) - 127 ≤ 4000 := by unfold lo2 cutI; omega
  rw [he] at hc
  have hl : chkLow (k : Int) = lo + 18446744073709551616 * hi := by unfold chkLow; rw [if_neg (by omega), a4]
  have hh : chkHigh (k : Int) = lo + 18446744073709551616 * hi + 1 := by unfold chkHigh; rw [if_neg (by omega), a4]
  have hp : chkPow (k : Int) = 10 ^ k := by unfold chkPow; rw [if_neg (by omega), Int.natAbs_natCast]
  rw [hl, hh, hp] at hc
  obtain ⟨e, hE⟩ : ∃ e, e = lo2 (k : Int) - 127 := ⟨_, rfl⟩
  rw [← hE] at hc i1 i2 a5
  have hb : blen hi = 64 := blen_eq (n := hi) (k := 63) (by omega) (by omega)
  have N2 := Lib.hid fun (w w0 : World) (hw : w = w0.alloc (.cells #[U lo, U hi] 30)) => norm_two w w0 hi lo a1 a3 hw
  have ls : lw (lo + 18446744073709551616 * hi) ≤ 2 := lw_le (by rw [bp_succ, bp_succ, bp_zero]; omega)
  obtain ⟨s, hs⟩ : ∃ s, s = lo + 18446744073709551616 * hi := ⟨_, rfl⟩
  rw [← hs] at hc N2 ls
  have hp10 : lw (10 ^ k) ≤ 5001 := lw_ten (by omega)
  have ls1 := lw_add s 1
  have l1 : lw 1 ≤ 1 := lw_le (by decide)
  have e1 : (cutI (max (k : Int) (-(k : Int)))).toNat = k := by rw [show max (k : Int) (-(k : Int)) = k by omega]; exact cutI_nat (by omega)
  have P := Lib.hid fun W => pow10_any (max (k : Int) (-(k : Int))) W
  rw [e1] at P
  obtain ⟨p, hpp⟩ : ∃ p, p = 10 ^ k := ⟨_, rfl⟩
  rw [← hpp] at hc hp10 P
  have d1 : lw (p * 2 ^ (-e).toNat) ≤ 30000 := lw_shifted (by omega) (by omega)
  have d2 : lw (s * 2 ^ e.toNat) ≤ 30000 := lw_shifted (by omega) (by omega)
  obtain ⟨c, hcc⟩ : ∃ c, c = cmpI ((s * 2 ^ e.toNat : Nat) : Int) ((p * 2 ^ (-e).toNat : Nat) : Int) := ⟨_, rfl⟩
  have tc : decide (c ≤ 0) = true := by
    rw [hcc]
    rcases Nat.lt_or_ge (s * 2 ^ e.toNat) (p * 2 ^ (-e).toNat) with h | h
    · rw [cmpI_lt (Int.ofNat_lt.2 h)]; rfl
    · rw [show s * 2 ^ e.toNat = p * 2 ^ (-e).toNat from Nat.le_antisymm hc.1 h, cmpI_eq]; rfl
  have D1 := Lib.hid fun W va vb ha hb => cmp_any va vb (s * 2 ^ e.toNat) (p * 2 ^ (-e).toNat) W ha hb (by omega)
  rw [← hcc] at D1
  have D2 := Lib.hid fun W va vb ha hb => cmp_any va vb (p * 2 ^ (-e).toNat) ((s + 1) * 2 ^ e.toNat) W ha hb (by omega)
  rw [cmpI_lt (Int.ofNat_lt.2 hc.2)] at D2
  have Sg := Lib.hid a5
  have Hb := Lib.hid fun W => len64_any hi W a1
  rw [hb] at Hb
  have t1 : decide ((k : Int) < 0) = false := by simp
  have Q1 := Lib.hid fun W va (h : Num W va p) => shl_int va p (-e) W h (by omega) (by omega)
  have Q2 := Lib.hid fun W va (h : Num W va s) => shl_int va s e W h (by omega) (by omega)
  have Q3 := Lib.hid fun W va (h : Num W va (s + 1)) => shl_int va (s + 1) e W h (by omega) (by omega)
  have ls' : lw s + lw 1 ≤ 8796093022208 := by omega
  have hk4 : (k : Int) ≤ 400 := by omega
  clear hc he hE hb hs e1 hpp hcc hl hh hp a4 a5 hp10 d1 d2 ls ls1 l1 a1 a2 a3 h2
  go_enter Tryd.func59, Tryd.ntmps59
  go_wp2_with fail
  refine (Sg.out _).mono ?_
  rintro r w1 ⟨rfl, g1⟩
  go_wp2_with fail
  refine (Hb.out _).mono ?_
  rintro r w2 ⟨rfl, rfl⟩
  go_wp2_with fail
  refine (must_yes _).mono ?_
  rintro r w2 ⟨rfl, rfl⟩
  go_wp2_with fail
  refine (N2.out _ _ rfl).mono ?_
  rintro r w2 ⟨v2, rfl, n2, g2⟩
  have k2 := g1.trans (g2.mono g1.size)
  clear g1 g2
  go_wp2_with fail
  refine (P.out _).mono ?_
  rintro r w3 ⟨v3, rfl, n3, g3⟩
  have k3 := k2.trans (g3.mono k2.size)
  replace n2 := n2.below g3
  clear k2 g3
  go_wp2_with fail
  refine (of_one _).mono ?_
  rintro r w4 ⟨v4, rfl, n4, g4⟩
  have k4 := k3.trans (g4.mono k3.size)
  replace n2 := n2.below g4
  replace n3 := n3.below g4
  clear k3 g4
  go_wp2_with fail
  refine (add_any _ _ s 1 _ n2 n4 ls').mono ?_
  rintro r w5 ⟨v5, rfl, n5, g5⟩
  have k5 := k4.trans (g5.mono k4.size)
  replace n2 := n2.below g5
  replace n3 := n3.below g5
  clear k4 g5 n4
  go_wp2_with fail
  refine (Q1.out _ _ n3).mono ?_
  rintro r w6 ⟨v6, rfl, n6, g6⟩
  have k6 := k5.trans (g6.mono k5.size)
  replace n2 := n2.below g6
  replace n5 := n5.below g6
  clear k5 g6 n3
  go_wp2_with fail
  refine (Q2.out _ _ n2).mono ?_
  rintro r w7 ⟨v7, rfl, n7, g7⟩
  have k7 := k6.trans (g7.mono k6.size)
  replace n5 := n5.below g7
  replace n6 := n6.below g7
  clear k6 g7 n2
  go_wp2_with fail
  refine (Q3.out _ _ n5).mono ?_
  rintro r w8 ⟨v8, rfl, n8, g8⟩
  have k8 := k7.trans (g8.mono k7.size)
  replace n6 := n6.below g8
  replace n7 := n7.below g8
  clear k7 g8 n5
  go_wp2_with fail
  refine (D1.out _ _ _ n7 n6).mono ?_
  rintro r w9 ⟨rfl, q9, hw9⟩
  have k9 := below_drewN k8 q9
  have m6 := n6.drewN q9
  have m8 := n8.drewN q9
  rw [← hw9] at k9 m6 m8
  clear hw9 k8 n6 n7 n8
  go_wp2_with fail
  refine (D2.out _ _ _ m6 m8).mono ?_
  rintro r w10 ⟨rfl, q10, hw10⟩
  have k10 := below_drewN k9 q10
  rw [← hw10] at k10
  clear hw10 k9 m6 m8
  go_wp2_with fail
  refine (must_yes _).mono ?_
  rintro r w11 ⟨rfl, rfl⟩
  go_wp2
  go_end0
  exact ⟨rfl, k10⟩
set_option maxHeartbeats 3200000 in
set_option maxRecDepth 100000 in
/-- ten.check of a negative power. -/
theorem check_down (j : Int) (k : Nat) (w : World) (hj : j = -(k : Int)) (hk1 : 1 ≤ k) (h2 : k ≤ 400) :
    Calls Tryd.prog 59 #[.int .i64 j] w fun e w' => e = .returned (.tuple #[]) ∧ Below w.heap.size w w' := by
  obtain ⟨hi, lo, a1, a2, a3, a4, a5⟩ := sig_words (k := j) (by omega) (by omega)
  have hc := chk_at (k := j) (by omega) (by omega)
  have he := (sig_range (k := j) (by omega) (by omega)).2.2
  have i1 : -4000 ≤ lo2 j - 127 := by unfold lo2 cutI; omega
  have i2 : lo2 j - 127 ≤ 4000 := by unfold lo2 cutI; omega
  rw [he] at hc
  have hna : j.natAbs = k := by omega
  have hl : chkLow j = (lo + 18446744073709551616 * hi) * 10 ^ k := by unfold chkLow; rw [if_pos (by omega), a4, hna]
  have hh : chkHigh j = (lo + 18446744073709551616 * hi + 1) * 10 ^ k := by unfold chkHigh; rw [if_pos (by omega), a4, hna]
  have hp : chkPow j = 1 := by unfold chkPow; rw [if_pos (by omega)]
  rw [hl, hh, hp] at hc
  obtain ⟨e, hE⟩ : ∃ e, e = lo2 j - 127 := ⟨_, rfl⟩
  rw [← hE] at hc i1 i2 a5
  have hb : blen hi = 64 := blen_eq (n := hi) (k := 63) (by omega) (by omega)
  have N2 := Lib.hid fun (w w0 : World) (hw : w = w0.alloc (.cells #[U lo, U hi] 30)) => norm_two w w0 hi lo a1 a3 hw
  have ls : lw (lo + 18446744073709551616 * hi) ≤ 2 := lw_le (by rw [bp_succ, bp_succ, bp_zero]; omega)
  obtain ⟨s, hs⟩ : ∃ s, s = lo + 18446744073709551616 * hi := ⟨_, rfl⟩
  rw [← hs] at hc N2 ls
  have hp10 : lw (10 ^ k) ≤ 5001 := lw_ten (by omega)
  have ls1 := lw_add s 1
  have l1 : lw 1 ≤ 1 := lw_le (by decide)
  have e1 : (cutI (max j (-j))).toNat = k := by rw [show max j (-j) = (k : Int) by omega]; exact cutI_nat (by omega)
  have P := Lib.hid fun W => pow10_any (max j (-j)) W
  rw [e1] at P
  obtain ⟨p, hpp⟩ : ∃ p, p = 10 ^ k := ⟨_, rfl⟩
  rw [← hpp] at hc hp10 P
  have lsp := lw_mul s p
  have lsp1 := lw_mul (s + 1) p
  have d1 : lw (1 * 2 ^ (-e).toNat) ≤ 30000 := lw_shifted (by omega) (by omega)
  have d2 : lw (s * p * 2 ^ e.toNat) ≤ 30000 := lw_shifted (by omega) (by omega)
  obtain ⟨c, hcc⟩ : ∃ c, c = cmpI ((s * p * 2 ^ e.toNat : Nat) : Int) ((1 * 2 ^ (-e).toNat : Nat) : Int) := ⟨_, rfl⟩
  have tc : decide (c ≤ 0) = true := by
    rw [hcc]
    rcases Nat.lt_or_ge (s * p * 2 ^ e.toNat) (1 * 2 ^ (-e).toNat) with h | h
    · rw [cmpI_lt (Int.ofNat_lt.2 h)]; rfl
    · rw [show s * p * 2 ^ e.toNat = 1 * 2 ^ (-e).toNat from Nat.le_antisymm hc.1 h, cmpI_eq]; rfl
  have D1 := Lib.hid fun W va vb ha hb => cmp_any va vb (s * p * 2 ^ e.toNat) (1 * 2 ^ (-e).toNat) W ha hb (by omega)
  rw [← hcc] at D1
  have D2 := Lib.hid fun W va vb ha hb => cmp_any va vb (1 * 2 ^ (-e).toNat) ((s + 1) * p * 2 ^ e.toNat) W ha hb (by omega)
  rw [cmpI_lt (Int.ofNat_lt.2 hc.2)] at D2
  have Sg := Lib.hid a5
  have Hb := Lib.hid fun W => len64_any hi W a1
  rw [hb] at Hb
  have t1 : decide (j < 0) = true := by simp; omega
  have Q1 := Lib.hid fun W va (h : Num W va 1) => shl_int va 1 (-e) W h (by omega) (by omega)
  have Q2 := Lib.hid fun W va (h : Num W va (s * p)) => shl_int va (s * p) e W h (by omega) (by omega)
  have Q3 := Lib.hid fun W va (h : Num W va ((s + 1) * p)) => shl_int va ((s + 1) * p) e W h (by omega) (by omega)
  have ls' : lw s + lw 1 ≤ 8796093022208 := by omega
  have ls2 : lw s + lw p ≤ 17592186044416 := by omega
  have ls3 : lw (s + 1) + lw p ≤ 17592186044416 := by omega
  have hj4 : -400 ≤ j := by omega
  have hj5 : j ≤ -1 := by omega
  clear hj hna lsp lsp1 hc he hE hb hs e1 hpp hcc hl hh hp a4 a5 hp10 d1 d2 ls ls1 l1 a1 a2 a3 h2
  go_enter Tryd.func59, Tryd.ntmps59
  go_wp2_with fail
  refine (Sg.out _).mono ?_
  rintro r w1 ⟨rfl, g1⟩
  go_wp2_with fail
  refine (Hb.out _).mono ?_
  rintro r w2 ⟨rfl, rfl⟩
  go_wp2_with fail
  refine (must_yes _).mono ?_
  rintro r w2 ⟨rfl, rfl⟩
  go_wp2_with fail
  refine (N2.out _ _ rfl).mono ?_
  rintro r w2 ⟨v2, rfl, n2, g2⟩
  have k2 := g1.trans (g2.mono g1.size)
  clear g1 g2
  go_wp2_with fail
  refine (P.out _).mono ?_
  rintro r w3 ⟨v3, rfl, n3, g3⟩
  have k3 := k2.trans (g3.mono k2.size)
  replace n2 := n2.below g3
  clear k2 g3
  go_wp2_with fail
  refine (of_one _).mono ?_
  rintro r w4 ⟨v4, rfl, n4, g4⟩
  have k4 := k3.trans (g4.mono k3.size)
  replace n2 := n2.below g4
  replace n3 := n3.below g4
  clear k3 g4
  go_wp2_with fail
  refine (add_any _ _ s 1 _ n2 n4 ls').mono ?_
  rintro r w5 ⟨v5, rfl, n5, g5⟩
  have k5 := k4.trans (g5.mono k4.size)
  replace n2 := n2.below g5
  replace n3 := n3.below g5
  clear k4 g5 n4
  go_wp2_with fail
  refine (mul_any _ _ s p _ n2 n3 ls2).mono ?_
  rintro r x1 ⟨y1, rfl, z1, f1⟩
  have o1 := k5.trans (f1.mono k5.size)
  replace n3 := n3.below f1
  replace n5 := n5.below f1
  clear k5 f1 n2
  go_wp2_with fail
  refine (mul_any _ _ (s + 1) p _ n5 n3 ls3).mono ?_
  rintro r x2 ⟨y2, rfl, z2, f2⟩
  have o2 := o1.trans (f2.mono o1.size)
  replace z1 := z1.below f2
  clear o1 f2 n5 n3
  go_wp2_with fail
  refine (of_one _).mono ?_
  rintro r x3 ⟨y3, rfl, n3, f3⟩
  have k5 := o2.trans (f3.mono o2.size)
  have n2 := z1.below f3
  have n5 := z2.below f3
  clear o2 f3 z1 z2
  go_wp2_with fail
  refine (Q1.out _ _ n3).mono ?_
  rintro r w6 ⟨v6, rfl, n6, g6⟩
  have k6 := k5.trans (g6.mono k5.size)
  replace n2 := n2.below g6
  replace n5 := n5.below g6
  clear k5 g6 n3
  go_wp2_with fail
  refine (Q2.out _ _ n2).mono ?_
  rintro r w7 ⟨v7, rfl, n7, g7⟩
  have k7 := k6.trans (g7.mono k6.size)
  replace n5 := n5.below g7
  replace n6 := n6.below g7
  clear k6 g7 n2
  go_wp2_with fail
  refine (Q3.out _ _ n5).mono ?_
  rintro r w8 ⟨v8, rfl, n8, g8⟩
  have k8 := k7.trans (g8.mono k7.size)
  replace n6 := n6.below g8
  replace n7 := n7.below g8
  clear k7 g8 n5
  go_wp2_with fail
  refine (D1.out _ _ _ n7 n6).mono ?_
  rintro r w9 ⟨rfl, q9, hw9⟩
  have k9 := below_drewN k8 q9
  have m6 := n6.drewN q9
  have m8 := n8.drewN q9
  rw [← hw9] at k9 m6 m8
  clear hw9 k8 n6 n7 n8
  go_wp2_with fail
  refine (D2.out _ _ _ m6 m8).mono ?_
  rintro r w10 ⟨rfl, q10, hw10⟩
  have k10 := below_drewN k9 q10
  rw [← hw10] at k10
  clear hw10 k9 m6 m8
  go_wp2_with fail
  refine (must_yes _).mono ?_
  rintro r w11 ⟨rfl, rfl⟩
  go_wp2
  go_end0
  exact ⟨rfl, k10⟩
end Go.Proofs.YtfciahfdmnnejaaDoor
