/-
  caliperlaw11.ShortNone returns true for every form and pattern, with no condition: part 21 of 21.
-/
import Derived.Test.YtdafplhemockgaaDoorG20
import Derived.Deep.RegionHeld3
import Derived.Test.YtdafplhemockgaaDoorG10
import Derived.Test.YtdafplhemockgaaDoorG05
import Derived.Test.YtdafplhemockgaaDoorCards
import Derived.Test.YtdafplhemockgaaDoorTie
import Derived.Test.YtdafplhemockgaaDoorG13
import Derived.Deep.DeepHandedRow
/-
  The walk of short.Short of what is Finite.
-/
namespace Go.Proofs.YtdafplhemockgaaDoor
open Go.RowKit Go.Sort

/-- Nine cells of one block written, one behind the other. -/
theorem stored9 {w w2 : World} {B b : Nat} {t : TypeId} {x0 x1 x2 x3 x4 x5 x6 x7 x8 : Value} (hk : Blk w2 b t #[x0, x1, x2, x3, x4, x5, x6, x7, x8]) (hB : B ≤ b) (hb : Below B w w2) (a0 a1 a2 a3 a4 a5 a6 a7 a8 : Value) :
    ∃ w4, ((((((((w2.setCell ⟨b, 0, none⟩ a0).setCell ⟨b, 1, none⟩ a1).setCell ⟨b, 2, none⟩ a2).setCell ⟨b, 3, none⟩ a3).setCell ⟨b, 4, none⟩ a4).setCell ⟨b, 5, none⟩ a5).setCell ⟨b, 6, none⟩ a6).setCell ⟨b, 7, none⟩ a7).setCell ⟨b, 8, none⟩ a8 = w4 ∧ Blk w4 b t #[a0, a1, a2, a3, a4, a5, a6, a7, a8] ∧ Below B w w4 ∧ Off b w2 w4 := by
  refine ⟨_, rfl, ?_, ((((((((hb.setCell hB _).setCell hB _).setCell hB _).setCell hB _).setCell hB _).setCell hB _).setCell hB _).setCell hB _).setCell hB _, (((((((((Off.refl b w2).set_ 0 a0).set_ 1 a1).set_ 2 a2).set_ 3 a3).set_ 4 a4).set_ 5 a5).set_ 6 a6).set_ 7 a7).set_ 8 a8⟩
  have h := ((((((((hk.set_ 0 a0).set_ 1 a1).set_ 2 a2).set_ 3 a3).set_ 4 a4).set_ 5 a5).set_ 6 a6).set_ 7 a7).set_ 8 a8
  simpa using h

theorem seeks_small {lo hi X : Nat} {ev : Bool} {L k : Int} (hL : IsLg X L) (h : Seeks lo hi ev X L k) : X / TT k < 10 ^ 22 := by
  have h1 : X < TT (L + 1) := hL.2.1
  have h2 := hL.2.2.1
  have hb := h.bot
  have ht := h.top
  obtain ⟨m, hm⟩ : ∃ m : Nat, L + 1 = k + m := ⟨(L + 1 - k).toNat, by omega⟩
  rw [hm, TT_add _ (by omega)] at h1
  have h3 : X / TT k < 10 ^ m := by rw [Nat.div_lt_iff_lt_mul (TT_pos k), Nat.mul_comm]; exact h1
  have h4 : 10 ^ m ≤ 10 ^ 22 := Nat.pow_le_pow_right (by omega) (by omega)
  omega
theorem found_small {lo hi X d : Nat} {ev : Bool} {L k : Int} (hL : IsLg X L) (h : Found lo hi ev X L k d) : d ≠ 0 ∧ d < 10 ^ 22 ∧ lw d ≤ 128 := by
  obtain ⟨a, b⟩ := found_le hL h
  have hb := h.bot
  have h4 : 10 ^ (L + 1 - k).toNat ≤ 10 ^ 21 := Nat.pow_le_pow_right (by omega) (by omega)
  have h5 : d < 10 ^ 22 := by omega
  exact ⟨by omega, h5, Nat.le_trans (lw_le (k := 2) (Nat.lt_trans h5 (by decide))) (by omega)⟩

set_option maxHeartbeats 6400000 in
set_option maxRecDepth 100000 in
/-- short.Short. -/
theorem short_pat (n p : Nat) (w : World) (h1 : 1 ≤ n) (h2 : n < 15) (hp : p < 2 ^ (formAt n).width) (hc : clsI (formAt n) p (pKey (formAt n) p) = 2) (hE : Env w) :
    Calls Tryd.prog 5 #[.int .i64 n, U p] w fun r w' => ∃ A c D K, r = .returned (.tuple #[.agg #[.bool (pNeg (formAt n) p), .slice A (lw D) c, .int .i64 K], .int .i64 0]) ∧ Num w' (.slice A (lw D) c) D ∧ Hid (ShortIs (pLo n p) (pHi n p) (pEv n p) (pX n p) D K ∧ lw D ≤ 128) ∧ Below w.heap.size w w' := by
  have hpn := pnum h1 h2 hp hc
  have hX := holds_p h1 h2 hp hc
  obtain ⟨hk0, hb0⟩ := new3 w 27 (.bool false) (.slice none 0 0) (.int .i64 0)
  have HE0 := Lib.hid (hE.below hb0)
  obtain ⟨w0, hw0⟩ : ∃ w0, w0 = w.alloc (.cells #[.bool false, .slice none 0 0, .int .i64 0] 27) := ⟨_, rfl⟩
  rw [← hw0] at hk0 hb0 HE0
  have Fi := Lib.hid (finite_any n p w0 h1 h2 hp hc HE0.out)
  have Li := Lib.hid fun W (hE : Env W) => limits_any n p W h1 h2 hp hc hE
  have Lg := Lib.hid fun (vn : Value) W (h : Num W vn (pMan n p)) => log10_any false vn (pMan n p) (pExp n p) W h hpn.pos hpn.lt (by have := hpn.e1; omega) (by have := hpn.e2; omega)
  have hlM : lw (pMan n p) ≤ 1 := lw_le (k := 1) hpn.lt
  have Nr := Lib.hid fun (vl : Value) (nl : Nat) (tl : Int) (vh : Value) (nh : Nat) (th : Int) (ev : Bool) (vn : Value) (k : Int) W (hI : Iv W vl nl tl vh nh th) (hN : Num W vn (pMan n p)) (k1 : -500 ≤ k) (k2 : k ≤ 500) (hd : ex (pMan n p) (pExp n p) 0 / TT k < 10 ^ 22) =>
    nearer_any vl nl tl vh nh th ev vn (pMan n p) (pExp n p) k W hI hN (by omega) (by have := hpn.e1; omega) (by have := hpn.e2; omega) k1 k2 hd
  have Dg := Lib.hid fun (ng : Bool) (vn : Value) (d : Nat) (k : Int) W (h : Num W vn d) (h1 : lw d ≤ 128) (h2 : d ≠ 0) (h3 : d < 10 ^ 22) (k1 : -5000 ≤ k) (k2 : k ≤ 5000) => digits_any ng vn d k 22 W h h1 h2 h3 (by omega) k1 k2
  rw [hpn.is] at Lg Nr
  rw [show evenB (pKey (formAt n) p) = pEv n p from rfl, show lowB (formAt n) (pKey (formAt n) p) = pLo n p from rfl, show highB (formAt n) (mostN (formAt n) (pNeg (formAt n) p)) (pKey (formAt n) p) = pHi n p from rfl] at Li
  obtain ⟨M, hM⟩ : ∃ M, M = pMan n p := ⟨_, rfl⟩
  obtain ⟨E, hEE⟩ : ∃ E, E = pExp n p := ⟨_, rfl⟩
  obtain ⟨ng, hng⟩ : ∃ ng, ng = pNeg (formAt n) p := ⟨_, rfl⟩
  obtain ⟨lo, hlo⟩ : ∃ lo, lo = pLo n p := ⟨_, rfl⟩
  obtain ⟨hi, hhi⟩ : ∃ hi, hi = pHi n p := ⟨_, rfl⟩
  obtain ⟨ev, hev⟩ : ∃ ev, ev = pEv n p := ⟨_, rfl⟩
  obtain ⟨X, hXX⟩ : ∃ X, X = pX n p := ⟨_, rfl⟩
  rw [← hM, ← hEE, ← hng] at Fi
  rw [← hM, ← hEE, ← hXX] at Lg Nr
  rw [← hlo, ← hhi, ← hev] at Li
  rw [← hlo, ← hhi, ← hXX] at hX
  rw [← hlo, ← hhi, ← hev, ← hXX, ← hng]
  have HX := Lib.hid hX
  have HK0 := Lib.hid hk0
  have HB0 := Lib.hid hb0
  have HEw := Lib.hid hE
  clear hM hEE hng hlo hhi hev hXX hpn hX hk0 hb0 hE hc hp hlM
  go_enter Tryd.func5, Tryd.ntmps5
  go_upto_region 1 with (fail)
  rw [← hw0]
  clear hw0
  go_wp2_with fail
  ((with_reducible refine (Fi.out).mono ?_); rintro r w1 ⟨A1, c1, rfl, n1, g1⟩)
  obtain ⟨wz, hwz, hz0, hz1, hzb⟩ := two_blks w1 32 36 #[.int .i64 2, .bool ng, U M, .int .i64 E] #[.bool false, .slice A1 (lw M) c1, .int .i64 E, .int .i64 0]
  have HKR := Lib.hid (Blk.below (Blk.below HK0.out g1 HK0.out.lt) hzb (Nat.lt_of_lt_of_le HK0.out.lt g1.size))
  have HZ0 := Lib.hid hz0
  have HZ1 := Lib.hid hz1
  have HB1 := Lib.hid (HB0.out.trans ((g1.trans (hzb.mono g1.size)).mono HB0.out.size))
  have HE1 := Lib.hid (HE0.out.below (g1.trans (hzb.mono g1.size)))
  have HN1 := Lib.hid (n1.below hzb)
  have hlw : w.heap.size < w1.heap.size := Nat.lt_of_lt_of_le HK0.out.lt g1.size
  clear n1 g1 hz0 hz1 hzb HK0 HB0 HE0 Fi
  go_upto_region 2 with (fail)
  rw [← hwz]
  clear hwz
  go_upto_region 5 with (fail)
  obtain ⟨wy, hwy⟩ : ∃ wy, wy = wz.alloc (.cells #[.bool false, .slice none 0 0, .int .i64 0, .int .i64 0, .bool false, .slice none 0 0, .int .i64 0, .int .i64 0, .bool false] 53) := ⟨_, rfl⟩
  have hy0 : Blk wy wz.heap.size 53 #[.bool false, .slice none 0 0, .int .i64 0, .int .i64 0, .bool false, .slice none 0 0, .int .i64 0, .int .i64 0, .bool false] := by rw [hwy]; exact Blk.new wz _ _
  have hyb : Below wz.heap.size wz wy := by rw [hwy]; exact (Below.refl _ _).alloc (Nat.le_refl _) _
  rw [← hwy]
  clear hwy
  have HKR2 := Lib.hid (Blk.below HKR.out hyb HKR.out.lt)
  have HZ02 := Lib.hid (Blk.below HZ0.out hyb HZ0.out.lt)
  have HZ12 := Lib.hid (Blk.below HZ1.out hyb HZ1.out.lt)
  have HB2 := Lib.hid (HB1.out.trans (hyb.mono HB1.out.size))
  have HE2 := Lib.hid (HE1.out.below hyb)
  have HN2 := Lib.hid (HN1.out.below hyb)
  have HY := Lib.hid hy0
  have hlz : w1.heap.size + 1 < wz.heap.size := HZ1.out.lt
  clear hy0 hyb HKR HZ0 HZ1 HB1 HE1 HN1
  go_wp2_with fail
  ((with_reducible refine (Li.out _ HE2.out).mono ?_); rintro r w2 ⟨Aa, m1, ca, e1, Ab, m2, cb, e2, rfl, na, nb, hx, g2⟩)
  have HKR3 := Lib.hid (Blk.below HKR2.out g2 HKR2.out.lt)
  have HZ03 := Lib.hid (Blk.below HZ02.out g2 HZ02.out.lt)
  have HZ13 := Lib.hid (Blk.below HZ12.out g2 HZ12.out.lt)
  have HY3 := Lib.hid (Blk.below HY.out g2 HY.out.lt)
  have HB3 := Lib.hid (HB2.out.trans (g2.mono HB2.out.size))
  have HN3 := Lib.hid (HN2.out.below g2)
  have NA := Lib.hid na
  have NB := Lib.hid nb
  clear na nb g2 HKR2 HZ02 HZ12 HY HB2 HE2 HN2
  obtain ⟨k0, k1, k2, k3, k4, k5, k6, k7, k8⟩ := rest9 HY3.out
  have q0 : ∀ o, w2.frozen? ⟨wz.heap.size, o, none⟩ = false := fun o => Blk.frozen HY3.out o
  go_upto_region 6 with (fail)
  obtain ⟨w4, hw4, hk4, hb4, ho4⟩ := stored9 HY3.out (show w.heap.size ≤ wz.heap.size by omega) HB3.out (.bool false) (.slice Aa (lw m1) ca) (.int .i64 e1) (.int .i64 0) (.bool false) (.slice Ab (lw m2) cb) (.int .i64 e2) (.int .i64 0) (.bool ev)
  rw [hw4]
  have HI4 := Lib.hid (show Iv w4 (.slice Aa (lw m1) ca) m1 e1 (.slice Ab (lw m2) cb) m2 e2 from ⟨NA.out.off HY3.out (by simp [noU]) ho4, NB.out.off HY3.out (by simp [noU]) ho4, hx.out.1, hx.out.2.1⟩)
  have HN4 := Lib.hid (HN3.out.off HY3.out (by simp [noU]) ho4)
  have HKR4 := Lib.hid (show Blk w4 w.heap.size 27 #[.bool false, .slice none 0 0, .int .i64 0] from (ho4.block w.heap.size (by omega)).trans HKR3.out)
  have HZ04 := Lib.hid (show Blk w4 w1.heap.size 32 #[.int .i64 2, .bool ng, U M, .int .i64 E] from (ho4.block w1.heap.size (by omega)).trans HZ03.out)
  have HZ14 := Lib.hid (show Blk w4 (w1.heap.size + 1) 36 #[.bool false, .slice A1 (lw M) c1, .int .i64 E, .int .i64 0] from (ho4.block (w1.heap.size + 1) (by omega)).trans HZ13.out)
  have HY4 := Lib.hid hk4
  have HB4 := Lib.hid hb4
  have nr2 := Nr.out (.slice Aa (lw m1) ca) m1 e1 (.slice Ab (lw m2) cb) m2 e2 ev (.slice A1 (lw M) c1)
  rw [hx.out.2.2.1, hx.out.2.2.2] at nr2
  have Nr2 := Lib.hid nr2
  clear hw4 hk4 hb4 ho4 k0 k1 k2 k3 k4 k5 k6 k7 k8 q0 HKR3 HZ03 HZ13 HY3 HB3 HN3 NA NB nr2 Nr hx Li
  obtain ⟨j0, j1, j2, j3⟩ := rest4 HZ14.out
  go_wp2_with fail
  ((with_reducible refine (Lg.out _ _ HN4.out).mono ?_); rintro r w5 ⟨L, rfl, hL, g5⟩)
  have HI5 := Lib.hid (HI4.out.below g5)
  have HN5 := Lib.hid (HN4.out.below g5)
  have HKR5 := Lib.hid (Blk.below HKR4.out g5 HKR4.out.lt)
  have HZ05 := Lib.hid (Blk.below HZ04.out g5 HZ04.out.lt)
  have HZ15 := Lib.hid (Blk.below HZ14.out g5 HZ14.out.lt)
  have HY5 := Lib.hid (Blk.below HY4.out g5 HY4.out.lt)
  have HB5 := Lib.hid (HB4.out.trans (g5.mono HB4.out.size))
  have L1 := hL.out.2.2.1
  have L2 := hL.out.2.2.2
  clear g5 j0 j1 j2 j3 HI4 HN4 HKR4 HZ04 HZ14 HY4 HB4 Lg
  go_wp2_with fail
  go_loopw [10] (fun k wr => ∃ kk : Int, k = .int .i64 kk ∧ -460 ≤ kk ∧ kk ≤ 421 ∧ Hid (Seeks lo hi ev X L kk) ∧ Hid (Below w5.heap.size w5 wr)) (fun k _ => (intOf k + 500).toNat)
  case atStart => exact ⟨L, rfl, by omega, by omega, Lib.hid seeks_first, Lib.hid (Below.refl _ _)⟩
  case round =>
    obtain ⟨kk, rfl, b1, b2, hS, hbe⟩ := hrel
    have HIr := Lib.hid (HI5.out.below hbe.out)
    have HNr := Lib.hid (HN5.out.below hbe.out)
    have HZ0r := Lib.hid (Blk.below HZ05.out hbe.out HZ05.out.lt)
    have HZ1r := Lib.hid (Blk.below HZ15.out hbe.out HZ15.out.lt)
    have HYr := Lib.hid (Blk.below HY5.out hbe.out HY5.out.lt)
    obtain ⟨k0, k1, k2, k3, k4, k5, k6, k7, k8⟩ := rest9 HYr.out
    obtain ⟨j0, j1, j2, j3⟩ := rest4 HZ1r.out
    have hsm := Lib.hid (seeks_small hL.out hS.out)
    go_wp2_with fail
    ((with_reducible refine (Nr2.out kk _ HIr.out HNr.out (by omega) (by omega) hsm.out).mono ?_); rintro r w6 ⟨Ad, cd, d, ok, rfl, nd, hn, g6⟩)
    have HND := Lib.hid nd
    have HZ06 := Lib.hid (Blk.below HZ0r.out g6 HZ0r.out.lt)
    have HB6 := Lib.hid (hbe.out.trans (g6.mono hbe.out.size))
    clear nd g6 k0 k1 k2 k3 k4 k5 k6 k7 k8 j0 j1 j2 j3 hsm HIr HNr HZ0r HZ1r HYr
    cases ok
    · have hnx := Lib.hid (seeks_next HX.out hL.out hS.out hn.out)
      have hk20 := hnx.out.1
      go_wp2_with fail
      go_roundw
      case rel => exact ⟨kk - 1, rfl, by omega, by omega, Lib.hid hnx.out.2, HB6⟩
      case measure => simp [intOf]; omega
    · have HFd := Lib.hid (seeks_found hS.out hn.out)
      have HSm := Lib.hid (found_small hL.out HFd.out)
      obtain ⟨k0, k1, k2, k3⟩ := rest4 HZ06.out
      clear hn
      go_wp2_with fail
      ((with_reducible refine (Dg.out _ _ _ _ _ HND.out HSm.out.2.2 HSm.out.1 HSm.out.2.1 (by omega) (by omega)).mono ?_); rintro r w7 ⟨A, c, D, j, rfl, nD, hD, g7⟩)
      have HB7 := Lib.hid (HB6.out.trans (g7.mono HB6.out.size))
      have HK7 := Lib.hid (Blk.below HKR5.out HB7.out HKR5.out.lt)
      have HBw := Lib.hid (HB5.out.trans (HB7.out.mono HB5.out.size))
      have hDd : D ≤ d := by
        rw [← hD.out.1]
        exact Nat.le_mul_of_pos_right _ (Nat.pow_pos (by omega))
      have HDl := Lib.hid (Nat.le_trans (lw_mono hDd) HSm.out.2.2)
      have HJ := Lib.hid hD.out.2.2
      have hj22 := hD.out.2.2
      obtain ⟨x0, x1, x2⟩ := rest3 HK7.out
      have q0 : ∀ o, w7.frozen? ⟨w.heap.size, o, none⟩ = false := fun o => Blk.frozen HK7.out o
      clear g7 k0 k1 k2 k3 hDd
      go_wp2_with fail
      obtain ⟨w8, hw8, hk8, hb8, ho8⟩ := stored3 HK7.out (Nat.le_refl _) HBw.out (.bool ng) (.slice A (lw D) c) (.int .i64 (kk + (j : Nat)))
      have hn8 := nD.off HK7.out (by simp [noU]) ho8
      obtain ⟨r0, r1, r2⟩ := rest3 hk8
      rw [hw8]
      exact bodyPost_ret (v := .tuple #[.agg #[.bool ng, .slice A (lw D) c, .int .i64 (kk + (j : Nat))], .int .i64 0]) (by simp [results, Tryd.results5, go_sem, r0, r1, r2]) rfl
        ⟨A, c, D, kk + (j : Nat), rfl, hn8, Lib.hid ⟨⟨L, kk, d, j, hL.out, HFd.out, hD.out.1, hD.out.2.1, rfl⟩, HDl.out⟩, hb8⟩
end Go.Proofs.YtdafplhemockgaaDoor

/-
  The walk of caliperlaw11.shown.
-/
namespace Go.Proofs.YtdafplhemockgaaDoor
open Go.RowKit Go.Sort

def closedP : Bool := decide (4591870180066957722 < 2 ^ (formAt 14).width) && decide (clsI (formAt 14) 4591870180066957722 (pKey (formAt 14) 4591870180066957722) = 2) && !pNeg (formAt 14) 4591870180066957722
  && decide (191 < 2 ^ (formAt 1).width) && decide (clsI (formAt 1) 191 (pKey (formAt 1) 191) = 2) && pNeg (formAt 1) 191
  && decide (65 < 2 ^ (formAt 1).width) && decide (clsI (formAt 1) 65 (pKey (formAt 1) 65) = 2) && !pNeg (formAt 1) 65
  && decide (pMan 1 65 = 9) && decide (pExp 1 65 = -3)
  && decide (0 < 2 ^ (formAt 13).width) && decide (clsI (formAt 13) 0 (pKey (formAt 13) 0) ≠ 2) && decide (fitE 99 0 = 3)
set_option maxRecDepth 100000 in
theorem closedP_is : closedP = true := by decide +kernel

/-- short.Short of the double next to a tenth. -/
theorem short_one (w : World) (hE : Env w) : Calls Tryd.prog 5 #[.int .i64 14, .int .u64 4591870180066957722] w fun r w' => ∃ A c, r = .returned (.tuple #[.agg #[.bool false, .slice A (lw 1) c, .int .i64 (-1)], .int .i64 0]) ∧ Num w' (.slice A (lw 1) c) 1 ∧ Below w.heap.size w w' := by
  have t := closedP_is
  unfold closedP at t
  simp only [Bool.and_eq_true, decide_eq_true_eq, Bool.not_eq_true'] at t
  obtain ⟨⟨⟨⟨⟨⟨⟨⟨⟨⟨⟨⟨⟨t1, t2⟩, t3⟩, t4⟩, t5⟩, t6⟩, t7⟩, t8⟩, t9⟩, t10⟩, t11⟩, t12⟩, t13⟩, t14⟩ := t
  refine (show Calls Tryd.prog 5 #[.int .i64 (14 : Nat), U 4591870180066957722] w _ from short_pat 14 4591870180066957722 w (by omega) (by omega) t1 t2 hE).mono ?_
  rintro r w' ⟨A, c, D, K, rfl, hn, hs, hb⟩
  obtain ⟨rfl, rfl⟩ := short_tenth hs.out.1
  rw [t3]
  exact ⟨A, c, rfl, hn, hb⟩
/-- short.Short of a posit. -/
theorem short_el (w : World) (hE : Env w) : Calls Tryd.prog 5 #[.int .i64 1, .int .u64 191] w fun r w' => ∃ A c, r = .returned (.tuple #[.agg #[.bool true, .slice A (lw 11) c, .int .i64 (-1)], .int .i64 0]) ∧ Num w' (.slice A (lw 11) c) 11 ∧ Below w.heap.size w w' := by
  have t := closedP_is
  unfold closedP at t
  simp only [Bool.and_eq_true, decide_eq_true_eq, Bool.not_eq_true'] at t
  obtain ⟨⟨⟨⟨⟨⟨⟨⟨⟨⟨⟨⟨⟨t1, t2⟩, t3⟩, t4⟩, t5⟩, t6⟩, t7⟩, t8⟩, t9⟩, t10⟩, t11⟩, t12⟩, t13⟩, t14⟩ := t
  refine (show Calls Tryd.prog 5 #[.int .i64 (1 : Nat), U 191] w _ from short_pat 1 191 w (by omega) (by omega) t4 t5 hE).mono ?_
  rintro r w' ⟨A, c, D, K, rfl, hn, hs, hb⟩
  obtain ⟨rfl, rfl⟩ := short_elev hs.out.1
  rw [t6]
  exact ⟨A, c, rfl, hn, hb⟩
/-- short.Full of a posit. -/
theorem full_p (w : World) (hE : Env w) : Calls Tryd.prog 15 #[.int .i64 1, .int .u64 65] w fun r w' => ∃ A c, r = .returned (.tuple #[.agg #[.bool false, .slice A (lw 1125) c, .int .i64 (-3)], .int .i64 0]) ∧ Num w' (.slice A (lw 1125) c) 1125 ∧ Below w.heap.size w w' := by
  have t := closedP_is
  unfold closedP at t
  simp only [Bool.and_eq_true, decide_eq_true_eq, Bool.not_eq_true'] at t
  obtain ⟨⟨⟨⟨⟨⟨⟨⟨⟨⟨⟨⟨⟨t1, t2⟩, t3⟩, t4⟩, t5⟩, t6⟩, t7⟩, t8⟩, t9⟩, t10⟩, t11⟩, t12⟩, t13⟩, t14⟩ := t
  refine (show Calls Tryd.prog 15 #[.int .i64 (1 : Nat), U 65] w _ from full_neg 1 65 w (by omega) (by omega) t7 t8 hE 4 1125 (by rw [t11]; omega) (by rw [t10, t11]; decide) (by decide) (by omega) (Nat.le_trans (lw_le (k := 1) (by decide)) (by omega))).mono ?_
  rintro r w' ⟨A, c, D, j, rfl, hn, hs, hb⟩
  obtain ⟨rfl, rfl⟩ := full_one hs.out
  rw [t9, t11]
  exact ⟨A, c, rfl, hn, hb⟩
/-- short.Short of 0. -/
theorem short_zero (w : World) (hE : Env w) : Calls Tryd.prog 5 #[.int .i64 13, .int .u64 0] w fun r w' => r = .returned (.tuple #[.agg #[.bool false, .slice none 0 0, .int .i64 0], .int .i64 5]) ∧ Below w.heap.size w w' := by
  have t := closedP_is
  unfold closedP at t
  simp only [Bool.and_eq_true, decide_eq_true_eq, Bool.not_eq_true'] at t
  obtain ⟨⟨⟨⟨⟨⟨⟨⟨⟨⟨⟨⟨⟨t1, t2⟩, t3⟩, t4⟩, t5⟩, t6⟩, t7⟩, t8⟩, t9⟩, t10⟩, t11⟩, t12⟩, t13⟩, t14⟩ := t
  exact show Calls Tryd.prog 5 #[.int .i64 (13 : Nat), U 0] w _ from short_bad _ 0 _ _ _ _ 5 w ⟨0, .inr ⟨rfl, t13, rfl⟩, fun W hE => decode_any 13 0 W (by omega) (by omega) t12 hE⟩ hE
/-- short.Full of no form. -/
theorem full_form (w : World) (hE : Env w) : Calls Tryd.prog 15 #[.int .i64 99, .int .u64 0] w fun r w' => r = .returned (.tuple #[.agg #[.bool false, .slice none 0 0, .int .i64 0], .int .i64 3]) ∧ Below w.heap.size w w' := by
  have t := closedP_is
  unfold closedP at t
  simp only [Bool.and_eq_true, decide_eq_true_eq, Bool.not_eq_true'] at t
  obtain ⟨⟨⟨⟨⟨⟨⟨⟨⟨⟨⟨⟨⟨t1, t2⟩, t3⟩, t4⟩, t5⟩, t6⟩, t7⟩, t8⟩, t9⟩, t10⟩, t11⟩, t12⟩, t13⟩, t14⟩ := t
  refine show Calls Tryd.prog 15 #[.int .i64 99, U 0] w _ from full_bad 99 0 0 false 0 0 3 w ⟨3, .inl ⟨by omega, rfl⟩, fun W hE => ?_⟩ hE
  have h := decode_bad 99 0 W (by omega) (by rw [t14]; omega) hE
  rw [t14] at h
  exact h

theorem is_one (A : Option Addr) (c : Nat) (w : World) (h : Num w (.slice A (lw 1) c) 1) : Calls Tryd.prog 16 #[.agg #[.bool false, .slice A (lw 1) c, .int .i64 (-1)], .bool false, .int .u64 1, .int .i64 (-1)] w fun r w' => r = .returned (.bool true) ∧ Below w.heap.size w w' :=
  is_true false A c 1 (-1) w h (by omega) (by omega)
theorem is_elev (A : Option Addr) (c : Nat) (w : World) (h : Num w (.slice A (lw 11) c) 11) : Calls Tryd.prog 16 #[.agg #[.bool true, .slice A (lw 11) c, .int .i64 (-1)], .bool true, .int .u64 11, .int .i64 (-1)] w fun r w' => r = .returned (.bool true) ∧ Below w.heap.size w w' :=
  is_true true A c 11 (-1) w h (by omega) (by omega)
theorem is_full (A : Option Addr) (c : Nat) (w : World) (h : Num w (.slice A (lw 1125) c) 1125) : Calls Tryd.prog 16 #[.agg #[.bool false, .slice A (lw 1125) c, .int .i64 (-3)], .bool false, .int .u64 1125, .int .i64 (-3)] w fun r w' => r = .returned (.bool true) ∧ Below w.heap.size w w' :=
  is_true false A c 1125 (-3) w h (by omega) (by omega)

set_option maxHeartbeats 6400000 in
set_option maxRecDepth 100000 in
/-- caliperlaw11.shown. -/
theorem shown_any (w : World) (hE : Env w) : Calls Tryd.prog 4 #[] w fun r w' => r = .returned (.bool true) ∧ Below w.heap.size w w' := by
  have S1 := Lib.hid fun W (hE : Env W) => short_one W hE
  have S2 := Lib.hid fun W (hE : Env W) => short_el W hE
  have S3 := Lib.hid fun W (hE : Env W) => full_p W hE
  have S4 := Lib.hid fun W (hE : Env W) => short_zero W hE
  have S5 := Lib.hid fun W (hE : Env W) => full_form W hE
  obtain ⟨l1, hl1⟩ : ∃ l, l = lw 1 := ⟨_, rfl⟩
  obtain ⟨l2, hl2⟩ : ∃ l, l = lw 11 := ⟨_, rfl⟩
  obtain ⟨l3, hl3⟩ : ∃ l, l = lw 1125 := ⟨_, rfl⟩
  have I1 := Lib.hid fun (A : Option Addr) (c : Nat) W (h : Num W (.slice A (lw 1) c) 1) => is_one A c W h
  have I2 := Lib.hid fun (A : Option Addr) (c : Nat) W (h : Num W (.slice A (lw 11) c) 11) => is_elev A c W h
  have I3 := Lib.hid fun (A : Option Addr) (c : Nat) W (h : Num W (.slice A (lw 1125) c) 1125) => is_full A c W h
  rw [← hl1] at S1 I1
  rw [← hl2] at S2 I2
  rw [← hl3] at S3 I3
  have HE := Lib.hid hE
  clear hE hl1 hl2 hl3
  go_enter Tryd.func4, Tryd.ntmps4
  go_wp2_with fail
  ((with_reducible refine (S1.out _ HE.out).mono ?_); rintro r w1 ⟨A1, c1, rfl, n1, g1⟩)
  obtain ⟨hka, ba⟩ := new3 w1 27 (.bool false) (.slice A1 l1 c1) (.int .i64 (-1))
  obtain ⟨wa, hwa⟩ : ∃ wa, wa = w1.alloc (.cells #[.bool false, .slice A1 l1 c1, .int .i64 (-1)] 27) := ⟨_, rfl⟩
  rw [← hwa] at hka ba
  have KA := Lib.hid hka
  have NA := Lib.hid (n1.below ba)
  have HB := Lib.hid (g1.trans (ba.mono g1.size))
  have HE1 := Lib.hid (HE.out.below HB.out)
  clear hka ba n1 g1 HE S1
  go_upto_region 2 with (fail)
  rw [← hwa]
  clear hwa
  go_wp2_with fail
  ((with_reducible refine (S2.out _ HE1.out).mono ?_); rintro r w2 ⟨A2, c2, rfl, n2, g2⟩)
  obtain ⟨hkb, bb⟩ := new3 w2 27 (.bool true) (.slice A2 l2 c2) (.int .i64 (-1))
  obtain ⟨wb, hwb⟩ : ∃ wb, wb = w2.alloc (.cells #[.bool true, .slice A2 l2 c2, .int .i64 (-1)] 27) := ⟨_, rfl⟩
  rw [← hwb] at hkb bb
  have gb := g2.trans (bb.mono g2.size)
  have KA2 := Lib.hid (Blk.below KA.out gb KA.out.lt)
  have NA2 := Lib.hid (NA.out.below gb)
  have KB := Lib.hid hkb
  have NB := Lib.hid (n2.below bb)
  have HE2 := Lib.hid (HE1.out.below gb)
  have HB2 := Lib.hid (HB.out.trans (gb.mono HB.out.size))
  clear hkb bb n2 g2 gb KA NA HE1 HB S2
  go_upto_region 3 with (fail)
  rw [← hwb]
  clear hwb
  go_wp2_with fail
  ((with_reducible refine (S3.out _ HE2.out).mono ?_); rintro r w3 ⟨A3, c3, rfl, n3, g3⟩)
  obtain ⟨hkc, bc⟩ := new3 w3 27 (.bool false) (.slice A3 l3 c3) (.int .i64 (-3))
  obtain ⟨wc, hwc⟩ : ∃ wc, wc = w3.alloc (.cells #[.bool false, .slice A3 l3 c3, .int .i64 (-3)] 27) := ⟨_, rfl⟩
  rw [← hwc] at hkc bc
  have gc := g3.trans (bc.mono g3.size)
  have KA3 := Lib.hid (Blk.below KA2.out gc KA2.out.lt)
  have NA3 := Lib.hid (NA2.out.below gc)
  have KB3 := Lib.hid (Blk.below KB.out gc KB.out.lt)
  have NB3 := Lib.hid (NB.out.below gc)
  have KC := Lib.hid hkc
  have NC := Lib.hid (n3.below bc)
  have HE3 := Lib.hid (HE2.out.below gc)
  have HB3 := Lib.hid (HB2.out.trans (gc.mono HB2.out.size))
  clear hkc bc n3 g3 gc KA2 NA2 KB NB HE2 HB2 S3
  go_upto_region 4 with (fail)
  rw [← hwc]
  clear hwc
  go_wp2_with fail
  ((with_reducible refine (S4.out _ HE3.out).mono ?_); rintro r w4 ⟨rfl, g4⟩)
  obtain ⟨wd, hwd⟩ : ∃ wd, wd = w4.alloc (.cells #[.bool false, .slice none 0 0, .int .i64 0] 27) := ⟨_, rfl⟩
  have gd := g4.trans ((show Below w4.heap.size w4 wd by rw [hwd]; exact (new3 w4 27 (.bool false) (.slice none 0 0) (.int .i64 0)).2).mono g4.size)
  have KA4 := Lib.hid (Blk.below KA3.out gd KA3.out.lt)
  have NA4 := Lib.hid (NA3.out.below gd)
  have KB4 := Lib.hid (Blk.below KB3.out gd KB3.out.lt)
  have NB4 := Lib.hid (NB3.out.below gd)
  have KC4 := Lib.hid (Blk.below KC.out gd KC.out.lt)
  have NC4 := Lib.hid (NC.out.below gd)
  have HE4 := Lib.hid (HE3.out.below gd)
  have HB4 := Lib.hid (HB3.out.trans (gd.mono HB3.out.size))
  clear g4 gd KA3 NA3 KB3 NB3 KC NC HE3 HB3 S4
  go_upto_region 5 with (fail)
  rw [← hwd]
  clear hwd
  go_wp2_with fail
  ((with_reducible refine (S5.out _ HE4.out).mono ?_); rintro r w5 ⟨rfl, g5⟩)
  obtain ⟨we, hwe⟩ : ∃ we, we = w5.alloc (.cells #[.bool false, .slice none 0 0, .int .i64 0] 27) := ⟨_, rfl⟩
  have ge := g5.trans ((show Below w5.heap.size w5 we by rw [hwe]; exact (new3 w5 27 (.bool false) (.slice none 0 0) (.int .i64 0)).2).mono g5.size)
  have KA5 := Lib.hid (Blk.below KA4.out ge KA4.out.lt)
  have NA5 := Lib.hid (NA4.out.below ge)
  have KB5 := Lib.hid (Blk.below KB4.out ge KB4.out.lt)
  have NB5 := Lib.hid (NB4.out.below ge)
  have KC5 := Lib.hid (Blk.below KC4.out ge KC4.out.lt)
  have NC5 := Lib.hid (NC4.out.below ge)
  have HB5 := Lib.hid (HB4.out.trans (ge.mono HB4.out.size))
  clear g5 ge KA4 NA4 KB4 NB4 KC4 NC4 HE4 HB4 S5
  go_upto_region 6 with (fail)
  rw [← hwe]
  clear hwe
  obtain ⟨x0, x1, x2⟩ := rest3 KA5.out
  go_wp2_with fail
  ((with_reducible refine (I1.out _ _ _ NA5.out).mono ?_); rintro r w6 ⟨rfl, g6⟩)
  obtain ⟨y0, y1, y2⟩ := rest3 (Blk.below KB5.out g6 KB5.out.lt)
  have NB6 := Lib.hid (NB5.out.below g6)
  have KC6 := Lib.hid (Blk.below KC5.out g6 KC5.out.lt)
  have NC6 := Lib.hid (NC5.out.below g6)
  have HB6 := Lib.hid (HB5.out.trans (g6.mono HB5.out.size))
  clear g6 x0 x1 x2 KB5 NB5 KC5 NC5 HB5 KA5 NA5
  go_wp2_with fail
  ((with_reducible refine (I2.out _ _ _ NB6.out).mono ?_); rintro r w7 ⟨rfl, g7⟩)
  obtain ⟨z0, z1, z2⟩ := rest3 (Blk.below KC6.out g7 KC6.out.lt)
  have NC7 := Lib.hid (NC6.out.below g7)
  have HB7 := Lib.hid (HB6.out.trans (g7.mono HB6.out.size))
  clear g7 y0 y1 y2 KC6 NC6 HB6 NB6
  go_wp2_with fail
  ((with_reducible refine (I3.out _ _ _ NC7.out).mono ?_); rintro r w8 ⟨rfl, g8⟩)
  have HB8 := Lib.hid (HB7.out.trans (g8.mono HB7.out.size))
  clear g8 z0 z1 z2 NC7 HB7
  go_wp2_with fail
  go_ret
  exact ⟨rfl, HB8.out⟩
end Go.Proofs.YtdafplhemockgaaDoor

/-
  The walk of caliperlaw11.ShortNone.
-/
namespace Go.Proofs.YtdafplhemockgaaDoor
open Go.RowKit Go.Sort

theorem text_len (va : Value) (x : Nat) (w : World) (ha : Num w va x) (hs : lw x ≤ 1048576) (htab : Tab w) :
    Calls Tryd.prog 8 #[va] w fun e w' => ∃ s : ByteArray, e = .returned (.string s) ∧ s.size = (textL x).length ∧ Below w.heap.size w w' :=
  (text_any va x w ha hs htab).mono fun _ _ ⟨he, hb⟩ => ⟨_, he, S_len _, hb⟩
theorem alloc_below (w : World) (o : Obj) : Below w.heap.size w (w.alloc o) := (Below.refl _ _).alloc (Nat.le_refl _) _
theorem alloc_cell {w : World} {p : Addr} {v : Value} {o : Obj} (h : w.cell? p = some v) : (w.alloc o).cell? p = some v := ((alloc_below w o).cell (World.block_lt_of_cell? _ _ h)).trans h
theorem below_alloc {w w' : World} {o : Obj} (g : Below (w.alloc o).heap.size (w.alloc o) w') : Below w.heap.size w w' := (alloc_below w o).trans (g.mono (alloc_below w o).size)
theorem drew_below {w w' : World} (h : Below w.heap.size w w') : Below w.drew.heap.size w.drew w' := ⟨h.os, h.tape, h.output, h.size, h.block⟩
theorem blk_alloc {w w' : World} {t : TypeId} {cs : Array Value} (g : Below (w.alloc (.cells cs t)).heap.size (w.alloc (.cells cs t)) w') : Blk w' w.heap.size t cs := Blk.below (Blk.new w t cs) g (Blk.new w t cs).lt
/-- A cell of another block stays where four cells of a block are written. -/
theorem far4 {w : World} {b g x : Nat} {a0 a1 a2 a3 : Value} {o : Option Value} (h : w.cell? ⟨g, x, none⟩ = o) (hne : b ≠ g) : ((((w.setCell ⟨b, 0, none⟩ a0).setCell ⟨b, 1, none⟩ a1).setCell ⟨b, 2, none⟩ a2).setCell ⟨b, 3, none⟩ a3).cell? ⟨g, x, none⟩ = o := by
  rw [World.cell?_setCell_far _ ⟨b, 3, none⟩ ⟨g, x, none⟩ _ hne, World.cell?_setCell_far _ ⟨b, 2, none⟩ ⟨g, x, none⟩ _ hne, World.cell?_setCell_far _ ⟨b, 1, none⟩ ⟨g, x, none⟩ _ hne, World.cell?_setCell_far _ ⟨b, 0, none⟩ ⟨g, x, none⟩ _ hne]
  exact h
theorem Num.drewB {w w' : World} {v : Value} {x : Nat} (h : Num w v x) (hb : Below w.heap.size w.drew w') : Num w' v x := h.drew.below hb

set_option maxHeartbeats 3200000 in
set_option maxRecDepth 100000 in
/-- caliperlaw11.ShortNone of what is not Finite. -/
theorem none_bad (n : Int) (p : Nat) (c : Int) (g : Bool) (m t e : Int) (w : World) (h : NotFin n p c g m t e) (hE : Env w) :
    Calls Tryd.prog 3 #[.int .i64 n, U p] w fun r w' => r = .returned (.bool true) ∧ Below w.heap.size w w' := by
  have Sh := Lib.hid fun W (hE : Env W) => shown_any W hE
  have So := Lib.hid fun W (hE : Env W) => short_bad n p c g m t e W h hE
  have te : (e != 0) = true := by simpa using h.ne
  have HE := Lib.hid hE
  clear hE h
  go_enter Tryd.func3, Tryd.ntmps3
  go_wp2_with fail
  ((with_reducible refine (Sh.out _ HE.out).mono ?_); rintro r w1 ⟨rfl, g1⟩)
  have HE1 := Lib.hid (HE.out.below g1)
  have HB1 := Lib.hid g1
  clear g1 HE Sh
  go_wp2_with fail
  ((with_reducible refine (So.out _ HE1.out).mono ?_); rintro r w2 ⟨rfl, g2⟩)
  obtain ⟨wa, hwa⟩ : ∃ wa, wa = w2.alloc (.cells #[.bool false, .slice none 0 0, .int .i64 0] 27) := ⟨_, rfl⟩
  have HB2 := Lib.hid (HB1.out.trans ((g2.trans ((show Below w2.heap.size w2 wa by rw [hwa]; exact (new3 w2 27 (.bool false) (.slice none 0 0) (.int .i64 0)).2).mono g2.size)).mono HB1.out.size))
  clear g2 HE1 HB1 So
  go_upto_region 3 with (fail)
  rw [← hwa]
  clear hwa
  go_wp2_with fail
  go_ret
  exact ⟨rfl, HB2.out⟩

set_option maxHeartbeats 12800000 in
set_option maxRecDepth 100000 in
/-- caliperlaw11.ShortNone of what is Finite. -/
theorem none_fin (n p : Nat) (w : World) (h1 : 1 ≤ n) (h2 : n < 15) (hp : p < 2 ^ (formAt n).width) (hc : clsI (formAt n) p (pKey (formAt n) p) = 2) (hE : Env w) (hT : Tab w) :
    Calls Tryd.prog 3 #[.int .i64 n, U p] w fun r w' => r = .returned (.bool true) ∧ Below w.heap.size w w' := by
  have hpn := pnum h1 h2 hp hc
  obtain ⟨d1, d2, d3⟩ := dec_is hc
  have hlM : lw (pMan n p) ≤ 1 := lw_le (k := 1) hpn.lt
  have hl1 : lw 1 ≤ 1 := lw_le (k := 1) (by decide)
  have Sh := Lib.hid fun W (hE : Env W) => shown_any W hE
  have So := Lib.hid fun W (hE : Env W) => short_pat n p W h1 h2 hp hc hE
  have De := Lib.hid fun W (hE : Env W) => decode_any n p W h1 h2 hp hE
  rw [hc, d1, d2, d3] at De
  have Xo := Lib.hid fun W => xof_fin false (pMan n p) (pExp n p) W hpn.lt (by have := hpn.e1; omega) (by have := hpn.e2; omega)
  have Lg := Lib.hid fun (vn : Value) W (h : Num W vn (pMan n p)) => log10_any false vn (pMan n p) (pExp n p) W h hpn.pos hpn.lt (by have := hpn.e1; omega) (by have := hpn.e2; omega)
  have Fl := Lib.hid fun (vn : Value) (k : Int) W (h : Num W vn (pMan n p)) (k1 : -500 ≤ k) (k2 : k ≤ 500) => floor_any false vn (pMan n p) (pExp n p) 0 k W h (by omega) (by have := hpn.e1; omega) (by have := hpn.e2; omega) (by omega) (by omega) (by omega) (by omega)
  have Dc := Lib.hid fun (vn : Value) (d : Nat) (k : Int) W (h : Num W vn d) (hd : lw d ≤ 128) (k1 : -500 ≤ k) (k2 : k ≤ 500) => dec_any (pNeg (formAt n) p) vn d k W h hd (by omega) (by omega)
  have Ad := Lib.hid fun (va vb : Value) (d : Nat) W (ha : Num W va d) (hb : Num W vb 1) (hd : lw d ≤ 128) => add_any va vb d 1 W ha hb (by omega)
  have Rd := Lib.hid fun (vn : Value) (d : Nat) (k : Int) W (h : Num W vn d) (hd : lw d ≤ 128) (k1 : -500 ≤ k) (k2 : k ≤ 500) (hE : Env W) => round_any n 2 (pNeg (formAt n) p) vn d k k W h1 h2 (.inr rfl) h ⟨hd, by omega, by omega, by omega, by omega⟩ hE
  have Law := Lib.hid fun (D : Nat) (K : Int) (h : ShortIs (pLo n p) (pHi n p) (pEv n p) (pX n p) D K) => none_law h1 h2 hp hc h
  rw [hpn.is] at Lg Fl
  obtain ⟨M, hM⟩ : ∃ M, M = pMan n p := ⟨_, rfl⟩
  obtain ⟨E, hEE⟩ : ∃ E, E = pExp n p := ⟨_, rfl⟩
  obtain ⟨ng, hng⟩ : ∃ ng, ng = pNeg (formAt n) p := ⟨_, rfl⟩
  obtain ⟨X, hXX⟩ : ∃ X, X = pX n p := ⟨_, rfl⟩
  obtain ⟨lo, hlo⟩ : ∃ lo, lo = pLo n p := ⟨_, rfl⟩
  obtain ⟨hi, hhi⟩ : ∃ hi, hi = pHi n p := ⟨_, rfl⟩
  obtain ⟨ev, hev⟩ : ∃ ev, ev = pEv n p := ⟨_, rfl⟩
  rw [← hM, ← hEE, ← hng] at De
  rw [← hM, ← hEE] at Xo
  rw [← hM, ← hEE, ← hXX] at Lg Fl
  rw [← hng] at Dc Rd
  rw [← hng, ← hlo, ← hhi, ← hev, ← hXX] at So Law
  have HE := Lib.hid hE
  have HT := Lib.hid hT
  clear hE hT hM hEE hng hXX hlo hhi hev d1 d2 d3 hpn hlM hl1 hc hp
  go_enter Tryd.func3, Tryd.ntmps3
  go_wp2_with fail
  ((with_reducible refine (Sh.out _ HE.out).mono ?_); rintro r w1 ⟨rfl, g1⟩)
  have HE1 := Lib.hid (HE.out.below g1)
  have HT1 := Lib.hid (HT.out.below g1 (Nat.le_refl _))
  have HB1 := Lib.hid g1
  clear g1 HE HT Sh
  go_wp2_with fail
  ((with_reducible refine (So.out _ HE1.out).mono ?_); rintro r w2 ⟨A, c, D, K, rfl, nD, hS, g2⟩)
  obtain ⟨hka, ba⟩ := new3 w2 27 (.bool ng) (.slice A (lw D) c) (.int .i64 K)
  obtain ⟨wa, hwa⟩ : ∃ wa, wa = w2.alloc (.cells #[.bool ng, .slice A (lw D) c, .int .i64 K] 27) := ⟨_, rfl⟩
  rw [← hwa] at hka ba
  have ga := g2.trans (ba.mono g2.size)
  have KA := Lib.hid hka
  have ND := Lib.hid (nD.below ba)
  have HB2 := Lib.hid (HB1.out.trans (ga.mono HB1.out.size))
  have HE2 := Lib.hid (HE1.out.below ga)
  have HT2 := Lib.hid (HT1.out.below ga (Nat.le_refl _))
  have law := Law.out D K hS.out.1
  obtain ⟨ℓ, hℓ⟩ : ∃ l, l = (textL D).length := ⟨_, rfl⟩
  have Te := Lib.hid fun W (h : Num W (.slice A (lw D) c) D) (hT : Tab W) => text_len _ D W h (Nat.le_trans hS.out.2 (by omega)) hT
  rw [← hℓ] at law Te
  obtain ⟨hD0, l1, l2, hlaw⟩ := law
  have HLaw := Lib.hid hlaw
  clear hka ba g2 nD ga HE1 HT1 HB1 So Law hS hℓ hD0 hlaw
  go_upto_region 3 with (fail)
  rw [← hwa]
  clear hwa
  go_wp2_with fail
  ((with_reducible refine (De.out _ HE2.out).mono ?_); rintro r w3 ⟨rfl, g3⟩)
  obtain ⟨hkb, bb⟩ := new4 w3 32 (.int .i64 2) (.bool ng) (U M) (.int .i64 E)
  obtain ⟨wb, hwb⟩ : ∃ wb, wb = w3.alloc (.cells #[.int .i64 2, .bool ng, U M, .int .i64 E] 32) := ⟨_, rfl⟩
  rw [← hwb] at hkb bb
  have gb := g3.trans (bb.mono g3.size)
  have KA3 := Lib.hid (Blk.below KA.out gb KA.out.lt)
  have ND3 := Lib.hid (ND.out.below gb)
  have KB := Lib.hid hkb
  have HB3 := Lib.hid (HB2.out.trans (gb.mono HB2.out.size))
  have HE3 := Lib.hid (HE2.out.below gb)
  have HT3 := Lib.hid (HT2.out.below gb (Nat.le_refl _))
  clear hkb bb g3 gb KA ND HE2 HT2 HB2 De
  go_upto_region 6 with (fail)
  rw [← hwb]
  clear hwb
  obtain ⟨k0, k1, k2, k3⟩ := rest4 KB.out
  go_wp2_with fail
  ((with_reducible refine (Xo.out _).mono ?_); rintro r w4 ⟨vx, rfl, nx, g4⟩)
  obtain ⟨Ax, cx, rfl, _, _, _⟩ := id nx
  obtain ⟨hkx, bx⟩ := new4 w4 36 (.bool false) (.slice Ax (lw M) cx) (.int .i64 E) (.int .i64 0)
  obtain ⟨wc, hwc⟩ : ∃ wc, wc = w4.alloc (.cells #[.bool false, .slice Ax (lw M) cx, .int .i64 E, .int .i64 0] 36) := ⟨_, rfl⟩
  rw [← hwc] at hkx bx
  have gc := g4.trans (bx.mono g4.size)
  have KA4 := Lib.hid (Blk.below KA3.out gc KA3.out.lt)
  have ND4 := Lib.hid (ND3.out.below gc)
  have KB4 := Lib.hid (Blk.below KB.out gc KB.out.lt)
  have KX := Lib.hid hkx
  have NX := Lib.hid (nx.below bx)
  have HB4 := Lib.hid (HB3.out.trans (gc.mono HB3.out.size))
  have HE4 := Lib.hid (HE3.out.below gc)
  have HT4 := Lib.hid (HT3.out.below gc (Nat.le_refl _))
  clear hkx bx nx g4 gc KA3 ND3 KB HE3 HT3 HB3 Xo k0 k1 k2 k3
  go_upto_region 7 with (fail)
  rw [← hwc]
  clear hwc
  obtain ⟨x0, x1, x2⟩ := rest3 KA4.out
  go_wp2_with fail
  ((with_reducible refine (Te.out _ ND4.out HT4.out).mono ?_); rintro r w5 ⟨s, rfl, hs, g5⟩)
  have KB5 := Lib.hid (Blk.below KB4.out g5 KB4.out.lt)
  have KX5 := Lib.hid (Blk.below KX.out g5 KX.out.lt)
  have NX5 := Lib.hid (NX.out.below g5)
  have HB5 := Lib.hid (HB4.out.trans (g5.mono HB4.out.size))
  have HE5 := Lib.hid (HE4.out.below g5)
  have t1 : decide ((ℓ : Int) < 1) = false := by simp; omega
  have t2 : decide ((25 : Int) < (ℓ : Int)) = false := by simp; omega
  have t3 : decide (ℓ < 1) = false := by simp; omega
  have t4 : decide (25 < ℓ) = false := by simp; omega
  clear g5 KA4 ND4 KB4 KX NX HE4 HT4 HB4 Te x0 x1 x2
  by_cases hone : ℓ = 1
  · have t5 : ((ℓ : Int) == 1) = true := by simp; omega
    clear hone l1 l2
    go_wp2_with fail
    go_ret
    exact ⟨rfl, HB5.out⟩
  have t5 : ((ℓ : Int) == 1) = false := by rw [beq_eq_false_iff_ne]; omega
  obtain ⟨x0, x1, x2, x3⟩ := rest4 KX5.out
  go_wp2_with fail
  ((with_reducible refine (Lg.out _ _ NX5.out).mono ?_); rintro r w6 ⟨L, rfl, hL, g6⟩)
  obtain ⟨d, k, hd, hk, dl, dh, kl, kh, hq1, hq2⟩ := HLaw.out (by omega) L hL.out
  have HQ1 := Lib.hid hq1
  have HQ2 := Lib.hid hq2
  have L1 := hL.out.2.2.1
  have L2 := hL.out.2.2.2
  have e1 : IntKind.i64.wrap (L + 2) = L + 2 := by rw [IntKind.wrap_i64]; omega
  have e2 : IntKind.i64.wrap (L + 2 - (ℓ : Int)) = k := by rw [IntKind.wrap_i64]; omega
  have HD := Lib.hid (show lw d ≤ 128 from Nat.le_trans (lw_le (k := 2) (Nat.lt_trans dh (by decide))) (by omega))
  have HD2 := Lib.hid (show lw (d + 1) ≤ 128 from Nat.le_trans (lw_le (k := 2) (Nat.lt_of_le_of_lt dh (by decide))) (by omega))
  have KB6 := Lib.hid (Blk.below KB5.out g6 KB5.out.lt)
  have KX6 := Lib.hid (Blk.below KX5.out g6 KX5.out.lt)
  have NX6 := Lib.hid (NX5.out.below g6)
  have HB6 := Lib.hid (HB5.out.trans (g6.mono HB5.out.size))
  have HE6 := Lib.hid (HE5.out.below g6)
  clear g6 KB5 KX5 NX5 HE5 HB5 Lg x0 x1 x2 x3 t1 t2 t3 t4 t5 hs hone hL HLaw hq1 hq2 dl dh hk
  obtain ⟨x0, x1, x2, x3⟩ := rest4 KX6.out
  have fl := Fl.out (.slice Ax (lw M) cx) k
  rw [show ex 1 k k = TT k from rfl, ← hd] at fl
  have Fk := Lib.hid fl
  clear fl hd Fl
  go_wp2_with fail
  ((with_reducible refine (Fk.out _ NX6.out kl kh).mono ?_); rintro r w7 ⟨vd, rfl, nd, g7⟩)
  obtain ⟨Ad', cd, rfl, _, _, _⟩ := id nd
  have KB7 := Lib.hid (Blk.below KB6.out g7 KB6.out.lt)
  have ND7 := Lib.hid nd
  have HB7 := Lib.hid (HB6.out.trans (g7.mono HB6.out.size))
  have HE7 := Lib.hid (HE6.out.below g7)
  clear g7 nd KB6 KX6 NX6 HE6 HB6 Fk x0 x1 x2 x3 e1 e2 L1 L2
  obtain ⟨k0, k1, k2, k3⟩ := rest4 KB7.out
  go_wp2_with fail
  ((with_reducible refine (Dc.out _ _ _ _ ND7.out HD.out kl kh).mono ?_); rintro r w8 ⟨vl, rfl, nl, g8⟩)
  obtain ⟨Al, cl, rfl, _, _, _⟩ := id nl
  obtain ⟨hkl, bl⟩ := new4 w8 36 (.bool ng) (.slice Al (lw d) cl) (.int .i64 k) (.int .i64 k)
  obtain ⟨wl, hwl⟩ : ∃ wl, wl = w8.alloc (.cells #[.bool ng, .slice Al (lw d) cl, .int .i64 k, .int .i64 k] 36) := ⟨_, rfl⟩
  rw [← hwl] at hkl bl
  have gl := g8.trans (bl.mono g8.size)
  have KB8 := Lib.hid (Blk.below KB7.out gl KB7.out.lt)
  have ND8 := Lib.hid (ND7.out.below gl)
  have KL := Lib.hid hkl
  have NL := Lib.hid (nl.below bl)
  have HB8 := Lib.hid (HB7.out.trans (gl.mono HB7.out.size))
  have HE8 := Lib.hid (HE7.out.below gl)
  clear g8 nl hkl bl gl KB7 ND7 HB7 HE7 k0 k1 k2 k3
  obtain ⟨k0, k1, k2, k3⟩ := rest4 KB8.out
  go_upto_region 15 with (fail)
  rw [← hwl]
  clear hwl
  have hlt3 : w3.heap.size < wl.heap.size := KB8.out.lt
  have hlt3d : w3.heap.size < wl.drew.heap.size := KB8.out.lt
  have hkd : wl.drew.cell? ⟨w3.heap.size, 1, none⟩ = some (.bool ng) := k1
  go_cut [18, 19] (fun a b wz => ∃ g Ah ch, a = .pointer (some ⟨g, 0, none⟩) ∧ b = .bool true ∧ Hid (Blk wz g 36 #[.bool ng, .slice Ah (lw (d + 1)) ch, .int .i64 k, .int .i64 k]) ∧ Hid (Num wz (.slice Ah (lw (d + 1)) ch) (d + 1)) ∧ Hid (Below wl.heap.size wl wz))
  case first =>
    go_region_held3 (fun w' => w'.cell? ⟨w3.heap.size, 1, none⟩ = some (.bool ng))
      (first
        | go_keep
        | (rw [gg.cell (World.block_lt_of_cell? _ _ (by assumption))]; assumption)
        | (with_reducible exact alloc_cell (by assumption))
        | (with_reducible exact far4 ((gc.cell (p := ⟨w3.heap.size, 1, none⟩) hlt3d).trans hkd) (Nat.ne_of_gt (by first | exact hlt3 | exact hlt3d | exact Nat.lt_of_lt_of_le hlt3d ga.size | exact Nat.lt_of_lt_of_le hlt3d gb.size)))
        | (with_reducible exact alloc_cell ((gc.cell (p := ⟨w3.heap.size, 1, none⟩) hlt3d).trans hkd))
        | (with_reducible exact alloc_cell ((gb.cell (p := ⟨w3.heap.size, 1, none⟩) hlt3d).trans hkd))
        | (with_reducible exact alloc_cell ((ga.cell (p := ⟨w3.heap.size, 1, none⟩) hlt3d).trans hkd)))
      ((first
        | (go_at_call 13; refine (of_any 1 _ (by omega)).mono ?_; rintro r ws ⟨u1, rfl, m1, gg⟩
           have ga : Below wl.drew.heap.size wl.drew ws := by first | with_reducible exact gg | with_reducible exact below_alloc gg | with_reducible exact drew_below (below_alloc (below_of_drew gg))
           first | (have HG := by with_reducible exact Lib.hid (blk_alloc gg)) | (have HG := by with_reducible exact Lib.hid (blk_alloc (below_of_drew gg))) | skip)
        | (go_at_call 12; (with_reducible refine (Ad.out _ _ _ _ (by first | exact ND8.out.drew.below ga | exact (ND8.out.drew.below ga).below (alloc_below _ _)) (by first | exact m1 | exact m1.below (alloc_below _ _)) HD.out).mono ?_); rintro r ws ⟨u2, rfl, m2, gg⟩
           have gb : Below wl.drew.heap.size wl.drew ws := by first | with_reducible exact ga.trans (gg.mono ga.size) | with_reducible exact ga.trans ((below_alloc gg).mono ga.size)
           first | (have HG := by with_reducible exact Lib.hid (Blk.below HG.out gg HG.out.lt)) | (have HG := by with_reducible exact Lib.hid (blk_alloc gg)) | skip)
        | (go_at_call 11; (with_reducible refine (Dc.out _ _ _ _ (by first | exact m2 | exact m2.below (alloc_below _ _)) HD2.out kl kh).mono ?_); rintro r ws ⟨u3, rfl, m3, gg⟩
           have gc : Below wl.drew.heap.size wl.drew ws := by first | with_reducible exact gb.trans (gg.mono gb.size) | with_reducible exact gb.trans ((below_alloc gg).mono gb.size)
           first | (have HG := (by with_reducible exact Lib.hid (Blk.below HG.out gg HG.out.lt)); obtain ⟨z0, z1, z2, z3⟩ := rest4 HG.out; have zq := fun o => Blk.frozen HG.out o) | (have HG := (by with_reducible exact Lib.hid (blk_alloc gg)); obtain ⟨z0, z1, z2, z3⟩ := rest4 HG.out; have zq := fun o => Blk.frozen HG.out o) | skip
           have m3' := m3
           obtain ⟨Ah, ch, rfl, _, _, _⟩ := m3')))
    all_goals
      have gw := below_of_drew gc
      first
      | (obtain ⟨w9, hw9, hk9, hb9, ho9⟩ := stored4 HG.out (show wl.heap.size ≤ _ by first | exact Nat.le_refl _ | exact ga.size | exact gb.size) gw (.bool ng) (.slice Ah (lw (d + 1)) ch) (.int .i64 k) (.int .i64 k)
         have hn9 := m3.off HG.out (by simp [noU]) ho9
         rw [hw9]
         have H9 := Lib.hid (And.intro hk9 (And.intro hn9 hb9))
         clear HG hw9 hk9 hb9 ho9 hn9 z0 z1 z2 z3 zq ga gb gc gg m1 m2 m3 k0 k1 k2 k3 hkd
         go_wp2_with fail
         go_meet
         exact ⟨_, Ah, ch, rfl, rfl, Lib.hid H9.out.1, Lib.hid H9.out.2.1, Lib.hid H9.out.2.2⟩)
      | (obtain ⟨w9, hw9⟩ : ∃ w9, w9 = ws.alloc (.cells #[.bool ng, .slice Ah (lw (d + 1)) ch, .int .i64 k, .int .i64 k] 36) := ⟨_, rfl⟩
         have H9 := Lib.hid (show Blk w9 ws.heap.size 36 #[.bool ng, .slice Ah (lw (d + 1)) ch, .int .i64 k, .int .i64 k] ∧ Num w9 (.slice Ah (lw (d + 1)) ch) (d + 1) ∧ Below wl.heap.size wl w9 by rw [hw9]; exact ⟨Blk.new _ _ _, m3.below (alloc_below _ _), gw.alloc gw.size _⟩)
         rw [← hw9]
         clear hw9 ga gb gc gg m1 m2 m3 k0 k1 k2 k3 hkd gw
         go_wp2_with fail
         go_meet
         exact ⟨_, Ah, ch, rfl, rfl, Lib.hid H9.out.1, Lib.hid H9.out.2.1, Lib.hid H9.out.2.2⟩)
  case rest =>
    obtain ⟨gh, Ah, ch, rfl, rfl, kH, nH, hbz⟩ := hcut
    have KL9 := Lib.hid (Blk.below KL.out hbz.out KL.out.lt)
    have NL9 := Lib.hid (NL.out.below hbz.out)
    have HB9 := Lib.hid (HB8.out.trans (hbz.out.mono HB8.out.size))
    have HE9 := Lib.hid (HE8.out.below hbz.out)
    clear hbz KB8 ND8 KL NL HB8 HE8 Ad Dc k0 k1 k2 k3
    obtain ⟨k0, k1, k2, k3⟩ := rest4 KL9.out
    go_wp2_with fail
    ((with_reducible refine (Rd.out _ _ _ _ NL9.out HD.out kl kh HE9.out).mono ?_); rintro r w10 ⟨q, rfl, hq, g10⟩)
    have tq : ((q : Int) != (p : Int)) = true := by
      have := HQ1.out q hq.out
      simp; omega
    have KH10 := Lib.hid (Blk.below kH.out g10 kH.out.lt)
    have NH10 := Lib.hid (nH.out.below g10)
    have HB10 := Lib.hid (HB9.out.trans (g10.mono HB9.out.size))
    have HE10 := Lib.hid (HE9.out.below g10)
    clear g10 hq kH nH KL9 NL9 HB9 HE9 k0 k1 k2 k3
    obtain ⟨k0, k1, k2, k3⟩ := rest4 KH10.out
    go_wp2_with fail
    ((with_reducible refine (Rd.out _ _ _ _ NH10.out HD2.out kl kh HE10.out).mono ?_); rintro r w11 ⟨q2, rfl, hq, g11⟩)
    have tr : ((q2 : Int) != (p : Int)) = true := by
      have := HQ2.out q2 hq.out
      simp; omega
    have HB11 := Lib.hid (HB10.out.trans (g11.mono HB10.out.size))
    clear g11 hq KH10 NH10 HB10 HE10 k0 k1 k2 k3
    go_wp2_with fail
    go_ret
    exact ⟨rfl, HB11.out⟩


/-- caliperlaw11.ShortNone. -/
theorem none_any (n : Int) (p : Nat) (w : World) (hp : p < 18446744073709551616) (hE : Env w) (hT : Tab w) :
    Calls Tryd.prog 3 #[.int .i64 n, U p] w fun r w' => r = .returned (.bool true) ∧ Below w.heap.size w w' := by
  rcases not_fin n p hp with ⟨k, rfl, h1, h2, hp2, hc⟩ | ⟨c, g, m, t, e, hb⟩
  · exact none_fin k p w h1 h2 hp2 hc hE hT
  · exact none_bad n p c g m t e w hb hE
end Go.Proofs.YtdafplhemockgaaDoor

/-
  caliperlaw11.ShortNone: the walk's contract (none_any) lifted to the row, and the card: the law returns true for every input.
-/
namespace Go.Proofs.YtdafplhemockgaaDoor
open Go.ChangeShapes Go.WideShapes Go.ChangeAt Go.RowKit

theorem own : ownKnob Tryd.prog.godebug = none := by kernel_rfl

section
variable {H : Type} {enc : TypeId × Value → H} {P : Program}
/-- The row's post where no argument lies in memory. -/
theorem post_flat {f : Func} {s : ChangeSpec} {apart fresh handsOn again : Bool} {W W' : World} {args : Array Value} {v : Value} {ds gs : List (DataW H)}
    (hW : DataW.Whole enc P f.params.toList s.vars apart W args.toList ds gs [])
    (hres : ∀ (b : Nat) (sp : Nat → Bool) (hd : Bool), DataW.TrodAll enc P W' b sp hd f.resultTypes.toList (v.resultList f.resultTypes.size) (s.fn H (ds ++ gs)).results [])
    (hargs : ∀ sp : Nat → Bool, DataW.TrodAll enc P W' 0 sp true f.params.toList args.toList (s.fn H (ds ++ gs)).args [])
    (hvars : ∀ sp : Nat → Bool, DataW.TrodVars enc P W' sp s.vars (s.fn H (ds ++ gs)).vars [])
    (hk : W.keptBut W' (· ∈ ([] : List MemPlace)))
    (hok : ∀ (j : Nat) (t : TypeId) (r : Value), f.resultTypes[j]? = some t → (v.resultList f.resultTypes.size)[j]? = some r → Value.okWide P W' .any 0 t r) :
    s.post enc P f apart fresh handsOn again W args v W' := by
  refine ⟨ds, gs, [], [], [], [], hW, hres _ _ _, hargs _, hvars _, World.keptBut_mono (fun p hp => by simp at hp) hk, fun _ => ?_⟩
  refine ⟨hok, _, _, ([] ++ []) ++ [], ⟨[] ++ [], [], trodAll_append (hargs _) (hres _ _ _), hvars _, rfl, ?_, ?_⟩, ?_⟩
  · intro b off hp; simp at hp
  · intro _; simp
  · intro p hp; simp at hp
end

/-- What the row's list gives. -/
theorem row_tab {W : World} (h : laidMetH Tryd.prog Rows.shortNoneRow.laid W) : Tab W :=
  tab_of (laidMetH.filter (fun x => x.1 == "internal/strconv.uint64pow10") h)
theorem row_env {W : World} (h : laidMetH Tryd.prog Rows.shortNoneRow.laid W) : Env W :=
  ⟨btab_of (laidMetH.filter (fun x => x.1 == "math/bits.deBruijn64tab") h), ftab_of (laidMetH.filter (fun x => x.1 == "caliper/forms.forms") h),
    ntab_of (show _ ∈ Rows.shortNoneRow.laid from List.Mem.tail _ (List.Mem.tail _ (List.Mem.tail _ (List.Mem.tail _ (List.Mem.head _))))) h⟩

theorem u64_nat {n : Int} (h : (Lit.int .u64 n).wf = true) : ∃ p : Nat, n = p ∧ p < 18446744073709551616 := by
  have h1 := (Lit.wf_int_iff _ _).1 h
  simp [IntKind.min, IntKind.max, IntKind.signed, IntKind.bits] at h1
  exact ⟨n.toNat, by omega, by omega⟩

set_option maxRecDepth 100000 in
/-- What the walk gives, for every argument and every world that holds the tables. -/
theorem contract (H : Type) (enc : TypeId × Value → H) (W : World) (base : Nat) (args : Array Value) (ds gs : List (DataW H)) (before : List MemPlace)
    (hval : ∀ (j : Nat) t v, Tryd.f3.params[j]? = some t → args[j]? = some v → Value.okWide Tryd.prog W .any base t v)
    (hW : DataW.Whole enc Tryd.prog Tryd.f3.params.toList Rows.shortNoneSpec.vars false W args.toList ds gs before) (hL : laidMetH Tryd.prog Rows.shortNoneRow.laid W) :
    Calls Tryd.prog 3 args W fun e W' => ∃ v, e = .returned v ∧ Rows.shortNoneSpec.post enc Tryd.prog Tryd.f3 false true false false W args v W' := by
  have hT := row_tab hL
  have hE := row_env hL
  clear hL
  have hW' := hW
  obtain ⟨p, q, hA0, hV, rfl, hfz, hnd⟩ := hW
  have hA : DataW.TrodAll enc Tryd.prog W 0 (fun _ => true) true Tryd.f3.params.toList args.toList ds p := hA0
  rw [Tryd.params3] at hA hval
  obtain ⟨v0, vs0, d0, ds0, p0, q0, hargs0, rfl, rfl, h0, r0⟩ := trodAll_cons hA
  obtain ⟨v1, vs1, d1, ds1, p1, q1, hargs1, rfl, rfl, h1, r1⟩ := trodAll_cons r0
  obtain ⟨hargsN, rfl, rfl⟩ := trodAll_nil r1
  obtain rfl : args = #[v0, v1] := by cases args; simp_all
  obtain ⟨rfl, rfl⟩ := trodVars_none hV
  have x0 := hval 0 3 v0 (by simp) (by simp)
  obtain ⟨n0, rfl, rfl, rfl, w0⟩ := open_int Tryd.underlying3 x0 h0
  have x1 := hval 1 22 v1 (by simp) (by simp)
  obtain ⟨n1, rfl, rfl, rfl, w1⟩ := open_int Tryd.underlying22 x1 h1
  clear hA0
  simp only [List.append_nil] at hW'
  obtain ⟨np, rfl, hp⟩ := u64_nat w1
  refine (none_any n0 np W hp hE hT).mono fun e W' ⟨he, hg⟩ => ?_
  subst he
  exact ⟨_, rfl, post_flat hW' (fun _ _ _ => trodAll_cons_mk (shut_bool Tryd.underlying4 _) trodAll_mk0) (fun _ => (trodAll_cons_mk (shut_int Tryd.underlying3 w0) (trodAll_cons_mk (shut_int Tryd.underlying22 w1) trodAll_mk0))) (fun _ => rfl)
    (hg.frame _) (ok_one (by kernel_rfl) rfl (okWide_bool_mk Tryd.underlying4 _))⟩

theorem laid_met (os : Os) (args : Array Value) : laidMetH Tryd.prog Rows.shortNoneRow.laid ((World.doorLaid Tryd.prog 68 os).forCall (fun _ _ => 0) ⟨#[], args, []⟩).memory :=
  laidMetH_of_parts3 (fuel := 8) (laidMet_of_run' 8 (by kernel_rfl) (by kernel_rfl)) (by kernel_rfl) (by kernel_rfl)
theorem reads (os : Os) {H : Type} (enc : TypeId × Value → H) : ∃ places, DataW.whole enc Tryd.prog ((World.doorLaid Tryd.prog 68 os).forCall (fun _ _ => 0) ⟨#[], #[.int .i64 0, .int .u64 0], []⟩).memory Tryd.f3.params.toList Rows.shortNoneSpec.vars false #[Value.int .i64 0, .int .u64 0].toList 8 = some ([.lit (.int .i64 0), .lit (.int .u64 0)], [], places) :=
  ⟨[], by kernel_rfl⟩

set_option maxRecDepth 100000 in
/-- The row's step. -/
theorem rowLifted (os : Os) (started : os.Started) (H : Type) (enc : TypeId × Value → H) (F : Stop.Interp) :
    ReturnsInHanded {} Tryd.checked os 3 .any ((OpenSpec.ofChange Rows.shortNoneSpec).preRow enc Tryd.prog Tryd.f3 Rows.shortNoneRow.domain false Rows.shortNoneRow.laid) (((OpenSpec.ofChange Rows.shortNoneSpec).at F).post enc Tryd.prog Tryd.f3 false true false false) := by
  obtain ⟨places, hx⟩ := reads os enc
  refine returnsInHanded_of_row (C := Tryd.checked) (s := OpenSpec.ofChange Rows.shortNoneSpec) own started (by kernel_rfl) Tryd.func3
    (witness_row_at (enc := enc) (C := Tryd.checked) false (World.doorLaid Tryd.prog 68 os) #[.int .i64 0, .int .u64 0] rfl (by kernel_rfl) (by kernel_rfl) (by kernel_rfl)
      (OpenSpec.preRow_of_cond 8 hx (by kernel_rfl) (fun k hk => by cases hk) (by kernel_rfl) (laid_met os _))) ?_
  intro W base args ds gs before hval hW _ _ _ hL _ _
  exact contract H enc W base args ds gs before hval hW hL

theorem said : Rows.ShortNoneSaid :=
  OpenClaim.holds_of_cond 3 Tryd.f3 rfl rfl rfl rfl rfl rfl rfl ⟨rfl, rfl, rfl, rfl, rfl⟩ rfl rfl rfl rfl rfl (by kernel_rfl) Tryd.func3 (by kernel_rfl)
    (of_decide_eq_true (by kernel_rfl)) (by unfold Func.isWrapper; first | (rw [if_pos (by decide +kernel)]; kernel_rfl) | (rw [if_neg (by decide +kernel)]; exact ⟨rfl, rfl⟩))
    (fun os started H enc _ F => by rw [OpenClaim.pre_eq_preRow]; exact rowLifted os started H enc F)

/-- No parameter wants a stand-in; the program's own looks are on. -/
theorem plain (f : FuncId) (fn : Func) (hf : Tryd.pinned.checked.prog.funcNamed "caliper/caliperlaw11.ShortNone" = some f) (hfn : Tryd.pinned.checked.prog.funcs[f]? = some fn) :
    true = Tryd.pinned.checked.prog.looks [] ∧ ∀ (j : Nat) t, fn.params[j]? = some t → Tryd.pinned.checked.prog.wantsStandIn t = false := by
  obtain rfl : f = 3 := Option.some.inj ((show Tryd.prog.funcNamed "caliper/caliperlaw11.ShortNone" = some 3 by kernel_rfl).symm.trans hf) |>.symm
  obtain rfl : fn = Tryd.f3 := (Option.some.inj (Tryd.func3.symm.trans hfn)).symm
  refine ⟨by kernel_rfl, fun j t ht => ?_⟩
  rw [Tryd.params3] at ht
  have hm : t ∈ [3, 22] := by simpa using Array.mem_of_getElem? ht
  have hall : ([3, 22].all fun u => !Tryd.prog.wantsStandIn u) = true := by kernel_rfl
  exact (show Tryd.prog.wantsStandIn t = false by simpa using List.all_eq_true.1 hall t hm)

/-- The card. -/
theorem shortNone_card : Rows.ShortNoneCardSaid :=
  Claim7.holds_tied_plain_at .later [] _ _ _ _ said (fun _ h => by cases h) (by kernel_rfl) (fun _ h => by cases h) shortNone_row_tie rfl ⟨rfl, rfl⟩ (by kernel_rfl) rfl plain (by kernel_rfl)
end Go.Proofs.YtdafplhemockgaaDoor
