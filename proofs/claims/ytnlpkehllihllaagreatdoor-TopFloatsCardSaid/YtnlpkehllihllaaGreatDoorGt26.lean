/-
  A part of the proofs that calipertop.TopBack, TopFloats and TopNearest return true for every input and leave it as it was: part 26 of 47.
-/
import Derived.Test.YtnlpkehllihllaaGreatDoorGt22
import Derived.Test.YtnlpkehllihllaaGreatDoorGt21
import Derived.Test.YtnlpkehllihllaaGreatDoorGt10
/-
  The walks of short.ten, digits.
-/
namespace Go.Proofs.YtnlpkehllihllaaGreatDoor
open Go.RowKit Go.Sort

set_option maxHeartbeats 1600000 in
set_option maxRecDepth 100000 in
/-- short.ten. -/
theorem ten_any (vn : Value) (x : Nat) (k : Int) (w : World) (h : Num w vn x) (hx : lw x ≤ 128) (k1 : -5000 ≤ k) (k2 : k ≤ 5000) :
    Calls Tryz.prog 77 #[vn, .int .i64 k] w fun r w' => ∃ v, r = .returned (.agg #[.bool false, v, .int .i64 k, .int .i64 k]) ∧ Num w' v x ∧ Below w.heap.size w w' := by
  have hb0 := (new4 w 25 (.bool false) (.slice none 0 0) (.int .i64 0) (.int .i64 0)).2
  have HK := Lib.hid (new4 w 25 (.bool false) (.slice none 0 0) (.int .i64 0) (.int .i64 0)).1
  have De := Lib.hid (dec_any false vn x k _ (h.below hb0) hx k1 k2)
  have HB := Lib.hid hb0
  clear hb0 h
  go_enter Tryz.func77, Tryz.ntmps77
  go_wp2_with fail
  ((with_reducible refine (De.out).mono ?_); rintro r w1 ⟨v1, rfl, n1, g1⟩)
  have hk1 : Blk w1 w.heap.size 25 #[.bool false, .slice none 0 0, .int .i64 0, .int .i64 0] := Blk.below HK.out g1 HK.out.lt
  have n1c := n1
  obtain ⟨A1, c1, rfl, _, _, _⟩ := n1c
  obtain ⟨hka, b2⟩ := new4 w1 25 (.bool false) (.slice A1 (lw x) c1) (.int .i64 k) (.int .i64 k)
  obtain ⟨wa, hwa⟩ : ∃ wa, wa = w1.alloc (.cells #[.bool false, .slice A1 (lw x) c1, .int .i64 k, .int .i64 k] 25) := ⟨_, rfl⟩
  rw [← hwa] at hka b2
  have HKR := Lib.hid (Blk.below hk1 b2 hk1.lt)
  have B1 := Lib.hid (HB.out.trans ((g1.trans (b2.mono g1.size)).mono HB.out.size))
  have N1 := Lib.hid (n1.below b2)
  obtain ⟨j0, j1, j2, j3⟩ := rest4 hka
  obtain ⟨k0, k1, k2, k3⟩ := rest4 HKR.out
  have q0 : ∀ o, wa.frozen? ⟨w.heap.size, o, none⟩ = false := fun o => Blk.frozen HKR.out o
  clear g1 b2 hka hk1 n1
  go_upto_region 2 with (fail)
  rw [← hwa]
  clear hwa
  go_wp2_with fail
  obtain ⟨w4, hw4, hk4, hb4, ho4⟩ := stored4 HKR.out (Nat.le_refl _) B1.out (.bool false) (.slice A1 (lw x) c1) (.int .i64 k) (.int .i64 k)
  have hn4 := N1.out.off HKR.out (by simp [noU]) ho4
  obtain ⟨r0, r1, r2, r3⟩ := rest4 hk4
  rw [hw4]
  exact bodyPost_ret (v := .agg #[.bool false, .slice A1 (lw x) c1, .int .i64 k, .int .i64 k]) (by simp [results, Tryz.results77, go_sem, r0, r1, r2, r3]) rfl ⟨_, rfl, hn4, hb4⟩

/-- Three cells of one block written, one behind the other. -/
theorem stored3 {w w2 : World} {B b : Nat} {t : TypeId} {x0 x1 x2 : Value} (hk : Blk w2 b t #[x0, x1, x2]) (hB : B ≤ b) (hb : Below B w w2) (a0 a1 a2 : Value) :
    ∃ w4, ((w2.setCell ⟨b, 0, none⟩ a0).setCell ⟨b, 1, none⟩ a1).setCell ⟨b, 2, none⟩ a2 = w4 ∧ Blk w4 b t #[a0, a1, a2] ∧ Below B w w4 ∧ Off b w2 w4 := by
  refine ⟨_, rfl, ?_, ((hb.setCell hB _).setCell hB _).setCell hB _, (((Off.refl b w2).set_ 0 a0).set_ 1 a1).set_ 2 a2⟩
  have h := ((hk.set_ 0 a0).set_ 1 a1).set_ 2 a2
  simpa using h
theorem rest3 {w2 : World} {b : Nat} {t : TypeId} {x0 x1 x2 : Value} (hk : Blk w2 b t #[x0, x1, x2]) : w2.cell? ⟨b, 0, none⟩ = some x0 ∧ w2.cell? ⟨b, 1, none⟩ = some x1 ∧ w2.cell? ⟨b, 2, none⟩ = some x2 :=
  ⟨Blk.cell hk 0, Blk.cell hk 1, Blk.cell hk 2⟩
theorem new3 (w : World) (t : TypeId) (x0 x1 x2 : Value) : Blk (w.alloc (.cells #[x0, x1, x2] t)) w.heap.size t #[x0, x1, x2] ∧ Below w.heap.size w (w.alloc (.cells #[x0, x1, x2] t)) :=
  ⟨Blk.new w _ _, (Below.refl _ _).alloc (Nat.le_refl _) _⟩

theorem lw_div (x y : Nat) : lw (x / y) ≤ lw x := lw_le (Nat.lt_of_le_of_lt (Nat.div_le_self _ _) (lw_lt x))
theorem strip_le {y j x J : Nat} (h : y * 10 ^ j = x) (h0 : y ≠ 0) (hx : x < 10 ^ J) : j < J := by
  have h1 : 1 * 10 ^ j ≤ y * 10 ^ j := Nat.mul_le_mul_right _ (by omega)
  have h2 : 10 ^ j < 10 ^ J := by omega
  exact (Nat.pow_lt_pow_iff_right (by omega)).1 h2

set_option maxHeartbeats 3200000 in
set_option maxRecDepth 100000 in
/-- short.digits of what is not 0. -/
theorem digits_any (neg : Bool) (vn : Value) (x : Nat) (k : Int) (J : Nat) (w : World) (h : Num w vn x) (hx : lw x ≤ 128) (h0 : x ≠ 0) (hJ : x < 10 ^ J) (hJ2 : J ≤ 1000) (k1 : -5000 ≤ k) (k2 : k ≤ 5000) :
    Calls Tryz.prog 47 #[.bool neg, vn, .int .i64 k] w fun r w' => ∃ A c D j, r = .returned (.agg #[.bool neg, .slice A (lw D) c, .int .i64 (k + (j : Nat))]) ∧ Num w' (.slice A (lw D) c) D ∧ Hid (D * 10 ^ j = x ∧ D % 10 ≠ 0 ∧ j < J) ∧ Below w.heap.size w w' := by
  obtain ⟨hk0, hb0⟩ := new3 w 49 (.bool false) (.slice none 0 0) (.int .i64 0)
  have HK := Lib.hid hk0
  have HB := Lib.hid hb0
  have HN := Lib.hid (h.below hb0)
  obtain ⟨w0, hw0⟩ : ∃ w0, w0 = w.alloc (.cells #[.bool false, .slice none 0 0, .int .i64 0] 49) := ⟨_, rfl⟩
  rw [← hw0] at HK HB HN
  obtain ⟨A, c, rfl, _, _, _⟩ := id h
  have H0 := Lib.hid h0
  have HJ := Lib.hid hJ
  have HX := Lib.hid hx
  clear hk0 hb0 h h0 hJ hx
  go_enter Tryz.func47, Tryz.ntmps47
  go_wp2_with fail
  rw [← hw0]
  clear hw0
  go_loopw [1, 2] (fun a b wr => ∃ A c y j, a = .slice A (lw y) c ∧ b = .int .i64 (k + (j : Nat)) ∧ j ≤ J ∧ Num wr (.slice A (lw y) c) y ∧ Hid (y * 10 ^ j = x ∧ y ≠ 0 ∧ lw y ≤ 128) ∧ Hid (Below w0.heap.size w0 wr)) (fun _ b _ => (k + J - intOf b).toNat)
  case atStart => exact ⟨A, c, x, 0, rfl, by simp, Nat.zero_le _, HN.out, Lib.hid ⟨by rw [Nat.pow_zero, Nat.mul_one], H0.out, HX.out⟩, Lib.hid (Below.refl _ _)⟩
  case round =>
    obtain ⟨Ay, cy, y, j, rfl, rfl, hj, hy, hq, hbe⟩ := hrel
    have HY := Lib.hid hy
    have Dv := Lib.hid fun (va vb : Value) W (ha : Num W va y) (hb : Num W vb 10) => div_any va vb y 10 W ha hb (by have := hq.out.2.2; omega) (by omega)
    have hlp := lw_pos hq.out.2.1
    have hl2 := hq.out.2.2
    have t0 : ((lw y : Int) == 0) = false := by rw [beq_eq_false_iff_ne]; omega
    have HQ := hq
    clear hq hy
    go_wp2_with fail
    refine (of_any 10 _ (by omega)).mono ?_
    rintro r w1 ⟨v1, rfl, n1, b1⟩
    have HY1 := Lib.hid (HY.out.below b1)
    have N1 := Lib.hid n1
    have B1 := Lib.hid (hbe.out.trans (b1.mono hbe.out.size))
    clear n1 b1
    go_wp2_with fail
    ((with_reducible refine (Dv.out _ _ _ HY1.out N1.out).mono ?_); rintro r w2 ⟨vq, vr, rfl, nq, nr, b2⟩)
    have HY2 := Lib.hid (HY1.out.below b2)
    have B2 := Lib.hid (B1.out.trans (b2.mono B1.out.size))
    have NQ := Lib.hid nq
    obtain ⟨Aq, cq, rfl, _, _, _⟩ := nq
    obtain ⟨Ar, cr, rfl, _, _, _⟩ := nr
    obtain ⟨lr, hlr⟩ : ∃ lr, lr = lw (y % 10) := ⟨_, rfl⟩
    rw [← hlr]
    have HLR := Lib.hid (show lr = 0 ↔ y % 10 = 0 by rw [hlr]; exact lw_eq_zero)
    clear hlr b2
    by_cases hr : lr = 0
    · have t1 : decide ((0 : Int) < (lr : Int)) = false := by simp; omega
      have t2 : decide (0 < lr) = false := by simp; omega
      have e10 : y / 10 * 10 ^ (j + 1) = x := by
        have := HLR.out.1 hr
        rw [Nat.pow_succ, Nat.mul_comm (10 ^ j) 10, ← Nat.mul_assoc, show y / 10 * 10 = y by omega]
        exact HQ.out.1
      have hy10 : y / 10 ≠ 0 := by have := HLR.out.1 hr; have := HQ.out.2.1; omega
      have hjJ := strip_le e10 hy10 HJ.out
      have HR := Lib.hid (show y / 10 * 10 ^ (j + 1) = x ∧ y / 10 ≠ 0 ∧ lw (y / 10) ≤ 128 from ⟨e10, hy10, by have := lw_div y 10; omega⟩)
      have hjj : j + 1 ≤ J := by omega
      clear hr e10 hy10
      go_wp2_with fail
      go_roundw
      case rel => exact ⟨Aq, cq, y / 10, j + 1, rfl, congrArg (Value.int .i64) (by omega), hjj, NQ.out, HR, B2⟩
      case measure => simp [intOf]; omega
    · have t1 : decide ((0 : Int) < (lr : Int)) = true := by simp; omega
      have t2 : decide (0 < lr) = true := by simp; omega
      have HR := Lib.hid (show y % 10 ≠ 0 from fun q => hr (HLR.out.2 q))
      have HJl := Lib.hid (strip_le HQ.out.1 HQ.out.2.1 HJ.out)
      have HK2 := Lib.hid (Blk.below HK.out B2.out HK.out.lt)
      obtain ⟨k0, k1', k2'⟩ := rest3 HK2.out
      have q0 : ∀ o, w2.frozen? ⟨w.heap.size, o, none⟩ = false := fun o => Blk.frozen HK2.out o
      have HBB := Lib.hid (HB.out.trans (B2.out.mono HB.out.size))
      clear hr
      go_wp2_with fail
      obtain ⟨w4, hw4, hk4, hb4, ho4⟩ := stored3 HK2.out (Nat.le_refl _) HBB.out (.bool neg) (.slice Ay (lw y) cy) (.int .i64 (k + (j : Nat)))
      have hn4 := HY2.out.off HK2.out (by simp [noU]) ho4
      obtain ⟨r0, r1, r2⟩ := rest3 hk4
      rw [hw4]
      exact bodyPost_ret (v := .agg #[.bool neg, .slice Ay (lw y) cy, .int .i64 (k + (j : Nat))]) (by simp [results, Tryz.results47, go_sem, r0, r1, r2]) rfl ⟨Ay, cy, y, j, rfl, hn4, Lib.hid ⟨HQ.out.1, HR.out, HJl.out⟩, hb4⟩
end Go.Proofs.YtnlpkehllihllaaGreatDoor

/-
  The walk of layout.Right, of shortest digits.
-/
namespace Go.Proofs.YtnlpkehllihllaaGreatDoor
open Go.RowKit Go.Sort

/-- A number that is not 0 has a last word that is not 0. -/
theorem num_last {w : World} {A : Option Addr} {c n : Nat} (h : Num w (.slice A (lw n) c) n) (h0 : n ≠ 0) : ∃ b off x, A = some ⟨b, off, none⟩ ∧ w.cell? ⟨b, off + (lw n - 1), none⟩ = some (U x) ∧ x ≠ 0 ∧ 1 ≤ lw n ∧ lw n ≤ c ∧ c ≤ maxLen := by
  obtain ⟨A', c', e, h1, h2, h3⟩ := h
  cases e
  have hl := lw_pos h0
  have hw := last_word h0
  rcases h3 with h3 | ⟨b, off, e, hb, hc⟩
  · have := congrArg List.length h3
    rw [wds_length] at this
    simp at this
    omega
  · have hc0 := hc (lw n - 1) (by rw [wds_length]; omega)
    exact ⟨b, off, _, e, hc0, hw, by omega, h1, h2⟩

set_option maxHeartbeats 3200000 in
set_option maxRecDepth 100000 in
/-- layout.Right of digits that are no multiple of ten. -/
theorem lright_any (ng : Bool) (A : Option Addr) (c D : Nat) (K : Int) (w : World) (hN : Num w (.slice A (lw D) c) D) (hD : D % 10 ≠ 0) (hb : D < 10 ^ 22) (k1 : -5000 ≤ K) (k2 : K ≤ 5000) (hT : Tab w) :
    Calls Tryz.prog 95 #[.agg #[.bool ng, .slice A (lw D) c, .int .i64 K]] w fun r w' => r = .returned (.bool true) ∧ Below w.heap.size w w' := by
  have hD0 : D ≠ 0 := fun q => hD (by rw [q])
  have hl2 : lw D ≤ 2 := lw_le (k := 2) (Nat.lt_trans hb (by decide))
  obtain ⟨hk0, hb0⟩ := new3 w 49 (.bool ng) (.slice A (lw D) c) (.int .i64 K)
  obtain ⟨w0, hw0⟩ : ∃ w0, w0 = w.alloc (.cells #[.bool ng, .slice A (lw D) c, .int .i64 K] 49) := ⟨_, rfl⟩
  rw [← hw0] at hk0 hb0
  have hN0 := hN.below hb0
  obtain ⟨b, off, x, rfl, hc, hx0, hl1, hlc, hcm⟩ := num_last hN0 hD0
  have Te := Lib.hid fun W (h : Num W (.slice (some ⟨b, off, none⟩) (lw D) c) D) (hT : Tab W) => text_any _ D W h (by omega) hT
  obtain ⟨tb, tl, htx, h48⟩ := text_last hD
  obtain ⟨t1', t2'⟩ := textL_len D hD0
  have hlen22 : (textL D).length ≤ 22 := by
    rcases Nat.lt_or_ge 22 (textL D).length with q | q
    · have : 10 ^ 22 ≤ 10 ^ ((textL D).length - 1) := Nat.pow_le_pow_right (by omega) (by omega)
      omega
    · exact q
  obtain ⟨s, hs⟩ : ∃ s : ByteArray, s = ⟨(textL D).toArray⟩ := ⟨_, rfl⟩
  rw [show S (textL D) = .string s by rw [hs]] at Te
  have hsl : s.size = (textL D).length := by rw [hs]; show (textL D).toArray.size = _; simp
  obtain ⟨ℓ, hℓ⟩ : ∃ l, l = tl.length := ⟨_, rfl⟩
  have hsz : s.size = ℓ + 1 := by rw [hsl, htx, List.length_append, hℓ]; rfl
  obtain ⟨hq, hbt⟩ := byte_of (s := s) (i := ℓ) (c := tb) (by rw [hs]; show (textL D).toArray.toList[ℓ]? = some tb; rw [htx, hℓ]; simp)
  have t46 : (((tb.toNat : Nat) : Int) != 48) = true := by
    have : tb.toNat ≠ 48 := fun q => h48 (UInt8.toNat_inj.1 q)
    simp
    omega
  obtain ⟨N, hNN⟩ : ∃ N, N = lw D := ⟨_, rfl⟩
  rw [← hNN] at hk0 hw0 hN0 hl1 hl2 hc hlc Te ⊢
  have t9 : ((N : Int) == 0) = false := by rw [beq_eq_false_iff_ne]; omega
  have t14 : decide ((128 : Int) < (N : Int)) = false := decide_eq_false (by omega)
  have t15 : decide (128 < N) = false := decide_eq_false (by omega)
  have e19 : IntKind.i64.wrap ((N : Int) - 1) = ((N - 1 : Nat) : Int) := by rw [IntKind.wrap_i64]; omega
  have t22 : (((x : Nat) : Int) == 0) = false := by rw [beq_eq_false_iff_ne]; omega
  have t27 : decide (K < (-5000 : Int)) = false := decide_eq_false (by omega)
  have t32 : decide ((5000 : Int) < K) = false := decide_eq_false (by omega)
  have t39 : decide ((s.size : Int) ≤ 2000) = true := decide_eq_true (by omega)
  have t40 : decide (s.size ≤ 2000) = true := decide_eq_true (by omega)
  have e44 : IntKind.i64.wrap ((s.size : Int) - 1) = (ℓ : Int) := by rw [IntKind.wrap_i64]; omega
  obtain ⟨x0, x1, x2⟩ := rest3 hk0
  have HN0 := Lib.hid hN0
  have HT0 := Lib.hid (hT.below hb0 (Nat.le_refl _))
  have HB0 := Lib.hid hb0
  obtain ⟨M, hM⟩ : ∃ M, M = N - 1 := ⟨_, rfl⟩
  rw [← hM] at hc e19
  have hMN : M < N := by omega
  clear hk0 hb0 hN0 hN hT hNN hs htx t1' t2' hℓ hsl hD hb hD0 hM hsz hlen22
  go_enter Tryz.func95, Tryz.ntmps95
  go_upto_region 1 with (fail)
  rw [← hw0]
  clear hw0
  go_wp2_with fail
  ((with_reducible refine (Te.out _ HN0.out HT0.out).mono ?_); rintro r w1 ⟨rfl, g1⟩)
  have HB1 := Lib.hid (HB0.out.trans (g1.mono HB0.out.size))
  clear g1
  go_wp2_with fail
  go_ret
  exact ⟨rfl, HB1.out⟩
end Go.Proofs.YtnlpkehllihllaaGreatDoor
