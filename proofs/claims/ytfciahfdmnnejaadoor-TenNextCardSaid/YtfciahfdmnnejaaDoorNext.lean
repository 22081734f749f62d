/-
  The walk of caliperlaw03.TenNext.
-/
import Derived.Test.YtfciahfdmnnejaaDoorTops
import Derived.Test.YtfciahfdmnnejaaDoorExC
namespace Go.Proofs.YtfciahfdmnnejaaDoor
open Go.RowKit Go.Sort

theorem next_facts {k : Int} (h1 : -400 ≤ k) (h2 : k ≤ 399) : ∃ d : Nat, lo2 (k + 1) - 127 - (lo2 k - 127) = (d : Int) ∧ (d = 3 ∨ d = 4) ∧ sigS k * 10 < (sigS (k + 1) + 1) * 2 ^ d ∧ sigS (k + 1) * 2 ^ d < (sigS k + 1) * 10 := by
  have h := next_at h1 h2
  have a := (sig_range h1 (by omega)).2.2
  have b := (sig_range (k := k + 1) (by omega) (by omega)).2.2
  unfold nextAt at h
  simp only [Bool.and_eq_true, Bool.or_eq_true, decide_eq_true_eq] at h
  rw [a, b] at h
  obtain ⟨⟨h3, h4⟩, h5⟩ := h
  rcases h3 with h3 | h3
  · exact ⟨3, by omega, .inl rfl, by rw [h3] at h4; exact h4, by rw [h3] at h5; exact h5⟩
  · exact ⟨4, by omega, .inr rfl, by rw [h3] at h4; exact h4, by rw [h3] at h5; exact h5⟩
theorem Num.slice {w : World} {v : Value} {x : Nat} (h : Num w v x) : ∃ A c, v = .slice A (lw x) c := by
  obtain ⟨A, c, e, _⟩ := h
  exact ⟨A, c, e⟩
theorem Blk.then_ {w w' : World} {g : Nat} {t : TypeId} {cs : Array Value} (h : Blk w g t cs) (hb : Below w.heap.size w w') : Blk w' g t cs := Blk.below h hb h.lt
theorem Blk.new' {w : World} {g : Nat} (hg : w.heap.size = g) (t : TypeId) (cs : Array Value) : Blk (w.alloc (.cells cs t)) g t cs := by
  subst hg
  exact Blk.new w t cs
theorem blen_lo {x a : Nat} (h : 2 ^ a ≤ x) : a + 1 ≤ blen x := by
  have h1 := blen_lt x
  have h2 : 2 ^ a < 2 ^ blen x := Nat.lt_of_le_of_lt h h1
  exact (Nat.pow_lt_pow_iff_right (by omega)).1 h2
theorem blen_hi {x b : Nat} (h : x < 2 ^ b) : blen x ≤ b := by
  by_cases h0 : x = 0
  · rw [h0, blen_zero]; omega
  · have h1 := blen_ge h0
    have h2 : 2 ^ (blen x - 1) < 2 ^ b := Nat.lt_of_le_of_lt h1 h
    have := (Nat.pow_lt_pow_iff_right (by omega)).1 h2
    omega
theorem blen_of {x n : Nat} (h1 : 2 ^ n ≤ x) (h2 : x < 2 ^ (n + 1)) : blen x = n + 1 := blen_eq h1 h2
theorem num_lit' {w : World} {b g : Nat} (hg : w.heap.size = g) (h0 : b ≠ 0) (h : b < 18446744073709551616) : Num (w.alloc (.cells #[.int .u64 b] 30)) (.slice (some ⟨g, 0, none⟩) 1 1) b := by
  subst hg
  exact num_lit w b h0 h

set_option maxHeartbeats 3200000 in
set_option maxRecDepth 100000 in
theorem tenNext_any (n : Int) (w : World) (htab : Tab w) :
    Calls Tryd.prog 10 #[.int .i64 n] w fun e w' => e = .returned (.bool true) ∧ Below w.heap.size w w' := by
  obtain ⟨a, hA, hA2⟩ := and16_mod n 800 (by omega)
  replace hA : (bits .and .i64 n 65535).tmod 800 = (a : Int) := hA
  obtain ⟨K, hK⟩ : ∃ K : Int, K = (a : Int) - 400 := ⟨_, rfl⟩
  have hK' : (a : Int) - 400 = K := hK.symm
  have h1 : -400 ≤ K := by omega
  have h2 : K ≤ 399 := by omega
  clear hK
  obtain ⟨hi, lo, a1, a2, a3, a4, a5⟩ := sig_words (k := K) h1 (by omega)
  obtain ⟨up, low, b1, b2, b3, b4, b5⟩ := sig_words (k := K + 1) (by omega) (by omega)
  obtain ⟨d, hd1, hd2, hd3, hd4⟩ := next_facts h1 h2
  obtain ⟨c1, c2, _⟩ := sig_range (k := K) h1 (by omega)
  obtain ⟨e1, e2, _⟩ := sig_range (k := K + 1) (by omega) (by omega)
  have i1 : -2000 ≤ lo2 K := by unfold lo2 cutI; omega
  have i2 : lo2 K ≤ 2000 := by unfold lo2 cutI; omega
  rw [a4] at c1 c2 hd3 hd4
  rw [b4] at e1 e2 hd3 hd4
  obtain ⟨s, hs⟩ : ∃ s, s = lo + 18446744073709551616 * hi := ⟨_, rfl⟩
  obtain ⟨t, ht⟩ : ∃ t, t = low + 18446744073709551616 * up := ⟨_, rfl⟩
  rw [← hs] at c1 c2 hd3 hd4
  rw [← ht] at e1 e2 hd3 hd4
  obtain ⟨e, he⟩ : ∃ e, e = lo2 K - 127 := ⟨_, rfl⟩
  obtain ⟨f, hf⟩ : ∃ f, f = lo2 (K + 1) - 127 := ⟨_, rfl⟩
  rw [← he] at a5 hd1
  rw [← hf] at b5 hd1
  have i3 : -2200 ≤ e := by omega
  have i4 : e ≤ 2200 := by omega
  have i5 : -2200 ≤ f := by omega
  have i6 : f ≤ 2200 := by omega
  have Sa := Lib.hid a5
  have Sb := Lib.hid b5
  have Na := Lib.hid fun (w w0 : World) (hw : w = w0.alloc (.cells #[U lo, U hi] 30)) => norm_two w w0 hi lo a1 a3 hw
  have Nb := Lib.hid fun (w w0 : World) (hw : w = w0.alloc (.cells #[U low, U up] 30)) => norm_two w w0 up low b1 b3 hw
  rw [← hs] at Na
  rw [← ht] at Nb
  have l1 : lw s ≤ 2 := lw_le (by rw [show bp 2 = 2 ^ 128 from rfl]; exact c2)
  have l2 : lw t ≤ 2 := lw_le (by rw [show bp 2 = 2 ^ 128 from rfl]; exact e2)
  have l10 : lw 10 ≤ 1 := lw_le (by decide)
  have l1' : lw 1 ≤ 1 := lw_le (by decide)
  have l3 := lw_mul s 10
  have l4 := lw_add s 1
  have l5 := lw_mul (s + 1) 10
  have l6 := lw_add t 1
  have X1 : ∀ (W : World) (va vb : Value), Num W va (s * 10) → Num W vb (t + 1) → Calls Tryd.prog 32 #[.agg #[.bool false, va, .int .i64 e, .int .i64 0], .agg #[.bool false, vb, .int .i64 f, .int .i64 0]] W fun r w' => r = .returned (.int .i64 (-1)) ∧ Below W.heap.size W w' := by
    intro W va vb ha hb
    have q1 := blen_lo (a := 130) (x := s * 10) (by omega)
    have q2 := blen_hi (b := 132) (x := s * 10) (by omega)
    have q3 := blen_lo (a := 127) (x := t + 1) (by omega)
    have q4 := blen_hi (b := 129) (x := t + 1) (by omega)
    have h := cmpE_any false false va vb (s * 10) (t + 1) e f W ha hb (by omega) (by omega) (by omega) (by omega) (by omega) (by omega) (by omega) (by omega) (by omega) (by omega)
    rw [show (e - f).toNat = 0 by omega, show (-(e - f)).toNat = d by omega, Nat.pow_zero, Nat.mul_one, cmpI_lt (Int.ofNat_lt.2 hd3)] at h
    exact h
  have X2 : ∀ (W : World) (va vb : Value), Num W va t → Num W vb ((s + 1) * 10) → Calls Tryd.prog 32 #[.agg #[.bool false, va, .int .i64 f, .int .i64 0], .agg #[.bool false, vb, .int .i64 e, .int .i64 0]] W fun r w' => r = .returned (.int .i64 (-1)) ∧ Below W.heap.size W w' := by
    intro W va vb ha hb
    have q1 := blen_lo (a := 130) (x := (s + 1) * 10) (by omega)
    have q2 := blen_hi (b := 132) (x := (s + 1) * 10) (by omega)
    have q3 := blen_lo (a := 127) (x := t) (by omega)
    have q4 := blen_hi (b := 128) (x := t) (by omega)
    have h := cmpE_any false false va vb t ((s + 1) * 10) f e W ha hb (by omega) (by omega) (by omega) (by omega) (by omega) (by omega) (by omega) (by omega) (by omega) (by omega)
    rw [show (f - e).toNat = d by omega, show (-(f - e)).toNat = 0 by omega, Nat.pow_zero, Nat.mul_one, cmpI_lt (Int.ofNat_lt.2 hd4)] at h
    exact h
  have HX1 := Lib.hid X1
  have HX2 := Lib.hid X2
  obtain ⟨δ, hfe, hδ⟩ : ∃ δ : Int, f - e = δ ∧ (δ = 3 ∨ δ = 4) := ⟨d, hd1, by omega⟩
  clear X1 X2 a4 b4 a5 b5 hd1 hd3 hd4 c1 c2 e1 e2 hs ht he hf hA2
  clear hd2
  rcases hδ with rfl | rfl
  all_goals
    go_enter Tryd.func10, Tryd.ntmps10
    go_wp2_with fail
    refine (shown_any _ htab).mono ?_
    rintro r w1 ⟨rfl, g1⟩
    go_wp2_with fail
    refine (Sa.out _).mono ?_
    rintro r w2 ⟨rfl, g2⟩
    go_wp2_with fail
    refine (Sb.out _).mono ?_
    rintro r w3 ⟨rfl, g3⟩
    have k3 := (g1.trans (g2.mono g1.size)).trans (g3.mono (Nat.le_trans g1.size g2.size))
    clear g1 g2 g3
    go_wp2_with fail
    refine (Na.out _ _ rfl).mono ?_
    rintro r w4 ⟨vs, rfl, ns, g4⟩
    have k4 := k3.trans (g4.mono k3.size)
    clear k3 g4
    go_wp2_with fail
    refine (Nb.out _ _ rfl).mono ?_
    rintro r w5 ⟨vt, rfl, nt, g5⟩
    have k5 := k4.trans (g5.mono k4.size)
    replace ns := ns.below g5
    obtain ⟨At, ct, rfl⟩ := nt.slice
    clear k4 g5
    go_wp2_with fail
    have z5 : Below w5.heap.size w5 (w5.alloc (.cells #[.int .u64 ((10 : Nat) : Int)] 30)) := (Below.refl _ _).alloc (Nat.le_refl _) _
    refine (mul_any _ _ s 10 _ (ns.below z5) (num_lit w5 10 (by omega) (by omega)) (by omega)).mono ?_
    rintro r w6 ⟨va, rfl, na, g6⟩
    obtain ⟨Aa, ca, rfl⟩ := na.slice
    have y6 := z5.trans (g6.mono z5.size)
    have k6 := k5.trans (y6.mono k5.size)
    replace ns := ns.below y6
    replace nt := nt.below y6
    clear k5 z5 g6 y6
    go_wp2_with fail
    have z6 : Below w6.heap.size w6 ((w6.alloc (.cells #[.bool false, .slice Aa (lw (s * 10)) ca, .int .i64 e, .int .i64 0] 43)).alloc (.cells #[.int .u64 ((1 : Nat) : Int)] 30)) := ((Below.refl _ _).alloc (Nat.le_refl _) _).alloc (by simp) _
    have ka0 := (Blk.new w6 43 #[.bool false, .slice Aa (lw (s * 10)) ca, .int .i64 e, .int .i64 0]).alloc (.cells #[.int .u64 ((1 : Nat) : Int)] 30)
    refine (add_any _ _ s 1 _ (ns.below z6) (num_lit' (by simp) (by omega) (by omega)) (by omega)).mono ?_
    rintro r w7 ⟨vc, rfl, nc, g7⟩
    have y7 := z6.trans (g7.mono z6.size)
    have k7 := k6.trans (y7.mono k6.size)
    have ka := ka0.then_ g7
    replace nt := nt.below y7
    replace na := na.below y7
    have o7 := y7.size
    have ol := ka.lt
    clear k6 z6 g7 y7 ka0 ns
    go_wp2_with fail
    have z7 : Below w7.heap.size w7 (w7.alloc (.cells #[.int .u64 ((10 : Nat) : Int)] 30)) := (Below.refl _ _).alloc (Nat.le_refl _) _
    refine (mul_any _ _ (s + 1) 10 _ (nc.below z7) (num_lit w7 10 (by omega) (by omega)) (by omega)).mono ?_
    rintro r w8 ⟨vb, rfl, nb, g8⟩
    obtain ⟨Ab, cb, rfl⟩ := nb.slice
    have y8 := z7.trans (g8.mono z7.size)
    have k8 := k7.trans (y8.mono k7.size)
    replace ka := ka.then_ y8
    replace nt := nt.below y8
    replace na := na.below y8
    have o8 := y8.size
    clear k7 z7 g8 y8 nc
    go_wp2_with fail
    have z8 : Below w8.heap.size w8 (((w8.alloc (.cells #[.bool false, .slice Ab (lw ((s + 1) * 10)) cb, .int .i64 e, .int .i64 0] 43)).alloc (.cells #[.bool false, .slice At (lw t) ct, .int .i64 f, .int .i64 0] 43)).alloc (.cells #[.int .u64 ((1 : Nat) : Int)] 30)) := (((Below.refl _ _).alloc (Nat.le_refl _) _).alloc (by simp) _).alloc (by simp; omega) _
    have kb0 := ((Blk.new w8 43 #[.bool false, .slice Ab (lw ((s + 1) * 10)) cb, .int .i64 e, .int .i64 0]).alloc (.cells #[.bool false, .slice At (lw t) ct, .int .i64 f, .int .i64 0] 43)).alloc (.cells #[.int .u64 ((1 : Nat) : Int)] 30)
    have kc0 := (Blk.new' (w := w8.alloc (.cells #[.bool false, .slice Ab (lw ((s + 1) * 10)) cb, .int .i64 e, .int .i64 0] 43)) (g := w8.heap.size + 1) (by simp) 43 #[.bool false, .slice At (lw t) ct, .int .i64 f, .int .i64 0]).alloc (.cells #[.int .u64 ((1 : Nat) : Int)] 30)
    refine (add_any _ _ t 1 _ (nt.below z8) (num_lit' (by simp) (by omega) (by omega)) (by omega)).mono ?_
    rintro r w9 ⟨vd, rfl, nd, g9⟩
    obtain ⟨Ad, cd, rfl⟩ := nd.slice
    have y9 := z8.trans (g9.mono z8.size)
    have k9 := k8.trans (y9.mono k8.size)
    replace ka := ka.then_ y9
    have kb := kb0.then_ g9
    have kc := kc0.then_ g9
    replace nt := nt.below y9
    replace na := na.below y9
    replace nb := nb.below y9
    clear k8 z8 g9 y9 kb0 kc0
    have x0 : w9.cell? ⟨w6.heap.size, 0, none⟩ = some (.bool false) := Blk.cell ka 0
    have x1 : w9.cell? ⟨w6.heap.size, 1, none⟩ = some (.slice Aa (lw (s * 10)) ca) := Blk.cell ka 1
    have x2 : w9.cell? ⟨w6.heap.size, 2, none⟩ = some (.int .i64 e) := Blk.cell ka 2
    have x3 : w9.cell? ⟨w6.heap.size, 3, none⟩ = some (.int .i64 0) := Blk.cell ka 3
    have v1 := ka.lt
    have v2 := kb.lt
    have v3 := kc.lt
    go_wp2_with fail
    have zA : Below w9.heap.size w9 (w9.alloc (.cells #[.bool false, .slice Ad (lw (t + 1)) cd, .int .i64 f, .int .i64 0] 43)) := (Below.refl _ _).alloc (Nat.le_refl _) _
    refine (HX1.out _ _ _ (na.below zA) (nd.below zA)).mono ?_
    rintro r wA ⟨rfl, gA⟩
    have yA := zA.trans (gA.mono zA.size)
    have kA := k9.trans (yA.mono k9.size)
    replace kb := kb.then_ yA
    replace kc := kc.then_ yA
    replace nt := nt.below yA
    replace nb := nb.below yA
    clear x0 x1 x2 x3 zA gA yA k9 na nd ka v1 v2 v3
    have x0 : wA.cell? ⟨w8.heap.size, 0, none⟩ = some (.bool false) := Blk.cell kb 0
    have x1 : wA.cell? ⟨w8.heap.size, 1, none⟩ = some (.slice Ab (lw ((s + 1) * 10)) cb) := Blk.cell kb 1
    have x2 : wA.cell? ⟨w8.heap.size, 2, none⟩ = some (.int .i64 e) := Blk.cell kb 2
    have x3 : wA.cell? ⟨w8.heap.size, 3, none⟩ = some (.int .i64 0) := Blk.cell kb 3
    have u0 : wA.cell? ⟨w8.heap.size + 1, 0, none⟩ = some (.bool false) := Blk.cell kc 0
    have u1 : wA.cell? ⟨w8.heap.size + 1, 1, none⟩ = some (.slice At (lw t) ct) := Blk.cell kc 1
    have u2 : wA.cell? ⟨w8.heap.size + 1, 2, none⟩ = some (.int .i64 f) := Blk.cell kc 2
    have u3 : wA.cell? ⟨w8.heap.size + 1, 3, none⟩ = some (.int .i64 0) := Blk.cell kc 3
    go_wp2_with fail
    refine (HX2.out _ _ _ nt nb).mono ?_
    rintro r wB ⟨rfl, gB⟩
    have kB := kA.trans (gB.mono kA.size)
    clear x0 x1 x2 x3 u0 u1 u2 u3 kA gB nt nb kb kc
    go_wp2
    go_ret
    exact ⟨rfl, kB⟩
end Go.Proofs.YtfciahfdmnnejaaDoor
