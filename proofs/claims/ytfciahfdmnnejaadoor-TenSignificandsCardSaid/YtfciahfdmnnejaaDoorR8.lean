/-
  The document's comparison of exact numbers: caliperref02.Parts, Cmp.
-/
import Derived.Test.YtfciahfdmnnejaaDoorR7
import Derived.Deep.DeepCutAuto
import Derived.Deep.RegionHeld3
namespace Go.Proofs.YtfciahfdmnnejaaDoor
open Go.RowKit Go.Sort

set_option maxHeartbeats 1600000 in
set_option maxRecDepth 100000 in
/-- caliperref02.Parts: numerator and denominator. -/
theorem rparts_any (g : Bool) (vn : Value) (x : Nat) (two five : Int) (w : World) (hN : Num w vn x) (hs : lw x ≤ 64) (h1 : -5001 ≤ two) (h2 : two ≤ 5001) (h3 : -5001 ≤ five) (h4 : five ≤ 5001) :
    Calls Tryd.prog 65 #[.agg #[.bool g, vn, .int .i64 two, .int .i64 five]] w fun e w' => ∃ p q, e = .returned (.tuple #[p, q]) ∧ HN w' p (x * 5 ^ five.toNat * 2 ^ two.toNat) ∧ HN w' q (5 ^ (-five).toNat * 2 ^ (-two).toNat) ∧ Below w.heap.size w w' := by
  obtain ⟨t, ht⟩ : ∃ t, t = two.toNat := ⟨_, rfl⟩
  have em : max two 0 = (t : Int) := by omega
  obtain ⟨u, hu⟩ : ∃ u, u = (-two).toNat := ⟨_, rfl⟩
  have wt : IntKind.i64.wrap (-two) = -two := by rw [IntKind.wrap_i64]; omega
  have wf : IntKind.i64.wrap (-five) = -five := by rw [IntKind.wrap_i64]; omega
  have em2 : max (IntKind.i64.wrap (-two)) 0 = (u : Int) := by rw [wt]; omega
  rw [← ht, ← hu]
  have Hf := Lib.hid fun W => rfives_any five W (by omega)
  have Hg := Lib.hid fun W => rfives_any (-five) W (by omega)
  have ht5 : t ≤ 5001 := by omega
  have hu5 : u ≤ 5001 := by omega
  clear ht hu
  obtain ⟨F, hF⟩ : ∃ F, F = 5 ^ five.toNat := ⟨_, rfl⟩
  obtain ⟨G, hG⟩ : ∃ G, G = 5 ^ (-five).toNat := ⟨_, rfl⟩
  have hFl : H.lw F ≤ 20001 := by rw [hF]; exact h_lw_five (by omega)
  have hGl : H.lw G ≤ 20001 := by rw [hG]; exact h_lw_five (by omega)
  have hxl : H.lw x ≤ 128 := H.lw_le (by
    have h := lw_lt x
    have h' := bp_mono hs
    rw [show bp 64 = H.bp 128 from bp_half 64] at h'
    omega)
  rw [← hF, ← hG]
  rw [← hF] at Hf
  rw [← hG] at Hg
  have hxF : H.lw x + H.lw F ≤ 1048576 := by omega
  have hxF2 : H.lw (x * F) ≤ 1048576 := Nat.le_trans (H.lw_mul _ _) (by omega)
  rw [← wf] at Hg
  clear hF hG wt wf
  go_enter Tryd.func65, Tryd.ntmps65
  go_upto_region 1 with (fail)
  have b0 : Below w.heap.size w (w.alloc (.cells #[.bool g, vn, .int .i64 two, .int .i64 five] 43)) := (Below.refl _ _).alloc (Nat.le_refl _) _
  have c1 : (w.alloc (.cells #[.bool g, vn, .int .i64 two, .int .i64 five] 43)).cell? ⟨w.heap.size, 1, none⟩ = some vn := by simp
  have c2 : (w.alloc (.cells #[.bool g, vn, .int .i64 two, .int .i64 five] 43)).cell? ⟨w.heap.size, 2, none⟩ = some (.int .i64 two) := by simp
  have c3 : (w.alloc (.cells #[.bool g, vn, .int .i64 two, .int .i64 five] 43)).cell? ⟨w.heap.size, 3, none⟩ = some (.int .i64 five) := by simp
  have hN0 := hN.below b0
  generalize hw0 : w.alloc (.cells #[.bool g, vn, .int .i64 two, .int .i64 five] 43) = w0 at *
  have hlt0 : w.heap.size < w0.heap.size := by rw [← hw0]; simp
  clear hw0
  have r0 := Below.refl w0.heap.size w0
  have hC0 := Lib.hid (And.intro c2 c3)
  go_cut [4] (fun s wx => ∃ v, s = v ∧ HN wx v (x * F * 2 ^ t) ∧ Hid (wx.cell? ⟨w.heap.size, 2, none⟩ = some (.int .i64 two) ∧ wx.cell? ⟨w.heap.size, 3, none⟩ = some (.int .i64 five)) ∧ Below w.heap.size w wx ∧ w.heap.size < wx.heap.size)
  case first =>
    go_region_held3 (fun w' => w'.cell? ⟨w.heap.size, 1, none⟩ = some vn ∧ w'.cell? ⟨w.heap.size, 2, none⟩ = some (.int .i64 two) ∧ w'.cell? ⟨w.heap.size, 3, none⟩ = some (.int .i64 five))
      (first
        | go_keep
        | (go_split_ands
           refine ⟨?_, ?_, ?_⟩
           · (rw [gg.cell (World.block_lt_of_cell? _ _ (by assumption))]; assumption)
           · (rw [gg.cell (World.block_lt_of_cell? _ _ (by assumption))]; assumption)
           · (rw [gg.cell (World.block_lt_of_cell? _ _ (by assumption))]; assumption)))
      ((first
        | (go_at_call 71; refine (rhalves_any vn x _ (by exact hN0) (by omega)).mono ?_; rintro e wh ⟨vh, rfl, hh, gg⟩; have k1 := by first | exact r0.trans (gg.mono r0.size) | exact r0.drew.trans (gg.mono r0.size) | exact r0.drew.drew.trans (gg.mono r0.size))
        | (go_at_call 64; refine (Hf.out _).mono ?_; rintro e wf ⟨vf, rfl, hf, gg⟩; have k2 := by first | exact k1.trans (gg.mono k1.size) | exact k1.drew.trans (gg.mono k1.size) | exact k1.drew.drew.trans (gg.mono k1.size))
        | (go_at_call 67; refine (rtimes_any _ _ x F _ (by exact hh.below gg) (by exact hf) (by exact hxF)).mono ?_; rintro e wt ⟨vt, rfl, htt, gg⟩; have k3 := by first | exact k2.trans (gg.mono k2.size) | exact k2.drew.trans (gg.mono k2.size) | exact k2.drew.drew.trans (gg.mono k2.size))
        | (go_at_call 63; refine (rup_any _ (x * F) t _ (by exact htt) (by exact hxF2) (by omega)).mono ?_; rintro e wu ⟨vu, rfl, hu, gg⟩; have k4 := by first | exact k3.trans (gg.mono k3.size) | exact k3.drew.trans (gg.mono k3.size) | exact k3.drew.drew.trans (gg.mono k3.size))))
    all_goals
      have hC := Lib.hid (And.intro ((k4.cell (p := ⟨w.heap.size, 2, none⟩) hlt0).trans hC0.out.1) ((k4.cell (p := ⟨w.heap.size, 3, none⟩) hlt0).trans hC0.out.2))
      have hR : ∃ v, vu = v ∧ HN wu v (x * F * 2 ^ t) ∧ Hid (wu.cell? ⟨w.heap.size, 2, none⟩ = some (.int .i64 two) ∧ wu.cell? ⟨w.heap.size, 3, none⟩ = some (.int .i64 five)) ∧ Below w.heap.size w wu ∧ w.heap.size < wu.heap.size := ⟨_, rfl, hu, hC, b0.trans (k4.mono (Nat.le_of_lt hlt0)), Nat.lt_of_lt_of_le hlt0 k4.size⟩
      have HR := Lib.hid hR
      clear hC hR
      go_wp2_with ((with_reducible refine Met.intro ?_); go_step; (repeat apply Exists.intro); refine ⟨?_, rfl⟩; exact HR.out)
  case rest =>
    obtain ⟨v4, rfl, n4, hcells, b4, hlt4⟩ := hcut
    obtain ⟨c2, c3⟩ := hcells.out
    go_upto_region 2 with (fail)
    have r4 := Below.refl wc.heap.size wc
    go_region_held3 (fun w' => w'.cell? ⟨w.heap.size, 2, none⟩ = some (.int .i64 two) ∧ w'.cell? ⟨w.heap.size, 3, none⟩ = some (.int .i64 five))
      (first
        | go_keep
        | (go_split_ands
           refine ⟨?_, ?_⟩
           · (rw [gg.cell (World.block_lt_of_cell? _ _ (by assumption))]; assumption)
           · (rw [gg.cell (World.block_lt_of_cell? _ _ (by assumption))]; assumption)))
      ((first
        | (go_at_call 64; refine (Hg.out _).mono ?_; rintro e wf ⟨vf, rfl, hf, gg⟩; have k2 := by first | exact r4.trans (gg.mono r4.size) | exact r4.drew.trans (gg.mono r4.size) | exact r4.drew.drew.trans (gg.mono r4.size))
        | (go_at_call 63; refine (rup_any _ G u _ (by exact hf) (by omega) (by omega)).mono ?_; rintro e wu ⟨vu, rfl, hu, gg⟩; have k4 := by first | exact k2.trans (gg.mono k2.size) | exact k2.drew.trans (gg.mono k2.size) | exact k2.drew.drew.trans (gg.mono k2.size))))
    all_goals
      have hP := Lib.hid (n4.below k4)
      have hQ := Lib.hid hu
      have hB := Lib.hid (b4.trans (k4.mono (Nat.le_of_lt hlt4)))
      go_wp2
      go_ret2
      exact ⟨_, _, rfl, hP.out, hQ.out, hB.out⟩

/-- The four fields of an exact number, as a value. -/
def exV (g : Bool) (vn : Value) (two five : Int) : Value := .agg #[.bool g, vn, .int .i64 two, .int .i64 five]
/-- A number's place against another's, by numerators and denominators. -/
def crossI (x : Nat) (t5 f5 : Int) (y : Nat) (t6 f6 : Int) : Int :=
  cmpI ((x * 5 ^ f5.toNat * 2 ^ t5.toNat * (5 ^ (-f6).toNat * 2 ^ (-t6).toNat) : Nat) : Int) ((y * 5 ^ f6.toNat * 2 ^ t6.toNat * (5 ^ (-f5).toNat * 2 ^ (-t5).toNat) : Nat) : Int)
theorem h_lw_two {n : Nat} (h : n ≤ 5001) : H.lw (2 ^ n) ≤ 5002 := Nat.le_trans (h_lw_pow (by omega) (by omega)) (by omega)
theorem h_lw_f {n : Nat} (h : n ≤ 5001) : H.lw (5 ^ n) ≤ 5002 := Nat.le_trans (h_lw_pow (by omega) (by omega)) (by omega)
theorem h_lw_num {x a b : Nat} (hx : lw x ≤ 64) (ha : a ≤ 5001) (hb : b ≤ 5001) : H.lw (x * 5 ^ a * 2 ^ b) ≤ 10132 := by
  have hxl : H.lw x ≤ 128 := H.lw_le (by
    have h := lw_lt x
    have h' := bp_mono hx
    rw [show bp 64 = H.bp 128 from bp_half 64] at h'
    omega)
  have h1 := H.lw_mul (x * 5 ^ a) (2 ^ b)
  have h2 := H.lw_mul x (5 ^ a)
  have h3 := h_lw_two hb
  have h4 := h_lw_f ha
  omega
theorem h_lw_den {a b : Nat} (ha : a ≤ 5001) (hb : b ≤ 5001) : H.lw (5 ^ a * 2 ^ b) ≤ 10004 := by
  have h1 := H.lw_mul (5 ^ a) (2 ^ b)
  have h3 := h_lw_two hb
  have h4 := h_lw_f ha
  omega

set_option maxHeartbeats 1600000 in
set_option maxRecDepth 100000 in
/-- caliperref02.Cmp. -/
theorem rcmp_any (g k : Bool) (va vb : Value) (x y : Nat) (t5 f5 t6 f6 : Int) (w : World) (ha : Num w va x) (hb : Num w vb y) (hx : lw x ≤ 64) (hy : lw y ≤ 64)
    (a1 : -5001 ≤ t5) (a2 : t5 ≤ 5001) (a3 : -5001 ≤ f5) (a4 : f5 ≤ 5001) (b1 : -5001 ≤ t6) (b2 : t6 ≤ 5001) (b3 : -5001 ≤ f6) (b4 : f6 ≤ 5001) :
    Calls Tryd.prog 41 #[.agg #[.bool g, va, .int .i64 t5, .int .i64 f5], .agg #[.bool k, vb, .int .i64 t6, .int .i64 f6]] w fun e w' => e = .returned (.int .i64 (crossI x t5 f5 y t6 f6)) ∧ Below w.heap.size w w' := by
  have l1 := h_lw_num (a := f5.toNat) (b := t5.toNat) hx (by omega) (by omega)
  have l2 := h_lw_num (a := f6.toNat) (b := t6.toNat) hy (by omega) (by omega)
  have l3 := h_lw_den (a := (-f5).toNat) (b := (-t5).toNat) (by omega) (by omega)
  have l4 := h_lw_den (a := (-f6).toNat) (b := (-t6).toNat) (by omega) (by omega)
  have Pa := Lib.hid fun W (h : Num W va x) => rparts_any g va x t5 f5 W h hx a1 a2 a3 a4
  have Pb := Lib.hid fun W (h : Num W vb y) => rparts_any k vb y t6 f6 W h hy b1 b2 b3 b4
  unfold crossI
  obtain ⟨p, hp⟩ : ∃ p, p = x * 5 ^ f5.toNat * 2 ^ t5.toNat := ⟨_, rfl⟩
  obtain ⟨q, hq⟩ : ∃ q, q = 5 ^ (-f5).toNat * 2 ^ (-t5).toNat := ⟨_, rfl⟩
  obtain ⟨r, hr⟩ : ∃ r, r = y * 5 ^ f6.toNat * 2 ^ t6.toNat := ⟨_, rfl⟩
  obtain ⟨s, hs⟩ : ∃ s, s = 5 ^ (-f6).toNat * 2 ^ (-t6).toNat := ⟨_, rfl⟩
  rw [← hp, ← hq] at Pa
  rw [← hr, ← hs] at Pb
  rw [← hp] at l1 ⊢
  rw [← hr] at l2 ⊢
  rw [← hq] at l3 ⊢
  rw [← hs] at l4 ⊢
  clear hp hq hr hs
  go_enter Tryd.func41, Tryd.ntmps41
  go_wp2_with fail
  have e0 : Below w.heap.size w ((w.alloc (.cells #[.bool g, va, .int .i64 t5, .int .i64 f5] 43)).alloc (.cells #[.bool k, vb, .int .i64 t6, .int .i64 f6] 43)) :=
    ((Below.refl _ _).alloc (Nat.le_refl _) _).alloc (by simp) _
  have d0 : ((w.alloc (.cells #[.bool g, va, .int .i64 t5, .int .i64 f5] 43)).alloc (.cells #[.bool k, vb, .int .i64 t6, .int .i64 f6] 43)).cell? ⟨w.heap.size + 1, 0, none⟩ = some (.bool k) := by simp
  have d1 : ((w.alloc (.cells #[.bool g, va, .int .i64 t5, .int .i64 f5] 43)).alloc (.cells #[.bool k, vb, .int .i64 t6, .int .i64 f6] 43)).cell? ⟨w.heap.size + 1, 1, none⟩ = some vb := by simp
  have d2 : ((w.alloc (.cells #[.bool g, va, .int .i64 t5, .int .i64 f5] 43)).alloc (.cells #[.bool k, vb, .int .i64 t6, .int .i64 f6] 43)).cell? ⟨w.heap.size + 1, 2, none⟩ = some (.int .i64 t6) := by simp
  have d3 : ((w.alloc (.cells #[.bool g, va, .int .i64 t5, .int .i64 f5] 43)).alloc (.cells #[.bool k, vb, .int .i64 t6, .int .i64 f6] 43)).cell? ⟨w.heap.size + 1, 3, none⟩ = some (.int .i64 f6) := by simp
  have z0 : w.heap.size + 1 < ((w.alloc (.cells #[.bool g, va, .int .i64 t5, .int .i64 f5] 43)).alloc (.cells #[.bool k, vb, .int .i64 t6, .int .i64 f6] 43)).heap.size := by simp
  refine (Pa.out _ (ha.below e0)).mono ?_
  rintro e w1 ⟨v1, v2, rfl, n1, n2, g1⟩
  have e1 := e0.trans (g1.mono e0.size)
  have d0' := (g1.cell (p := ⟨w.heap.size + 1, 0, none⟩) z0).trans d0
  have d1' := (g1.cell (p := ⟨w.heap.size + 1, 1, none⟩) z0).trans d1
  have d2' := (g1.cell (p := ⟨w.heap.size + 1, 2, none⟩) z0).trans d2
  have d3' := (g1.cell (p := ⟨w.heap.size + 1, 3, none⟩) z0).trans d3
  clear d0 d1 d2 d3 z0 g1 e0
  go_wp2_with fail
  refine (Pb.out _ (hb.below e1)).mono ?_
  rintro e w2 ⟨v3, v4, rfl, n3, n4, g2⟩
  have e2 := e1.trans (g2.mono e1.size)
  replace n1 := n1.below g2
  replace n2 := n2.below g2
  clear d0' d1' d2' d3' g2 e1
  go_wp2_with fail
  refine (rtimes_any _ _ _ _ _ n1 n4 (by omega)).mono ?_
  rintro e w3 ⟨v5, rfl, n5, g3⟩
  have e3 := e2.trans (g3.mono e2.size)
  replace n2 := n2.below g3
  replace n3 := n3.below g3
  clear g3 e2 n1 n4
  go_wp2_with fail
  refine (rtimes_any _ _ _ _ _ n3 n2 (by omega)).mono ?_
  rintro e w4 ⟨v6, rfl, n6, g4⟩
  have e4 := e3.trans (g4.mono e3.size)
  replace n5 := n5.below g4
  clear g4 e3 n2 n3
  go_wp2_with fail
  refine (rcompare_any _ _ _ _ _ n5 n6).mono ?_
  rintro e w5 ⟨rfl, rfl⟩
  go_wp2
  go_ret
  exact ⟨rfl, e4⟩
end Go.Proofs.YtfciahfdmnnejaaDoor
