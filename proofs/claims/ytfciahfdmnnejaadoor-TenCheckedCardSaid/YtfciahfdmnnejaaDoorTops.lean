/-
  The walk of caliperlaw03.TenTops.
-/
import Derived.Test.YtfciahfdmnnejaaDoorSigL
namespace Go.Proofs.YtfciahfdmnnejaaDoor
open Go.RowKit Go.Sort

/-- The two words of a significand. -/
theorem sig_words {k : Int} (h1 : -400 ≤ k) (h2 : k ≤ 400) : ∃ hi lo : Nat, hi < 18446744073709551616 ∧ 9223372036854775808 ≤ hi ∧ lo < 18446744073709551616 ∧ sigS k = lo + 18446744073709551616 * hi ∧
    ∀ w : World, Calls Tryd.prog 22 #[.int .i64 k] w fun e w' => e = .returned (.tuple #[U hi, U lo, .int .i64 (lo2 k - 127)]) ∧ Below w.heap.size w w' := by
  obtain ⟨a, b, c⟩ := sig_range h1 h2
  have h := fun w => sig_any k w h1 h2
  rw [c] at h
  generalize sigS k = s at *
  have e1 : (2 : Nat) ^ 127 = 9223372036854775808 * 18446744073709551616 := rfl
  have e2 : (2 : Nat) ^ 128 = 18446744073709551616 * 18446744073709551616 := rfl
  rw [e1] at a
  rw [e2] at b
  exact ⟨s / 18446744073709551616, s % 18446744073709551616, by omega, by omega, by omega, by omega, h⟩
/-- nat.Norm of two words. -/
theorem norm_two (w w0 : World) (hi lo : Nat) (h1 : hi < 18446744073709551616) (h2 : lo < 18446744073709551616) (hw : w = w0.alloc (.cells #[U lo, U hi] 30)) :
    Calls Tryd.prog 28 #[.slice (some ⟨w0.heap.size, 0, none⟩) 2 2] w fun e w' => ∃ v, e = .returned v ∧ Num w' v (lo + 18446744073709551616 * hi) ∧ Below w0.heap.size w0 w' := by
  have hwb : WB w w0.heap.size [lo, hi] := by rw [hw]; exact Blk.new w0 30 _
  have hb : Below w0.heap.size w0 w := by rw [hw]; exact (Below.refl _ _).alloc (Nat.le_refl _) _
  refine (norm_any (some ⟨w0.heap.size, 0, none⟩) 2 2 [lo, hi] w hwb.rw_ rfl (Nat.le_refl _) (by unfold maxLen; omega) (okw_cons h2 (okw_cons h1 okw_nil)) (by omega)).mono ?_
  rintro e w' ⟨v, rfl, h3, h4⟩
  have e : val [lo, hi] = lo + 18446744073709551616 * hi := by simp [val]
  rw [e] at h3
  exact ⟨v, rfl, h3, hb.trans (h4.mono hb.size)⟩

set_option maxHeartbeats 1600000 in
set_option maxRecDepth 100000 in
theorem tenTops_any (n : Int) (w : World) (htab : Tab w) :
    Calls Tryd.prog 8 #[.int .i64 n] w fun e w' => e = .returned (.bool true) ∧ Below w.heap.size w w' := by
  obtain ⟨K, hK⟩ : ∃ K, K = n.tmod 401 := ⟨_, rfl⟩
  have h1 : -400 ≤ K := by rw [hK]; have := Int.lt_tmod_of_pos n (show (0 : Int) < 401 by omega); omega
  have h2 : K ≤ 400 := by rw [hK]; have := Int.tmod_lt_of_pos n (show (0 : Int) < 401 by omega); omega
  have hN0 : n.tmod 401 = K := hK.symm
  clear hK
  obtain ⟨hi, lo, a1, a2, a3, a4, a5⟩ := sig_words h1 h2
  have ce : cutI K = K := by unfold cutI; omega
  have hE : -4000 ≤ lo2 K ∧ lo2 K ≤ 4000 := by unfold lo2; rw [ce]; omega
  obtain ⟨i1, i2⟩ := hE
  have Lb := Lib.hid fun W => lo2_of K (lo2 K) W rfl
  have Sg := Lib.hid a5
  have A4 := Lib.hid a4
  have hsr := sig_range h1 h2
  have ex := fun (m : Nat) (hm : K = (m : Int)) (h38 : m ≤ 38) => sig_exact h38
  have Ex := Lib.hid ex
  obtain ⟨L, hL⟩ : ∃ L, L = lo2 K := ⟨_, rfl⟩
  have Hsr := Lib.hid hsr
  rw [← hL] at Lb Sg i1 i2 Hsr
  have eh : (hi : Int) / 9223372036854775808 = 1 := by omega
  clear hL a4 a5 hsr ex ce
  by_cases hk : 0 ≤ K ∧ K ≤ 38
  · obtain ⟨m, rfl⟩ := Int.eq_ofNat_of_zero_le hk.1
    have hm : m ≤ 38 := by omega
    have t1 : decide ((m : Int) < 0) = false := by simp
    have t2 : decide ((38 : Int) < (m : Int)) = false := by simp; omega
    have hx := Ex.out m rfl hm
    have hs1 := Hsr.out
    obtain ⟨sh, hsh⟩ : ∃ sh, sh = (-(sigE (m : Int))).toNat := ⟨_, rfl⟩
    have hL0 : L ≤ 127 := by
      have h3 : lo2 (m : Int) ≤ 127 := by unfold lo2 cutI; omega
      have h4 := (sig_range h1 h2).2.2
      omega
    have esh : -(L - 127) = (sh : Int) := by omega
    have hsh5 : sh ≤ 5000 := by omega
    rw [← hsh, A4.out] at hx
    have hgt : cmpI ((1 : Nat) : Int) ((lo + 18446744073709551616 * hi : Nat) : Int) = -1 := cmpI_lt (by omega)
    have Hx := Lib.hid hx
    have Hgt := Lib.hid hgt
    have Hesh := Lib.hid esh
    clear hx hs1 hsh hgt hk Ex esh
    go_enter Tryd.func8, Tryd.ntmps8
    go_wp2_with fail
    refine (shown_any _ htab).mono ?_
    rintro e w1 ⟨rfl, g1⟩
    go_wp2_with fail
    refine (Sg.out _).mono ?_
    rintro e w2 ⟨rfl, g2⟩
    have b2 := g1.trans (g2.mono g1.size)
    clear g1 g2
    go_wp2_with fail
    refine (Lb.out _).mono ?_
    rintro e w3 ⟨rfl, rfl⟩
    go_wp2_with fail
    refine (norm_two _ _ hi lo a1 a3 rfl).mono ?_
    rintro e w4 ⟨v4, rfl, n4, g4⟩
    have b4 := b2.trans (g4.mono b2.size)
    clear b2 g4
    go_wp2_with fail
    refine (pow10_of _ m _ rfl (by omega)).mono ?_
    rintro e w5 ⟨v5, rfl, n5, g5⟩
    have b5 := b4.trans (g5.mono b4.size)
    replace n4 := n4.below g5
    clear b4 g5
    go_wp2_with fail
    refine (shl_of _ _ _ sh _ n5 Hesh.out hsh5 (Nat.le_trans (lw_ten (by omega)) (by omega))).mono ?_
    rintro e w6 ⟨v6, rfl, n6, g6⟩
    have b6 := b5.trans (g6.mono b5.size)
    replace n4 := n4.below g6
    rw [Hx.out] at n6
    have hl4 : lw (lo + 18446744073709551616 * hi) ≤ 2 := lw_le (by rw [bp_succ, bp_succ, bp_zero]; omega)
    clear b5 g6 n5
    go_wp2_with fail
    refine (cmp_same _ _ _ _ _ n6 n4 rfl (by omega)).mono ?_
    rintro e w7 ⟨rfl, q7, hw7⟩
    have b7 := below_drewN b6 q7
    have n7 := n4.drewN q7
    rw [← hw7] at b7 n7
    clear hw7 b6 n6 n4
    go_wp2_with fail
    refine (cmp_any _ _ 1 _ _ (num_lit w7 1 (by omega) (by omega)) (n7.below ((Below.refl _ _).alloc (Nat.le_refl _) _)) (Nat.le_trans (lw_le (k := 1) (by decide)) (by omega))).mono ?_
    rintro e w8 ⟨rfl, q8, hw8⟩
    rw [Hgt.out]
    have b8 := below_drewN (b7.alloc b7.size (.cells #[.int .u64 ((1 : Nat) : Int)] 30)) q8
    rw [← hw8] at b8
    clear hw8 b7
    go_wp2_with fail
    go_ret
    exact ⟨rfl, b8⟩
  · have hk' : K < 0 ∨ 38 < K := by omega
    clear hk
    rcases hk' with hk | hk
    · have t1 : decide (K < 0) = true := by simp; omega
      clear Ex
      go_enter Tryd.func8, Tryd.ntmps8
      go_wp2_with fail
      refine (shown_any _ htab).mono ?_
      rintro e w1 ⟨rfl, g1⟩
      go_wp2_with fail
      refine (Sg.out _).mono ?_
      rintro e w2 ⟨rfl, g2⟩
      have b2 := g1.trans (g2.mono g1.size)
      clear g1 g2
      go_wp2_with fail
      refine (Lb.out _).mono ?_
      rintro e w3 ⟨rfl, rfl⟩
      go_wp2_with fail
      go_ret
      exact ⟨rfl, b2⟩
    · have t1 : decide (K < 0) = false := by simp; omega
      have t2 : decide (38 < K) = true := by simp; omega
      clear Ex
      go_enter Tryd.func8, Tryd.ntmps8
      go_wp2_with fail
      refine (shown_any _ htab).mono ?_
      rintro e w1 ⟨rfl, g1⟩
      go_wp2_with fail
      refine (Sg.out _).mono ?_
      rintro e w2 ⟨rfl, g2⟩
      have b2 := g1.trans (g2.mono g1.size)
      clear g1 g2
      go_wp2_with fail
      refine (Lb.out _).mono ?_
      rintro e w3 ⟨rfl, rfl⟩
      go_wp2_with fail
      go_ret
      exact ⟨rfl, b2⟩
end Go.Proofs.YtfciahfdmnnejaaDoor
