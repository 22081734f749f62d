/-
  The document's powers of five (caliperref02.Fives).
-/
import Derived.Test.YtfciahfdmnnejaaDoorR3
namespace Go.Proofs.YtfciahfdmnnejaaDoor
open Go.RowKit Go.Sort

theorem hn_lit (w : World) (b : Nat) (h0 : b ≠ 0) (h : b < 4294967296) : HN (w.alloc (.cells #[.int .u64 b] 30)) (.slice (some ⟨w.heap.size, 0, none⟩) 1 1) b := by
  have h1 : WB (w.alloc (.cells #[.int .u64 b] 30)) w.heap.size [b] := Blk.new w 30 #[.int .u64 b]
  refine ⟨some ⟨w.heap.size, 0, none⟩, 1, by rw [H.lw_word h h0], by rw [H.lw_word h h0]; omega, by unfold maxLen; omega, ?_⟩
  rw [H.wds_word h h0]
  exact h1.rw_
theorem h_lw_pow {b N : Nat} (h1 : 1 ≤ b) (h2 : b < 4294967296) : H.lw (b ^ N) ≤ N + 1 := by
  refine H.lw_le ?_
  have e1 : b ^ N ≤ 4294967296 ^ N := Nat.pow_le_pow_left (by omega) N
  have e2 := H.bp_lt (show N < N + 1 by omega)
  have e3 : H.bp N = 4294967296 ^ N := rfl
  omega
theorem h_lw_five {n : Nat} (h : n ≤ 20000) : H.lw (5 ^ n) ≤ 20001 := Nat.le_trans (h_lw_pow (by omega) (by omega)) (by omega)

set_option maxHeartbeats 1600000 in
set_option maxRecDepth 100000 in
theorem rfives_none (n : Int) (w : World) (h : n ≤ 0) : Calls Tryd.prog 64 #[.int .i64 n] w fun e w' => ∃ v, e = .returned v ∧ HN w' v 1 ∧ Below w.heap.size w w' := by
  have t1 : decide (n ≤ 0) = true := by simp; omega
  go_enter Tryd.func64, Tryd.ntmps64
  go_wp2
  go_ret
  exact ⟨_, rfl, hn_lit w 1 (by omega) (by omega), (Below.refl _ _).alloc (Nat.le_refl _) _⟩

set_option maxHeartbeats 1600000 in
set_option maxRecDepth 100000 in
theorem rfives_step (N h b : Nat) (w : World) (hN : N = h * 2 + b) (hb : b < 2) (h0 : 0 < N) (hs : N ≤ 10000)
    (ih : ∀ w : World, Calls Tryd.prog 64 #[.int .i64 h] w fun e w' => ∃ v, e = .returned v ∧ HN w' v (5 ^ h) ∧ Below w.heap.size w w') :
    Calls Tryd.prog 64 #[.int .i64 N] w fun e w' => ∃ v, e = .returned v ∧ HN w' v (5 ^ N) ∧ Below w.heap.size w w' := by
  have t1 : decide ((N : Int) ≤ 0) = false := by simp; omega
  have t1' : (N == 0) = false := by simp; omega
  have e1 : (N : Int).tdiv 2 = (h : Int) := by rw [show h = N / 2 by omega]; rfl
  have e1' : (N : Int) / 2 = (h : Int) := by omega
  have e2 : (N : Int).tmod 2 = (b : Int) := by rw [show b = N % 2 by omega]; rfl
  have e2' : (N : Int) % 2 = (b : Int) := by omega
  have Ih := Lib.hid ih
  have HNN := Lib.hid hN
  have hh : h ≤ 10000 := by omega
  clear ih hN
  by_cases hb1 : b = 1
  · subst hb1
    have t2 : (((1 : Nat) : Int) == 1) = true := rfl
    go_enter Tryd.func64, Tryd.ntmps64
    go_wp2_with fail
    refine (Ih.out _).mono ?_
    rintro e w1 ⟨v1, rfl, n1, g1⟩
    go_wp2_with fail
    refine (rtimes_any _ _ _ _ _ n1 n1 (Nat.le_trans (Nat.add_le_add (h_lw_five (by omega)) (h_lw_five (by omega))) (by omega))).mono ?_
    rintro e w2 ⟨v2, rfl, n2, g2⟩
    have b2 := g1.trans (g2.mono g1.size)
    have n2' : HN w2 v2 (5 ^ (h + h)) := by rw [Nat.pow_add]; exact n2
    have ba := (Below.refl w2.heap.size w2).alloc (Nat.le_refl _) (.cells #[.int .u64 5] 30)
    have b2a := b2.trans (ba.mono b2.size)
    have hm := rtimes_any _ _ _ _ _ (n2'.below ba) (hn_lit w2 5 (by omega) (by omega)) (Nat.le_trans (Nat.add_le_add (h_lw_five (by omega)) (H.lw_le (k := 1) (by decide))) (by omega))
    have Hm := Lib.hid hm
    clear hm n2 n2' n1 g1 g2 ba b2
    go_wp2_with fail
    refine Hm.out.mono ?_
    rintro e w3 ⟨v3, rfl, n3, g3⟩
    have b3 := b2a.trans (g3.mono b2a.size)
    clear Hm
    go_wp2
    go_ret
    refine ⟨_, rfl, ?_, b3⟩
    rw [HNN.out, show h * 2 + 1 = h + h + 1 by omega, Nat.pow_succ]
    exact n3
  · obtain rfl : b = 0 := by omega
    have t2 : (((0 : Nat) : Int) == 1) = false := rfl
    go_enter Tryd.func64, Tryd.ntmps64
    go_wp2_with fail
    refine (Ih.out _).mono ?_
    rintro e w1 ⟨v1, rfl, n1, g1⟩
    go_wp2_with fail
    refine (rtimes_any _ _ _ _ _ n1 n1 (Nat.le_trans (Nat.add_le_add (h_lw_five (by omega)) (h_lw_five (by omega))) (by omega))).mono ?_
    rintro e w2 ⟨v2, rfl, n2, g2⟩
    have b2 := g1.trans (g2.mono g1.size)
    go_wp2
    go_ret
    refine ⟨_, rfl, ?_, b2⟩
    rw [HNN.out, show h * 2 + 0 = h + h by omega, Nat.pow_add]
    exact n2
theorem rfives_nat : ∀ (N : Nat) (w : World), N ≤ 10000 → Calls Tryd.prog 64 #[.int .i64 N] w fun e w' => ∃ v, e = .returned v ∧ HN w' v (5 ^ N) ∧ Below w.heap.size w w' := by
  intro N
  induction N using Nat.strongRecOn with
  | _ N ih =>
    intro w hN
    by_cases h0 : N = 0
    · subst h0; exact rfives_none 0 w (by omega)
    · exact rfives_step N (N / 2) (N % 2) w (by omega) (by omega) (by omega) hN fun w => ih (N / 2) (by omega) w (by omega)
/-- caliperref02.Fives: 5 to a power; to one below 0, 1. -/
theorem rfives_any (n : Int) (w : World) (h : n ≤ 10000) : Calls Tryd.prog 64 #[.int .i64 n] w fun e w' => ∃ v, e = .returned v ∧ HN w' v (5 ^ n.toNat) ∧ Below w.heap.size w w' := by
  rcases Int.lt_or_le 0 n with h1 | h1
  · have e : n = (n.toNat : Int) := by omega
    have := rfives_nat n.toNat w (by omega)
    rw [← e] at this
    exact this
  · rw [show n.toNat = 0 by omega]
    exact rfives_none n w h1
end Go.Proofs.YtfciahfdmnnejaaDoor
