/-
  The walk of nat.Div where nothing goes in, or one word is divided by.
-/
import Derived.Test.YtfciahfdmnnejaaDoorShort
namespace Go.Proofs.YtfciahfdmnnejaaDoor
open Go.RowKit

theorem below_of_drewN {w w' : World} {n : Nat} (h : Below (w.drewN n).heap.size (w.drewN n) w') : Below w.heap.size w w' := ⟨h.os, h.tape, h.output, h.size, h.block⟩
theorem num_nil (w : World) : Num w (.slice none 0 0) 0 := ⟨none, 0, by rw [lw_zero], by rw [lw_zero]; exact Nat.le_refl _, Nat.zero_le _, by rw [wds_zero]; exact .inl rfl⟩
/-- A slice of a number with another capacity is the same number. -/
theorem Num.at_cap {w : World} {A : Option Addr} {x c : Nat} (hr : RW w A (wds x)) (hc : lw x ≤ c) (hm : c ≤ maxLen) : Num w (.slice A (lw x) c) x := ⟨A, c, rfl, hc, hm, hr⟩

theorem clone_num (va : Value) (x : Nat) (w : World) (ha : Num w va x) (hs : lw x ≤ 17592186044416) :
    Calls Tryd.prog 49 #[va] w fun e w' => ∃ v, e = .returned v ∧ Num w' v x ∧ Below w.heap.size w w' := by
  obtain ⟨A, c, rfl, hc, hm, hr⟩ := ha
  refine (clone_any A (lw x) c (wds x) w hr rfl hs).mono ?_
  rintro e w' ⟨A', c', rfl, h1, h2, h3, h4⟩
  exact ⟨_, rfl, ⟨A', c', rfl, h1, h2, h3⟩, h4⟩

set_option maxHeartbeats 1600000 in
set_option maxRecDepth 100000 in
/-- nat.Div where the first is less: nothing goes in. -/
theorem div_less (va vb : Value) (x y : Nat) (w : World) (ha : Num w va x) (hb : Num w vb y) (hs : lw x ≤ 17592186044416) (hlt : x < y) :
    Calls Tryd.prog 42 #[va, vb] w fun e w' => ∃ v, e = .returned (.tuple #[.slice none 0 0, v, .bool true]) ∧ Num w' v x ∧ Below w.heap.size w w' := by
  obtain ⟨A, ca, rfl, hca, hma, hra⟩ := ha
  obtain ⟨B, cb, rfl, hcb, hmb, hrb⟩ := hb
  have hp := lw_pos (show y ≠ 0 by omega)
  have t0 : ((lw y : Int) == 0) = false := by rw [beq_eq_false_iff_ne]; omega
  have t1 : decide (cmpI x y < 0) = true := by rw [cmpI_lt (by omega)]; rfl
  go_enter Tryd.func42, Tryd.ntmps42
  go_wp2_with fail
  refine (trim_num _ _ _ _ hra hca hma).mono ?_
  rintro e w' ⟨rfl, rfl⟩
  go_wp2_with fail
  refine (trim_num _ _ _ _ hrb hcb hmb).mono ?_
  rintro e w' ⟨rfl, rfl⟩
  go_wp2_with (first
    | (go_at_call 15; refine (cmp_any _ _ x y _ (Num.at_cap hra (Nat.le_refl _) (by omega)) (Num.at_cap hrb (Nat.le_refl _) (by omega)) hs).mono ?_; rintro e w' ⟨rfl, n, rfl⟩)
    | (go_at_call 49; refine (clone_num _ x _ ((Num.at_cap hra (Nat.le_refl _) (by omega)).drewN n) hs).mono ?_; rintro e w' ⟨v, rfl, h1, h2⟩))
  go_ret3
  exact ⟨v, rfl, h1, below_of_drewN h2⟩

set_option maxHeartbeats 1600000 in
set_option maxRecDepth 100000 in
/-- nat.Div by a word. -/
theorem div_word (va vb : Value) (x y : Nat) (w : World) (ha : Num w va x) (hb : Num w vb y) (hs : lw x ≤ 17592186044416) (hle : y ≤ x) (hy : lw y = 1) :
    Calls Tryd.prog 42 #[va, vb] w fun e w' => ∃ vq vr, e = .returned (.tuple #[vq, vr, .bool true]) ∧ Num w' vq (x / y) ∧ Num w' vr (x % y) ∧ Below w.heap.size w w' := by
  obtain ⟨A, ca, rfl, hca, hma, hra⟩ := ha
  obtain ⟨B, cb, rfl, hcb, hmb, hrb⟩ := hb
  obtain ⟨hy64, hy0⟩ := lw_one hy
  have t0 : ((lw y : Int) == 0) = false := by rw [hy]; rfl
  have t1 : decide (cmpI x y < 0) = false := by
    rcases Nat.lt_or_ge y x with h | h
    · rw [cmpI_gt (by omega)]; rfl
    · obtain rfl : x = y := by omega
      rw [cmpI_eq]; rfl
  have t2 : ((lw y : Int) == 1) = true := by rw [hy]; rfl
  have hlp : 0 < lw y := by omega
  obtain ⟨bb, ob, rfl, hbb, hcellb⟩ := hrb.at_ (k := 0) (by rw [wds_length]; omega)
  have hcy : w.cell? ⟨bb, ob, none⟩ = some (U y) := by
    have := hcellb 0 (by rw [wds_length]; omega)
    rw [wds_word hy64 hy0] at this
    simpa using this
  have Hy := Lib.hid hy
  clear hy hcellb
  go_enter Tryd.func42, Tryd.ntmps42
  go_wp2_with fail
  refine (trim_num _ _ _ _ hra hca hma).mono ?_
  rintro e w' ⟨rfl, rfl⟩
  go_wp2_with fail
  refine (trim_num _ _ _ _ hrb hcb hmb).mono ?_
  rintro e w' ⟨rfl, rfl⟩
  go_wp2_with (first
    | (go_at_call 15; refine (cmp_any _ _ x y _ (Num.at_cap hra (Nat.le_refl _) (by omega)) (Num.at_cap hrb (Nat.le_refl _) (by omega)) hs).mono ?_; rintro e w' ⟨rfl, n, rfl⟩)
    | (go_at_call 51; refine (short_any _ x y _ ((Num.at_cap hra (Nat.le_refl _) (by omega)).drewN n) (by omega) hy64 hs).mono ?_; rintro e w' ⟨vq, rfl, h1, _, h2⟩)
    | (go_at_call 43; refine (of_any (x % y) _ (Nat.lt_trans (Nat.mod_lt _ (by omega)) hy64)).mono ?_; rintro e w' ⟨vr, rfl, h3, h4⟩))
  go_ret3
  exact ⟨vq, vr, rfl, h1.below h4, h3, (below_of_drewN h2).trans (h4.mono h2.size)⟩
end Go.Proofs.YtfciahfdmnnejaaDoor
