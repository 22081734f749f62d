/-
  The walk of caliperlaw03.shown.
-/
import Derived.Test.YtfciahfdmnnejaaDoorText
import Derived.Test.YtfciahfdmnnejaaDoorSig
import Derived.Test.YtfciahfdmnnejaaDoorCmp
namespace Go.Proofs.YtfciahfdmnnejaaDoor
open Go.RowKit Go.Sort

theorem blen_ten : blen (10 ^ 1) = 4 := by decide
theorem blen_one : blen (10 ^ 0) = 1 := by decide
/-- What a significand's three words are told to be. -/
def threeOf (a b c : Int) (w : World) (e : Ending) (w' : World) : Prop := ∃ hi lo ex : Int, e = .returned (.tuple #[.int .u64 hi, .int .u64 lo, .int .i64 ex]) ∧ (hi == a) = true ∧ (lo == b) = true ∧ (ex == c) = true ∧ Below w.heap.size w w'
theorem threeOf_mk {a b c hi lo ex : Int} {w w' : World} {e : Ending} (h : e = .returned (.tuple #[.int .u64 hi, .int .u64 lo, .int .i64 ex]) ∧ Below w.heap.size w w') (h1 : hi = a) (h2 : lo = b) (h3 : ex = c) : threeOf a b c w e w' :=
  ⟨hi, lo, ex, h.1, by simp [h1], by simp [h2], by simp [h3], h.2⟩
theorem sig_one (w : World) : Calls Tryd.prog 22 #[.int .i64 1] w (threeOf 11529215046068469760 0 (-124) w) := by
  have h := sig_up 1 w (by omega) (by rw [blen_ten]; omega)
  rw [blen_ten] at h
  exact h.mono fun e w' h => threeOf_mk h (by decide) (by decide) (by decide)
theorem sig_zero (w : World) : Calls Tryd.prog 22 #[.int .i64 0] w (threeOf 9223372036854775808 0 (-127) w) := by
  have h := sig_up 0 w (by omega) (by rw [blen_one]; omega)
  rw [blen_one] at h
  exact h.mono fun e w' h => threeOf_mk h (by decide) (by decide) (by decide)
theorem sig_neg (w : World) : Calls Tryd.prog 22 #[.int .i64 (-1)] w (threeOf 14757395258967641292 14757395258967641292 (-131) w) := by
  have h := sig_down (-1) 1 w rfl (by omega) (by omega) fun w va vb h1 h2 => div_word va vb _ _ w h1 h2 (by
    rw [blen_ten]
    exact Nat.le_trans (lw_le (k := 3) (by decide)) (by omega)) (by rw [blen_ten]; decide) (lw_word (by decide) (by decide))
  rw [blen_ten] at h
  exact h.mono fun e w' h => threeOf_mk h (by decide) (by decide) (by decide)
theorem sig_off (w : World) : Calls Tryd.prog 22 #[.int .i64 401] w fun e w' => e = .returned (.tuple #[.int .u64 0, .int .u64 0, .int .i64 0]) ∧ w = w' := sig_far 401 w (by omega)
theorem log_a (w : World) : Calls Tryd.prog 13 #[.int .i64 10] w fun e w' => e = .returned (.int .i64 3) ∧ w = w' := log10Of2_any 10 w
theorem log_b (w : World) : Calls Tryd.prog 13 #[.int .i64 (-1)] w fun e w' => e = .returned (.int .i64 (-1)) ∧ w = w' := log10Of2_any (-1) w
theorem log_c (w : World) : Calls Tryd.prog 14 #[.int .i64 1] w fun e w' => e = .returned (.int .i64 3) ∧ w = w' := log2Of10_any 1 w
theorem log_d (w : World) : Calls Tryd.prog 14 #[.int .i64 (-1)] w fun e w' => e = .returned (.int .i64 (-4)) ∧ w = w' := log2Of10_any (-1) w
theorem pow_a (w : World) : Calls Tryd.prog 16 #[.int .i64 3] w fun e w' => ∃ v, e = .returned v ∧ Num w' v 1000 ∧ Below w.heap.size w w' := pow10_any 3 w
theorem pow_b (w : World) : Calls Tryd.prog 18 #[.int .i64 (-3)] w fun e w' => ∃ v, e = .returned v ∧ Num w' v 1 ∧ Below w.heap.size w w' := pow5_any (-3) w
theorem text_a (v : Value) (w : World) (h : Num w v 1000) (ht : Tab w) : Calls Tryd.prog 30 #[v] w fun e w' => e = .returned (.string ⟨#[49, 48, 48, 48]⟩) ∧ Below w.heap.size w w' := by
  have h := text_any v 1000 w h (Nat.le_trans (lw_le (k := 1) (by decide)) (by omega)) ht
  rw [textL_small (by omega), show Lib.decDigits 1000 = [49, 48, 48, 48] by decide +kernel] at h
  exact h
theorem text_b (v : Value) (w : World) (h : Num w v 1) (ht : Tab w) : Calls Tryd.prog 30 #[v] w fun e w' => e = .returned (.string ⟨#[49]⟩) ∧ Below w.heap.size w w' := by
  have h := text_any v 1 w h (Nat.le_trans (lw_le (k := 1) (by decide)) (by omega)) ht
  rw [textL_small (by omega), show Lib.decDigits 1 = [49] by decide +kernel] at h
  exact h

set_option maxHeartbeats 1600000 in
set_option maxRecDepth 100000 in
theorem shown_any (w : World) (htab : Tab w) :
    Calls Tryd.prog 12 #[] w fun e w' => e = .returned (.bool true) ∧ Below w.heap.size w w' := by
  go_enter Tryd.func12, Tryd.ntmps12
  go_wp2_with fail
  refine (sig_one _).mono ?_
  rintro e w1 ⟨h1, l1, e1, rfl, p1, p2, p3, g1⟩
  go_wp2_with fail
  refine (sig_neg _).mono ?_
  rintro e w2 ⟨h2, l2, e2, rfl, q1, q2, q3, g2⟩
  have b2 := g1.trans (g2.mono g1.size)
  go_wp2_with fail
  refine (sig_off _).mono ?_
  rintro e w3 ⟨rfl, rfl⟩
  go_wp2_with fail
  refine (sig_zero _).mono ?_
  rintro e w4 ⟨h4, l4, e4, rfl, r1, r2, r3, g4⟩
  have b4 := b2.trans (g4.mono b2.size)
  clear g1 g2 b2 g4
  go_wp2_with fail
  refine (log_a _).mono ?_
  rintro e w5 ⟨rfl, rfl⟩
  go_wp2_with fail
  refine (log_b _).mono ?_
  rintro e w5 ⟨rfl, rfl⟩
  go_wp2_with fail
  refine (log_c _).mono ?_
  rintro e w5 ⟨rfl, rfl⟩
  go_wp2_with fail
  refine (log_d _).mono ?_
  rintro e w5 ⟨rfl, rfl⟩
  go_wp2_with fail
  refine (pow_a _).mono ?_
  rintro e w5 ⟨v5, rfl, n5, g5⟩
  have b5 := b4.trans (g5.mono b4.size)
  have t5 := htab.below b5 (Nat.le_refl _)
  go_wp2_with fail
  refine (text_a _ _ n5 t5).mono ?_
  rintro e w6 ⟨rfl, g6⟩
  have b6 := b5.trans (g6.mono b5.size)
  clear g5 b4 b5 t5 n5 g6
  go_wp2_with fail
  refine (pow_b _).mono ?_
  rintro e w7 ⟨v7, rfl, n7, g7⟩
  have b7 := b6.trans (g7.mono b6.size)
  have t7 := htab.below b7 (Nat.le_refl _)
  go_wp2_with fail
  refine (text_b _ _ n7 t7).mono ?_
  rintro e w8 ⟨rfl, g8⟩
  have b8 := b7.trans (g8.mono b7.size)
  go_wp2
  go_ret
  exact ⟨rfl, b8⟩
end Go.Proofs.YtfciahfdmnnejaaDoor
