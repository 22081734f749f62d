/-
  The walk of caliperlaw03.TenBits.
-/
import Derived.Test.YtfciahfdmnnejaaDoorPowL
namespace Go.Proofs.YtfciahfdmnnejaaDoor
open Go.RowKit Go.Sort

set_option maxHeartbeats 1600000 in
set_option maxRecDepth 100000 in
theorem tenBits_any (n : Int) (w : World) (htab : Tab w) :
    Calls Tryd.prog 9 #[.int .i64 n] w fun e w' => e = .returned (.bool true) ∧ Below w.heap.size w w' := by
  obtain ⟨K, hK, hK2⟩ := and16_mod n 1501 (by omega)
  replace hK : (bits .and .i64 n 65535).tmod 1501 = (K : Int) := hK
  obtain ⟨x, hx⟩ : ∃ x, x = 10 ^ K := ⟨_, rfl⟩
  have hxl : lw x ≤ 5001 := by rw [hx]; exact lw_ten (by omega)
  obtain ⟨L, hL⟩ : ∃ L, L = lo2 K := ⟨_, rfl⟩
  have hB : (blen x : Int) = L + 1 := by rw [hx, hL]; exact blen_ten_pow (by omega)
  have hL0 : -5000 ≤ L ∧ L ≤ 5000 := by rw [hL]; unfold lo2 cutI; omega
  obtain ⟨hL1, hL2⟩ := hL0
  obtain ⟨F, hF⟩ : ∃ F, F = 5 ^ K := ⟨_, rfl⟩
  have hFl : lw F ≤ 5001 := by rw [hF]; exact lw_five (by omega)
  have hB5 : (blen F : Int) = L + 1 - K := by
    have := blen_five_pow K
    rw [← hx, ← hF] at this
    omega
  have hlen : (textL x).length = K + 1 := by rw [hx]; exact textL_ten K
  obtain ⟨D, hD⟩ : ∃ D, D = textL x := ⟨_, rfl⟩
  rw [← hD] at hlen
  have P10 := Lib.hid fun W => pow10_of (K : Int) K W rfl (by omega)
  have P5 := Lib.hid fun W => pow5_of (K : Int) K W rfl (by omega)
  have Ll := Lib.hid fun W => lo2_of (K : Int) L W hL
  have low := Lib.hid fun i (h : i < K) => (by rw [hx]; exact bit_ten_low h : x.testBit i = false)
  have top := Lib.hid (by rw [hx]; exact bit_ten_at K : x.testBit K = true)
  have TX := Lib.hid fun v W h ht => text_any v x W h (Nat.le_trans hxl (by omega)) ht
  rw [← hx] at P10
  rw [← hF] at P5
  rw [← hD] at TX
  have BX := Lib.hid fun v W h => bits_any v x W h (Nat.le_trans hxl (by omega))
  have BF := Lib.hid fun v W h => bits_any v F W h (Nat.le_trans hFl (by omega))
  rw [hB] at BX
  rw [hB5] at BF
  have Hlen := Lib.hid hlen
  clear hx hL hF hB hB5 hxl hFl hD hlen
  go_enter Tryd.func9, Tryd.ntmps9
  go_wp2_with fail
  refine (shown_any _ htab).mono ?_
  rintro e w1 ⟨rfl, g1⟩
  go_wp2_with fail
  refine (P10.out _).mono ?_
  rintro e w2 ⟨v2, rfl, n2, g2⟩
  have b2 := g1.trans (g2.mono g1.size)
  clear g1 g2
  go_wp2_with fail
  go_loopw [5] (fun l wr => ∃ i : Nat, l = .int .i64 i ∧ i ≤ K ∧ wr = w2) (fun l _ => K - (intOf l).toNat)
  case atStart => exact ⟨0, rfl, by omega, rfl⟩
  case round =>
    obtain ⟨i, rfl, hi, rfl⟩ := hrel
    have t1 : decide ((i : Int) ≤ (K : Int)) = true := by simp; omega
    by_cases hlt : i < K
    · have hb := bit_any v2 x i _ n2 (by omega) (by omega)
      rw [show ((i : Int)).toNat = i by omega, low.out i hlt] at hb
      go_wp2_with fail
      refine hb.mono ?_
      rintro e w3 ⟨rfl, rfl⟩
      go_wp2
      exact ⟨⟨i + 1, rfl, by omega, trivial⟩, by simp [intOf]; omega⟩
    · obtain rfl : i = K := by omega
      have hb := bit_any v2 x i _ n2 (by omega) (by omega)
      rw [show ((i : Int)).toNat = i by omega, top.out] at hb
      go_wp2_with fail
      refine hb.mono ?_
      rintro e w3 ⟨rfl, rfl⟩
      go_wp2_with fail
      refine (BX.out _ _ n2).mono ?_
      rintro e w4 ⟨rfl, rfl⟩
      go_wp2_with fail
      refine (Ll.out _).mono ?_
      rintro e w4 ⟨rfl, rfl⟩
      have ht := htab.below b2 (Nat.le_refl _)
      go_wp2_with fail
      refine (TX.out _ _ n2 ht).mono ?_
      rintro e w5 ⟨rfl, g5⟩
      have b5 := b2.trans (g5.mono b2.size)
      have n5 := n2.below g5
      have hln : (D.length : Int) = (i : Int) + 1 := by have := Hlen.out; omega
      clear g5 n2 b2 ht
      go_wp2_with fail
      refine (P5.out _).mono ?_
      rintro e w6 ⟨v6, rfl, n6, g6⟩
      have b6 := b5.trans (g6.mono b5.size)
      replace n5 := n5.below g6
      clear g6 b5
      go_wp2_with fail
      refine (BF.out _ _ n6).mono ?_
      rintro e w7 ⟨rfl, rfl⟩
      go_wp2_with fail
      refine (BX.out _ _ n5).mono ?_
      rintro e w7 ⟨rfl, rfl⟩
      go_wp2
      go_ret
      exact ⟨rfl, b6⟩
end Go.Proofs.YtfciahfdmnnejaaDoor
