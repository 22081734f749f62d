/-
  The walk of nat.Shr.
-/
import Derived.Test.YtfciahfdmnnejaaDoorDigP
import Derived.Test.YtfciahfdmnnejaaDoorMul
import Derived.Deep.RegionHeld3
import Derived.Deep.QuietTactic
import Derived.BigQuiet
import Derived.Laws.BitsLemmas
namespace Go.Proofs.YtfciahfdmnnejaaDoor
open Go.RowKit

set_option maxHeartbeats 1600000 in
set_option maxRecDepth 100000 in
/-- nat.Shr, of any words. -/
theorem shr_words (A : Option Addr) (L ca : Nat) (ws : List Nat) (n : Nat) (w : World) (hra : RW w A ws) (hl : ws.length = L) (hok : okw ws) (hs : L ≤ 1048576) (hn : n ≤ 131072) (hq : n / 64 < L) :
    Calls Tryd.prog 44 #[.slice A L ca, .int .i64 n] w fun e w' => ∃ v, e = .returned v ∧ Num w' v (val ws / 2 ^ n) ∧ Below w.heap.size w w' := by
  obtain ⟨x, hx⟩ : ∃ x, x = val ws := ⟨_, rfl⟩
  have hxL := val_lt hok
  rw [hl, ← hx] at hxL
  rw [← hx]
  have Hx := Lib.hid hx
  have HxL := Lib.hid hxL
  have Hl := Lib.hid hl
  have Hok := Lib.hid hok
  clear hx hxL hl hok
  obtain ⟨q, hq'⟩ : ∃ q, q = n / 64 := ⟨_, rfl⟩
  obtain ⟨r, hr'⟩ : ∃ r, r = n % 64 := ⟨_, rfl⟩
  have f1 : min (n : Int) 131072 = (n : Int) := by omega
  have f2 : (n : Int).tdiv 64 = (q : Int) := by rw [hq']; rfl
  have f3 : (n : Int).tmod 64 = (r : Int) := by rw [hr']; rfl
  have f4 : (n : Int) / 64 = (q : Int) := by omega
  have f5 : (n : Int) % 64 = (r : Int) := by omega
  obtain ⟨m, hm⟩ : ∃ m, m = L - q := ⟨_, rfl⟩
  have f7 : (L : Int) - (q : Int) = (m : Int) := by omega
  have f6 : max 0 (m : Int) = (m : Int) := by omega
  have hmq : m + q = L := by omega
  have hm0 : 0 < m := by omega
  have hr64 : r < 64 := by omega
  have Hnq := Lib.hid (show n = 64 * q + r by omega)
  clear hq' hr' hm hq
  have hmk := fun W => make_nat m (by omega) W
  go_enter Tryd.func44, Tryd.ntmps44
  go_wp2_with fail
  have hw0 : WB (w.alloc (.cells (madeCells #[.int .u64 0] m) 30)) w.heap.size (List.replicate m 0) := WB.made w _
  have hb0 : Below w.heap.size w (w.alloc (.cells (madeCells #[.int .u64 0] m) 30)) := (Below.refl _ _).alloc (Nat.le_refl _) _
  clear hmk
  go_loopw [20] (fun l wr => ∃ (i : Nat) (o : List Nat), i ≤ m ∧ l = .int .i64 i ∧ Hid (WB wr w.heap.size o) ∧ Hid (o.length = m) ∧ Hid (okw o) ∧ Hid (∀ j, j < i → o.getD j 0 = x / 2 ^ n / bp j % 18446744073709551616) ∧ Below w.heap.size w wr)
    (fun l _ => m - (intOf l).toNat)
  case atStart => exact ⟨0, _, Nat.zero_le _, rfl, hw0, List.length_replicate, okw_replicate _, Lib.hid (fun j hj => by omega), hb0⟩
  case round =>
    obtain ⟨i, o, hi, rfl, ho1, ho2, ho3, ho4, hbe⟩ := hrel
    by_cases hlt : i < m
    · obtain ⟨K, hK⟩ : ∃ K, K = i + q := ⟨_, rfl⟩
      have ik : (i : Int) + (q : Int) = (K : Int) := by omega
      have hKl : K < L := by omega
      have HK := Lib.hid hK
      clear hK
      obtain ⟨ba, oa, rfl, hba, hcella⟩ := hra.at_ (k := K) (by rw [Hl.out]; exact hKl)
      have hcx : wr.cell? ⟨ba, oa + (K), none⟩ = some (U (ws.getD (K) 0)) := (hbe.cell (p := ⟨ba, oa + (K), none⟩) hba).trans (hcella (K) (by rw [Hl.out]; exact hKl))
      have haw := okw_get Hok.out K
      obtain ⟨a, hxa⟩ : ∃ a : Nat, a = ws.getD (K) 0 := ⟨_, rfl⟩
      rw [← hxa] at hcx haw
      have hg := fun W (h : RW W (some ⟨ba, oa, none⟩) ws) => at_any (some ⟨ba, oa, none⟩) (L) ca ws ((K : Int) + 1) W h Hl.out (by omega) (by omega)
      rw [show ((K : Int) + 1).toNat = K + 1 by omega] at hg
      have wK : IntKind.i64.wrap ((K : Int) + 1) = (K : Int) + 1 := by rw [IntKind.wrap_i64]; omega
      rw [← wK] at hg
      clear wK
      have hbw := okw_get Hok.out (K + 1)
      obtain ⟨b, hxb⟩ : ∃ b : Nat, b = ws.getD (K + 1) 0 := ⟨_, rfl⟩
      rw [← hxb] at hg hbw
      have Hg := Lib.hid hg
      have Hxa := Lib.hid hxa
      have Hxb := Lib.hid hxb
      have hrb := hra.below hbe
      clear hxa hxb hcella hg
      have hfo : wr.frozen? ⟨w.heap.size, i, none⟩ = false := ho1.out.frozen _
      have hco : wr.cell? ⟨w.heap.size, i, none⟩ = some (U (o.getD i 0)) := ho1.out.cell (by rw [ho2.out]; omega)
      by_cases hr0 : r = 0
      · subst hr0
        have f3' : (n : Int).tmod 64 = 0 := f3
        have f5' : (n : Int) % 64 = 0 := f5
        clear f3 f5
        obtain ⟨ea, ett⟩ := shr_word0 a b haw
        have Htt := Lib.hid ett
        have Hea := Lib.hid ea
        clear ea
        have gw64 : IntKind.i64.wrap 64 = 64 := rfl
        clear ett
        have hne : ba ≠ w.heap.size := by omega
        have hkp := Lib.hid fun (u : Value) => (show (wr.setCell ⟨w.heap.size, i, none⟩ u).drew.cell? ⟨ba, oa + K, none⟩ = some (U a) from (World.cell?_of_block (a := ⟨ba, oa + K, none⟩) (Below.heap_setCell wr ⟨w.heap.size, i, none⟩ u ba hne)).trans hcx)
        go_wp2_with fail
        go_region_held3 (fun w' => w'.cell? ⟨ba, oa + K, none⟩ = some (U a))
          (first | exact hkp.out _ | go_keep)
          ((go_at_call 50; refine (Hg.out _ (by exact hrb)).mono ?_; rintro e w3 ⟨rfl, rfl⟩))
        go_wp2
        rw [Hea.out]
        refine ⟨⟨i + 1, o.set i a, by omega, rfl, Lib.hid ?_, Lib.hid (by rw [List.length_set]; exact ho2.out), okw_set ho3.out _ _ haw, Lib.hid fun j hj => ?_, ?_⟩, by simp [intOf]; omega⟩
        · exact ho1.out.set_ _ _
        · rcases Nat.lt_or_ge j i with hj1 | hj1
          · rw [List.getD_eq_getElem?_getD, List.getElem?_set_ne (by omega), ← List.getD_eq_getElem?_getD]; exact ho4.out j hj1
          · obtain rfl : j = i := by omega
            rw [List.getD_eq_getElem?_getD, List.getElem?_set_self (by rw [ho2.out]; exact hlt)]
            exact shr_atw Hok.out Hx.out Hnq.out HK.out hr64 Hxa.out Hxb.out Htt.out
        · exact (hbe.setCell (Nat.le_refl _) _).drew
      · obtain ⟨t, ht, et, ett⟩ := shr_word a b r haw hbw (by omega) hr64
        obtain ⟨s, hs'⟩ : ∃ s, s = 64 - r := ⟨_, rfl⟩
        have g1 : (64 : Int) - (r : Int) = (s : Int) := by omega
        have hs64 : s < 64 := by omega
        have gw : IntKind.i64.wrap (s : Int) = (s : Int) := by rw [IntKind.wrap_i64]; omega
        rw [← hs', show ((a / 2 ^ r : Nat) : Int) = (a : Int) / 2 ^ r by simp] at et
        rw [← hs'] at ett
        have Hs := Lib.hid hs'
        have Htt := Lib.hid ett
        clear hs' ett
        have hne : ba ≠ w.heap.size := by omega
        have hkp := Lib.hid fun (u : Value) => (show (wr.setCell ⟨w.heap.size, i, none⟩ u).drew.cell? ⟨ba, oa + K, none⟩ = some (U a) from (World.cell?_of_block (a := ⟨ba, oa + K, none⟩) (Below.heap_setCell wr ⟨w.heap.size, i, none⟩ u ba hne)).trans hcx)
        go_wp2_with fail
        go_region_held3 (fun w' => w'.cell? ⟨ba, oa + K, none⟩ = some (U a))
          (first | exact hkp.out _ | go_keep)
          ((go_at_call 50; refine (Hg.out _ (by exact hrb)).mono ?_; rintro e w3 ⟨rfl, rfl⟩))
        go_wp2
        refine ⟨⟨i + 1, o.set i t, by omega, rfl, Lib.hid ?_, Lib.hid (by rw [List.length_set]; exact ho2.out), okw_set ho3.out _ _ ht, Lib.hid fun j hj => ?_, ?_⟩, by simp [intOf]; omega⟩
        · exact ho1.out.set_ _ _
        · rcases Nat.lt_or_ge j i with hj1 | hj1
          · rw [List.getD_eq_getElem?_getD, List.getElem?_set_ne (by omega), ← List.getD_eq_getElem?_getD]; exact ho4.out j hj1
          · obtain rfl : j = i := by omega
            rw [List.getD_eq_getElem?_getD, List.getElem?_set_self (by rw [ho2.out]; exact hlt)]
            exact shr_atw Hok.out Hx.out Hnq.out HK.out hr64 Hxa.out Hxb.out (by rw [← Hs.out]; exact Htt.out)
        · exact (hbe.setCell (Nat.le_refl _) _).drew
    · have e := shr_endw Hnq.out hmq HxL.out ho2.out (fun j hj => ho4.out j (by omega))
      have E := Lib.hid e
      clear e
      go_wp2_with fail
      refine (trim_any _ _ _ o _ ho1.out.rw_ ho2.out (Nat.le_refl _) (by unfold maxLen; omega)).mono ?_
      rintro e w' ⟨rfl, rfl⟩
      go_wp2
      go_ret
      refine ⟨_, rfl, ?_, hbe⟩
      rw [← E.out]
      exact num_of_wb ho1.out ho2.out ho3.out (by unfold maxLen; omega)
/-- nat.Shr. -/
theorem shr_any (va : Value) (x n : Nat) (w : World) (ha : Num w va x) (hs : lw x ≤ 1048576) (hn : n ≤ 131072) (hq : n / 64 < lw x) :
    Calls Tryd.prog 44 #[va, .int .i64 n] w fun e w' => ∃ v, e = .returned v ∧ Num w' v (x / 2 ^ n) ∧ Below w.heap.size w w' := by
  obtain ⟨A, ca, rfl, _, _, hra⟩ := ha
  have h := shr_words A (lw x) ca (wds x) n w hra rfl (okw_wds x) hs hn hq
  rwa [val_wds] at h
end Go.Proofs.YtfciahfdmnnejaaDoor
