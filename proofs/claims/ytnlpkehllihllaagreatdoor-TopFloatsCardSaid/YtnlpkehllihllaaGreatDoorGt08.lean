/-
  A part of the proofs that calipertop.TopBack, TopFloats and TopNearest return true for every input and leave it as it was: part 8 of 47.
-/
import Derived.Test.YtnlpkehllihllaaGreatDoorGt05
import Derived.Test.YtnlpkehllihllaaGreatDoorGt01
import Derived.Deep.RegionHeld3
import Derived.Deep.QuietTactic
import Derived.BigQuiet
import Derived.Laws.BitsLemmas
import Derived.Test.YtnlpkehllihllaaGreatDoorGt06
import Derived.Test.YtnlpkehllihllaaGreatDoorGt07
import Derived.ArgAppend
/-
  The walk of nat.Shr.
-/
namespace Go.Proofs.YtnlpkehllihllaaGreatDoor
open Go.RowKit

set_option maxHeartbeats 1600000 in
set_option maxRecDepth 100000 in
/-- nat.Shr, of any words. -/
theorem shr_words (A : Option Addr) (L ca : Nat) (ws : List Nat) (n : Nat) (w : World) (hra : RW w A ws) (hl : ws.length = L) (hok : okw ws) (hs : L ≤ 1048576) (hn : n ≤ 131072) (hq : n / 64 < L) :
    Calls Tryz.prog 108 #[.slice A L ca, .int .i64 n] w fun e w' => ∃ v, e = .returned v ∧ Num w' v (val ws / 2 ^ n) ∧ Below w.heap.size w w' := by
  obtain ⟨x, hx⟩ : ∃ x, x = val ws := ⟨_, rfl⟩
  have hxL := val_lt hok
  rw [hl, ← hx] at hxL
  rw [← hx]
  have Hx := Lib.hid hx
  have HxL := Lib.hid hxL
  have Hl := Lib.hid hl
  have Hok := Lib.hid hok
  clear hx hxL hl hok
  obtain ⟨q, hq'⟩ : ∃ q, q = n / 64 := ⟨_, rfl⟩
  obtain ⟨r, hr'⟩ : ∃ r, r = n % 64 := ⟨_, rfl⟩
  have f1 : min (n : Int) 131072 = (n : Int) := by omega
  have f2 : (n : Int).tdiv 64 = (q : Int) := by rw [hq']; rfl
  have f3 : (n : Int).tmod 64 = (r : Int) := by rw [hr']; rfl
  have f4 : (n : Int) / 64 = (q : Int) := by omega
  have f5 : (n : Int) % 64 = (r : Int) := by omega
  obtain ⟨m, hm⟩ : ∃ m, m = L - q := ⟨_, rfl⟩
  have f7 : (L : Int) - (q : Int) = (m : Int) := by omega
  have f6 : max 0 (m : Int) = (m : Int) := by omega
  have hmq : m + q = L := by omega
  have hm0 : 0 < m := by omega
  have hr64 : r < 64 := by omega
  have Hnq := Lib.hid (show n = 64 * q + r by omega)
  clear hq' hr' hm hq
  have hmk := fun W => make_nat m (by omega) W
  go_enter Tryz.func108, Tryz.ntmps108
  go_wp2_with fail
  have hw0 : WB (w.alloc (.cells (madeCells #[.int .u64 0] m) 26)) w.heap.size (List.replicate m 0) := WB.made w _
  have hb0 : Below w.heap.size w (w.alloc (.cells (madeCells #[.int .u64 0] m) 26)) := (Below.refl _ _).alloc (Nat.le_refl _) _
  clear hmk
  go_loopw [20] (fun l wr => ∃ (i : Nat) (o : List Nat), i ≤ m ∧ l = .int .i64 i ∧ Hid (WB wr w.heap.size o) ∧ Hid (o.length = m) ∧ Hid (okw o) ∧ Hid (∀ j, j < i → o.getD j 0 = x / 2 ^ n / bp j % 18446744073709551616) ∧ Below w.heap.size w wr)
    (fun l _ => m - (intOf l).toNat)
  case atStart => exact ⟨0, _, Nat.zero_le _, rfl, hw0, List.length_replicate, okw_replicate _, Lib.hid (fun j hj => by omega), hb0⟩
  case round =>
    obtain ⟨i, o, hi, rfl, ho1, ho2, ho3, ho4, hbe⟩ := hrel
    by_cases hlt : i < m
    · obtain ⟨K, hK⟩ : ∃ K, K = i + q := ⟨_, rfl⟩
      have ik : (i : Int) + (q : Int) = (K : Int) := by omega
      have hKl : K < L := by omega
      have HK := Lib.hid hK
      clear hK
      obtain ⟨ba, oa, rfl, hba, hcella⟩ := hra.at_ (k := K) (by rw [Hl.out]; exact hKl)
      have hcx : wr.cell? ⟨ba, oa + (K), none⟩ = some (U (ws.getD (K) 0)) := (hbe.cell (p := ⟨ba, oa + (K), none⟩) hba).trans (hcella (K) (by rw [Hl.out]; exact hKl))
      have haw := okw_get Hok.out K
      obtain ⟨a, hxa⟩ : ∃ a : Nat, a = ws.getD (K) 0 := ⟨_, rfl⟩
      rw [← hxa] at hcx haw
      have hg := fun W (h : RW W (some ⟨ba, oa, none⟩) ws) => at_any (some ⟨ba, oa, none⟩) (L) ca ws ((K : Int) + 1) W h Hl.out (by omega) (by omega)
      rw [show ((K : Int) + 1).toNat = K + 1 by omega] at hg
      have wK : IntKind.i64.wrap ((K : Int) + 1) = (K : Int) + 1 := by rw [IntKind.wrap_i64]; omega
      rw [← wK] at hg
      clear wK
      have hbw := okw_get Hok.out (K + 1)
      obtain ⟨b, hxb⟩ : ∃ b : Nat, b = ws.getD (K + 1) 0 := ⟨_, rfl⟩
      rw [← hxb] at hg hbw
      have Hg := Lib.hid hg
      have Hxa := Lib.hid hxa
      have Hxb := Lib.hid hxb
      have hrb := hra.below hbe
      clear hxa hxb hcella hg
      have hfo : wr.frozen? ⟨w.heap.size, i, none⟩ = false := ho1.out.frozen _
      have hco : wr.cell? ⟨w.heap.size, i, none⟩ = some (U (o.getD i 0)) := ho1.out.cell (by rw [ho2.out]; omega)
      by_cases hr0 : r = 0
      · subst hr0
        have f3' : (n : Int).tmod 64 = 0 := f3
        have f5' : (n : Int) % 64 = 0 := f5
        clear f3 f5
        obtain ⟨ea, ett⟩ := shr_word0 a b haw
        have Htt := Lib.hid ett
        have Hea := Lib.hid ea
        clear ea
        have gw64 : IntKind.i64.wrap 64 = 64 := rfl
        clear ett
        have hne : ba ≠ w.heap.size := by omega
        have hkp := Lib.hid fun (u : Value) => (show (wr.setCell ⟨w.heap.size, i, none⟩ u).drew.cell? ⟨ba, oa + K, none⟩ = some (U a) from (World.cell?_of_block (a := ⟨ba, oa + K, none⟩) (Below.heap_setCell wr ⟨w.heap.size, i, none⟩ u ba hne)).trans hcx)
        go_wp2_with fail
        go_region_held3 (fun w' => w'.cell? ⟨ba, oa + K, none⟩ = some (U a))
          (first | exact hkp.out _ | go_keep)
          ((go_at_call 28; refine (Hg.out _ (by exact hrb)).mono ?_; rintro e w3 ⟨rfl, rfl⟩))
        go_wp2
        rw [Hea.out]
        refine ⟨⟨i + 1, o.set i a, by omega, rfl, Lib.hid ?_, Lib.hid (by rw [List.length_set]; exact ho2.out), okw_set ho3.out _ _ haw, Lib.hid fun j hj => ?_, ?_⟩, by simp [intOf]; omega⟩
        · exact ho1.out.set_ _ _
        · rcases Nat.lt_or_ge j i with hj1 | hj1
          · rw [List.getD_eq_getElem?_getD, List.getElem?_set_ne (by omega), ← List.getD_eq_getElem?_getD]; exact ho4.out j hj1
          · obtain rfl : j = i := by omega
            rw [List.getD_eq_getElem?_getD, List.getElem?_set_self (by rw [ho2.out]; exact hlt)]
            exact shr_atw Hok.out Hx.out Hnq.out HK.out hr64 Hxa.out Hxb.out Htt.out
        · exact (hbe.setCell (Nat.le_refl _) _).drew
      · obtain ⟨t, ht, et, ett⟩ := shr_word a b r haw hbw (by omega) hr64
        obtain ⟨s, hs'⟩ : ∃ s, s = 64 - r := ⟨_, rfl⟩
        have g1 : (64 : Int) - (r : Int) = (s : Int) := by omega
        have hs64 : s < 64 := by omega
        have gw : IntKind.i64.wrap (s : Int) = (s : Int) := by rw [IntKind.wrap_i64]; omega
        rw [← hs', show ((a / 2 ^ r : Nat) : Int) = (a : Int) / 2 ^ r by simp] at et
        rw [← hs'] at ett
        have Hs := Lib.hid hs'
        have Htt := Lib.hid ett
        clear hs' ett
        have hne : ba ≠ w.heap.size := by omega
        have hkp := Lib.hid fun (u : Value) => (show (wr.setCell ⟨w.heap.size, i, none⟩ u).drew.cell? ⟨ba, oa + K, none⟩ = some (U a) from (World.cell?_of_block (a := ⟨ba, oa + K, none⟩) (Below.heap_setCell wr ⟨w.heap.size, i, none⟩ u ba hne)).trans hcx)
        go_wp2_with fail
        go_region_held3 (fun w' => w'.cell? ⟨ba, oa + K, none⟩ = some (U a))
          (first | exact hkp.out _ | go_keep)
          ((go_at_call 28; refine (Hg.out _ (by exact hrb)).mono ?_; rintro e w3 ⟨rfl, rfl⟩))
        go_wp2
        refine ⟨⟨i + 1, o.set i t, by omega, rfl, Lib.hid ?_, Lib.hid (by rw [List.length_set]; exact ho2.out), okw_set ho3.out _ _ ht, Lib.hid fun j hj => ?_, ?_⟩, by simp [intOf]; omega⟩
        · exact ho1.out.set_ _ _
        · rcases Nat.lt_or_ge j i with hj1 | hj1
          · rw [List.getD_eq_getElem?_getD, List.getElem?_set_ne (by omega), ← List.getD_eq_getElem?_getD]; exact ho4.out j hj1
          · obtain rfl : j = i := by omega
            rw [List.getD_eq_getElem?_getD, List.getElem?_set_self (by rw [ho2.out]; exact hlt)]
            exact shr_atw Hok.out Hx.out Hnq.out HK.out hr64 Hxa.out Hxb.out (by rw [← Hs.out]; exact Htt.out)
        · exact (hbe.setCell (Nat.le_refl _) _).drew
    · have e := shr_endw Hnq.out hmq HxL.out ho2.out (fun j hj => ho4.out j (by omega))
      have E := Lib.hid e
      clear e
      go_wp2_with fail
      refine (trim_any _ _ _ o _ ho1.out.rw_ ho2.out (Nat.le_refl _) (by unfold maxLen; omega)).mono ?_
      rintro e w' ⟨rfl, rfl⟩
      go_wp2
      go_ret
      refine ⟨_, rfl, ?_, hbe⟩
      rw [← E.out]
      exact num_of_wb ho1.out ho2.out ho3.out (by unfold maxLen; omega)
/-- nat.Shr. -/
theorem shr_any (va : Value) (x n : Nat) (w : World) (ha : Num w va x) (hs : lw x ≤ 1048576) (hn : n ≤ 131072) (hq : n / 64 < lw x) :
    Calls Tryz.prog 108 #[va, .int .i64 n] w fun e w' => ∃ v, e = .returned v ∧ Num w' v (x / 2 ^ n) ∧ Below w.heap.size w w' := by
  obtain ⟨A, ca, rfl, _, _, hra⟩ := ha
  have h := shr_words A (lw x) ca (wds x) n w hra rfl (okw_wds x) hs hn hq
  rwa [val_wds] at h
end Go.Proofs.YtnlpkehllihllaaGreatDoor

/-
  The walk of nat.Div by a number of more than one word; of nat.Div by any number.
-/
namespace Go.Proofs.YtnlpkehllihllaaGreatDoor
open Go.RowKit

theorem RW.drewN {w : World} {A : Option Addr} {ws : List Nat} (h : RW w A ws) (n : Nat) : RW (w.drewN n) A ws := h
theorem RW.alloc {w : World} {A : Option Addr} {ws : List Nat} (h : RW w A ws) (o : Obj) : RW (w.alloc o) A ws := h.below ((Below.refl _ _).alloc (Nat.le_refl _) o)
theorem WB.grown {w w' : World} {row : Option Nat} {g : Nat} {ws : List Nat} (h : WB w g ws) (hg : w.grownBy w' row) (hne : some g ≠ row) : WB w' g ws := (hg.block g h.lt hne).trans h
theorem NumC.drewN {w : World} {v : Value} {x : Nat} (h : NumC w v x) (n : Nat) : NumC (w.drewN n) v x := h
theorem NumC.below {w w' : World} {v : Value} {x : Nat} (h : NumC w v x) (hb : Below w.heap.size w w') : NumC w' v x := by
  obtain ⟨A, e, h1, h2⟩ := h
  exact ⟨A, e, h1, h2.below hb⟩
/-- A round of the long division. -/
theorem div_round {us us' qs : List Nat} {Y X m qm : Nat} (hm : m < qs.length) (h : val us + Y * val (qs.drop (m + 1)) * bp (m + 1) = X) (hq : qm = val us / (Y * bp m)) (hu : val us' = val us % (Y * bp m)) :
    val us' + Y * val ((qs.set m qm).drop m) * bp m = X := by
  have e := Nat.div_add_mod (val us) (Y * bp m)
  rw [← hq, ← hu] at e
  rw [drop_set hm, val_cons, Nat.mul_add, Nat.add_mul]
  rw [bp_succ] at h
  have e1 : Y * bp m * qm = Y * qm * bp m := Nat.mul_right_comm ..
  have e2 : Y * (18446744073709551616 * val (qs.drop (m + 1))) * bp m = Y * val (qs.drop (m + 1)) * (18446744073709551616 * bp m) := by
    rw [Nat.mul_left_comm Y, Nat.mul_assoc, Nat.mul_left_comm (Y * val (qs.drop (m + 1)))]
  rw [e2, ← e1]
  omega
theorem div_last {us qs : List Nat} {Y X : Nat} (h : val us + Y * val qs = X) (hl : val us < Y) : val qs = X / Y ∧ val us = X % Y := by
  have hY : 0 < Y := by omega
  constructor
  · rw [← h, Nat.add_mul_div_left _ _ hY, Nat.div_eq_of_lt hl, Nat.zero_add]
  · rw [← h, Nat.add_mul_mod_self_left, Nat.mod_eq_of_lt hl]
/-- At the start nothing is taken away yet. -/
theorem div_first {X Y q : Nat} (hY : Y ≠ 0) (hq : q + lw Y = lw X + 1) : X < Y * bp q := by
  have h1 := lw_lt X
  have h2 := lw_ge hY
  have h3 := lw_pos hY
  have h4 := Nat.mul_le_mul_right (bp q) h2
  rw [← bp_add, show lw Y - 1 + q = lw X by omega] at h4
  omega
theorem map_at {ws : List Nat} {j : Nat} {u : Value} (h : (ws.map U)[j]? = some u) : j < ws.length ∧ u = U (ws.getD j 0) := by
  rw [List.getElem?_map] at h
  rcases Nat.lt_or_ge j ws.length with h1 | h1
  · rw [List.getElem?_eq_getElem h1] at h
    rw [List.getD_eq_getElem?_getD, List.getElem?_eq_getElem h1]
    exact ⟨h1, by simpa using h.symm⟩
  · rw [List.getElem?_eq_none h1] at h; cases h
theorem lw_shl {x s : Nat} (hs : s ≤ 64) : lw (x * 2 ^ s) ≤ lw x + 1 := by
  refine lw_le ?_
  rw [bp_succ, Nat.mul_comm 18446744073709551616]
  have h1 := lw_lt x
  have h2 : 2 ^ s ≤ 18446744073709551616 := by rw [← two64]; exact Nat.pow_le_pow_right (by omega) hs
  have h3 : x * 2 ^ s ≤ x * 18446744073709551616 := Nat.mul_le_mul_left _ h2
  have h4 : x * 18446744073709551616 < bp (lw x) * 18446744073709551616 := Nat.mul_lt_mul_of_pos_right h1 (by omega)
  omega

set_option maxHeartbeats 3200000 in
set_option maxRecDepth 100000 in
/-- nat.Div by a number of more than one word. -/
theorem div_many (va vb : Value) (x y : Nat) (w : World) (ha : Num w va x) (hb : Num w vb y) (hs : lw x ≤ 1000000) (hle : y ≤ x) (hy : 2 ≤ lw y) :
    Calls Tryz.prog 79 #[va, vb] w fun e w' => ∃ vq vr, e = .returned (.tuple #[vq, vr, .bool true]) ∧ Num w' vq (x / y) ∧ Num w' vr (x % y) ∧ Below w.heap.size w w' := by
  obtain ⟨i0, hi, hz0, hz1, hz2⟩ := info_parts info30
  obtain ⟨A, ca, rfl, hca, hma, hra⟩ := ha
  obtain ⟨B, cb, rfl, hcb, hmb, hrb⟩ := hb
  obtain ⟨m, hm⟩ : ∃ m, lw y = m + 1 := ⟨lw y - 1, by omega⟩
  have t0 : ((lw y : Int) == 0) = false := by rw [beq_eq_false_iff_ne]; omega
  have t1 : decide (cmpI x y < 0) = false := by
    rcases Nat.lt_or_ge y x with h | h
    · rw [cmpI_gt (by omega)]; rfl
    · obtain rfl : x = y := by omega
      rw [cmpI_eq]; rfl
  have t2 : ((lw y : Int) == 1) = false := by rw [beq_eq_false_iff_ne]; omega
  have hlp : 0 < lw y := by omega
  have hlm : m < lw y := by omega
  have im : (lw y : Int) - 1 = (m : Int) := by omega
  have hy0 : y ≠ 0 := fun h => by rw [h, lw_zero] at hy; omega
  have hys : lw y ≤ lw x := lw_mono hle
  obtain ⟨bb, ob, rfl, hbb, hcellb⟩ := hrb.at_ (k := m) (by rw [wds_length]; omega)
  have hcy := hcellb m (by rw [wds_length]; omega)
  have htw := wds_get y m
  obtain ⟨top, htop⟩ : ∃ top, top = (wds y).getD m 0 := ⟨_, rfl⟩
  rw [← htop] at hcy htw
  have htop0 : 0 < top := by rw [htop]; exact (top_word hm).2
  obtain ⟨s, hs'⟩ : ∃ s, s = 64 - blen top := ⟨_, rfl⟩
  have hs64 : s < 64 := by
    have : 0 < blen top := by rw [blen_pos (by omega)]; omega
    omega
  have hsn : shN (s : Int) = s := by unfold shN; omega
  have hlz := fun W => lz64_any top W htw
  rw [← hs'] at hlz
  have Hlz := Lib.hid hlz
  have Hsn := Lib.hid hsn
  have hX := lw_shl (x := x) (s := s) (by omega)
  have hY := lw_shl (x := y) (s := s) (by omega)
  have hYX : y * 2 ^ s ≤ x * 2 ^ s := Nat.mul_le_mul_right _ hle
  have hY0 : y * 2 ^ s ≠ 0 := Nat.mul_ne_zero hy0 (Nat.ne_of_gt (Nat.two_pow_pos s))
  have hdiv := div_shift x y s
  obtain ⟨X, hX'⟩ : ∃ X, X = x * 2 ^ s := ⟨_, rfl⟩
  obtain ⟨Y, hY'⟩ : ∃ Y, Y = y * 2 ^ s := ⟨_, rfl⟩
  rw [← hX'] at hX hYX hdiv
  rw [← hY'] at hY hYX hY0 hdiv
  have hlYX := lw_mono hYX
  have hlY0 := lw_pos hY0
  have HX := Lib.hid hX'
  have HY := Lib.hid hY'
  have Hdiv := Lib.hid hdiv
  have Hm := Lib.hid hm
  have Htop := Lib.hid htop
  have hcy' : w.cell? ⟨bb, ob + m, none⟩ = some (U top) := hcy
  clear hcellb htop hs' hlz hsn hdiv hX' hY' hm hYX hy hcy
  go_enter Tryz.func79, Tryz.ntmps79
  go_wp2_with fail
  refine (trim_num _ _ _ _ hra hca hma).mono ?_
  rintro e w' ⟨rfl, rfl⟩
  go_wp2_with fail
  refine (trim_num _ _ _ _ hrb hcb hmb).mono ?_
  rintro e w' ⟨rfl, rfl⟩
  go_wp2_with fail
  refine (cmp_any _ _ x y _ (Num.at_cap hra (Nat.le_refl _) (by omega)) (Num.at_cap hrb (Nat.le_refl _) (by omega)) (by omega)).mono ?_
  rintro e w' ⟨rfl, nq, rfl⟩
  go_wp2_with fail
  refine (Hlz.out _).mono ?_
  rintro e w' ⟨rfl, rfl⟩
  go_wp2_with fail
  refine (shl_c _ y _ _ ((Num.at_cap hrb (Nat.le_refl _) (by omega)).drewN nq) (by omega)).mono ?_
  rintro e w1 ⟨v1, rfl, g1, g2⟩
  rw [Hsn.out, ← HY.out] at g1
  obtain ⟨A1, rfl, hm1, r1⟩ := g1
  have b1 : Below w.heap.size w w1 := below_of_drewN g2
  have na : Num w1 (.slice A (lw x) (lw x)) x := (Num.at_cap hra (Nat.le_refl _) (by omega)).below b1
  clear g2
  go_wp2_with fail
  refine (shl_c _ x _ _ na (by omega)).mono ?_
  rintro e w2 ⟨v2, rfl, g3, g4⟩
  rw [Hsn.out, ← HX.out] at g3
  obtain ⟨A2, rfl, hm2, r2⟩ := g3
  have b2 : Below w.heap.size w w2 := b1.trans (g4.mono b1.size)
  replace r1 := r1.below g4
  clear g4 na
  obtain ⟨ba, oa, rfl, hba, hcellX⟩ := r2.at_ (k := 0) (by rw [wds_length]; omega)
  have HcX := Lib.hid hcellX
  have R1 := Lib.hid r1
  clear hcellX r2 r1 hcy' hra hrb
  go_wp2_with (at_builtin; refine wpList_append_arg _ rfl (.tmp 56) (.tmp 57) 23 rfl 26 i0 (.int .u64 0) 1 8 Tryz.underlying23 hi hz0 hz1 hz2 rfl (by decide) ba oa (lw X) (lw X) ((wds X).map U) rfl ?c1 ?c2 ⟨w2.heap.size, 0, none⟩ 1 1 [U 0] rfl ?c3 ?c4 ?c5 ?c6 ?c7 ?c8 ?c9 ?_)
  case c1 => rw [List.length_map, wds_length, Nat.mul_one]
  case c2 =>
    intro j u hj
    obtain ⟨h1, rfl⟩ := map_at hj
    exact (((Below.refl w2.heap.size w2).alloc (Nat.le_refl _) _).cell (p := ⟨ba, oa + j, none⟩) hba).trans (HcX.out j h1)
  case c3 => rfl
  case c4 =>
    intro j u hj
    match j, hj with
    | 0, hj => simp at hj; subst hj; simp [Addr.add]
  case c5 => intro u hu; simp at hu; subst hu; rfl
  case c6 => intro h; omega
  case c7 => unfold maxLen; omega
  case c8 => omega
  case c9 => intro h; omega
  intro v' w3 hown hgr
  have hown' : w3.ownsRow (w2.heap.size + 1) 26 1 v' (lw X + 1) ((wds X ++ [0]).map U) := by
    rw [List.map_append]; exact hown
  obtain ⟨g, cu, rfl, hg1, hc1, hc2, hl1, ho1⟩ := OW.of_own hown' (by omega)
  have hb3 : Below w2.heap.size w2 w3 := ((Below.refl w2.heap.size w2).alloc (Nat.le_refl _) _).grown hgr (by simp) (fun k hk => by cases hk)
  have b3 : Below w.heap.size w w3 := b2.trans (hb3.mono b2.size)
  have r3 := R1.out.below hb3
  have hw3 := Lib.hid b3.size
  have hws := b2.size
  clear hown hown' hgr hb3
  obtain ⟨q, hq⟩ : ∃ q, q = lw X + 1 - lw Y := ⟨_, rfl⟩
  have hql : q + lw Y = lw X + 1 := by omega
  have iq : (lw X : Int) + 1 - (lw Y : Int) = (q : Int) := by omega
  have hmk := fun W => make_nat q (by omega) W
  have hv0 : val (wds X ++ [0]) = X := by rw [val_snoc, Nat.mul_zero, Nat.add_zero, val_wds]
  have hok0 : okw (wds X ++ [0]) := okw_append (okw_wds X) (okw_cons (by omega) okw_nil)
  have hlt0 := div_first hY0 hql
  obtain ⟨us0, hus0⟩ : ∃ us0, us0 = wds X ++ [0] := ⟨_, rfl⟩
  rw [← hus0] at hl1 ho1 hv0 hok0
  have HO1 := Lib.hid ho1
  have HL1 := Lib.hid hl1
  have HV0 := Lib.hid hv0
  have HOK0 := Lib.hid hok0
  have HLT0 := Lib.hid hlt0
  obtain ⟨bv, ov, rfl, hbv, _⟩ := r3.at_ (k := 0) (by rw [wds_length]; omega)
  have hbv2 : bv < w2.heap.size := by
    have h := R1.out
    rcases h with h | ⟨b', o', e, h1, _⟩
    · exact absurd (congrArg List.length h) (by rw [wds_length]; simp; omega)
    · cases e; exact h1
  have hbg : bv ≠ g := by omega
  have hgl := ho1.lt
  have R3 := Lib.hid r3
  clear ho1 hl1 hv0 hok0 hlt0 hus0 r3 R1 hq HcX
  go_wp2_with fail
  have hw0 := Lib.hid (WB.made w3 q)
  have hb0 := b3.alloc b3.size (.cells (madeCells #[.int .u64 0] q) 26)
  have ho0 := Lib.hid (HO1.out.alloc (.cells (madeCells #[.int .u64 0] q) 26))
  have hr0 := Lib.hid (R3.out.alloc (.cells (madeCells #[.int .u64 0] q) 26))
  have hi0 := Lib.hid (show val us0 + Y * val ((List.replicate q 0).drop q) * bp q = X by rw [List.drop_eq_nil_of_le (by simp), val_nil, HV0.out]; simp)
  rw [← HV0.out] at HLT0
  clear hmk b3 b2 HO1
  go_loopw [13] (fun i wr => ∃ (k : Nat) (us qs : List Nat), k ≤ q ∧ i = .int .i64 ((k : Int) - 1) ∧ Hid (OW wr g us) ∧ Hid (us.length = lw X + 1) ∧ Hid (okw us) ∧ Hid (WB wr w3.heap.size qs) ∧ Hid (qs.length = q) ∧ Hid (okw qs) ∧
      Hid (val us + Y * val (qs.drop k) * bp k = X) ∧ Hid (val us < Y * bp k) ∧ Hid (RW wr (some ⟨bv, ov, none⟩) (wds Y)) ∧ Below w.heap.size w wr)
    (fun i _ => (intOf i + 1).toNat)
  case atStart => exact ⟨q, us0, _, Nat.le_refl _, rfl, ho0, HL1, HOK0, hw0, List.length_replicate, okw_replicate _, hi0, HLT0, hr0, hb0⟩
  case round =>
    clear hb0
    obtain ⟨k, us, qs, hk, rfl, p1, p2, p3, p4, p5, p6, p7, p8, p9, hbe⟩ := hrel
    by_cases h0 : k = 0
    · subst h0
      have e7 := p7.out
      have e8 := p8.out
      rw [List.drop_zero, bp_zero, Nat.mul_one] at e7
      rw [bp_zero, Nat.mul_one] at e8
      have hlast := div_last e7 e8
      rw [Hdiv.out.1, Hdiv.out.2] at hlast
      have Hlast := Lib.hid hlast
      clear e7 e8 hlast
      go_wp2_with fail
      refine (trim_any _ _ _ qs _ p4.out.rw_ p5.out (Nat.le_refl _) (by unfold maxLen; omega)).mono ?_
      rintro e w' ⟨rfl, rfl⟩
      go_wp2_with fail
      refine (shr_words _ _ _ us s _ p1.out.rw_ p2.out p3.out (by omega) (by omega) (by omega)).mono ?_
      rintro e w4 ⟨v4, rfl, k1, k2⟩
      go_wp2_with fail
      go_ret3
      refine ⟨_, v4, rfl, ?_, ?_, hbe.trans (k2.mono hbe.size)⟩
      · rw [← Hlast.out.1]
        exact (num_of_wb p4.out p5.out p6.out (by unfold maxLen; omega)).below k2
      · rw [Hlast.out.2, Nat.mul_div_cancel _ (Nat.two_pow_pos s)] at k1
        exact k1
    · obtain ⟨m', rfl⟩ : ∃ m', k = m' + 1 := ⟨k - 1, by omega⟩
      have ei : ((m' + 1 : Nat) : Int) - 1 = (m' : Int) := by omega
      rw [ei]
      clear ei
      obtain ⟨h, hh⟩ : ∃ h, h = m' + lw Y + 1 := ⟨_, rfl⟩
      have ih : (m' : Int) + (lw Y : Int) + 1 = (h : Int) := by omega
      have hhl : h ≤ lw X + 1 := by omega
      have hhc : h ≤ cu := by omega
      have hmh : m' < h := by omega
      have hmc : m' < cu := by omega
      have hdig := digit_any g m' (cu - m') (lw Y) (lw Y - 1) (lw Y) (h - m') bv ov Y us
      have Hd := Lib.hid (fun W a1 a2 => hdig W a1 p3.out a2 hbg (by omega) (by omega) (by omega) (by rw [p2.out]; omega) (by rw [p2.out]; omega) p8.out)
      clear hdig
      have Hh := Lib.hid hh
      clear hh
      have hgq : w3.heap.size ≠ g := by omega
      have hgb := Lib.hid hg1
      go_wp2_with fail
      refine (Hd.out _ p1.out p9.out).mono ?_
      rintro e w5 ⟨us', rfl, k1, k2, k3, k4, k5⟩
      have c4 := p4.out.grown k5 (by simpa using hgq)
      have hco : w5.cell? ⟨w3.heap.size, m', none⟩ = some (U (qs.getD m' 0)) := c4.cell (by rw [p5.out]; omega)
      have hfo : w5.frozen? ⟨w3.heap.size, m', none⟩ = false := c4.frozen _
      have hqv : val us / (Y * bp m') ≤ 18446744073709551615 := guess_top (V0 := val us) (D := Y * bp m') (by have := p8.out; rw [bp_succ, Nat.mul_left_comm, Nat.mul_comm] at this; exact this) rfl (Nat.mul_pos (Nat.pos_of_ne_zero hY0) (bp_pos _))
      have hround := div_round (qs := qs) (m := m') (by rw [p5.out]; omega) p7.out rfl k4
      have hlt' : val us' < Y * bp m' := by rw [k4]; exact Nat.mod_lt _ (Nat.mul_pos (Nat.pos_of_ne_zero hY0) (bp_pos _))
      obtain ⟨qm, hqm⟩ : ∃ qm, qm = val us / (Y * bp m') := ⟨_, rfl⟩
      rw [← hqm] at hqv hround ⊢
      have K1 := Lib.hid k1
      have K2 := Lib.hid k2
      have K3 := Lib.hid k3
      have K5 := Lib.hid k5
      have C4 := Lib.hid c4
      have Hround := Lib.hid hround
      have Hlt' := Lib.hid hlt'
      clear k1 k2 k3 k4 k5 c4 hround hlt' hqm
      go_wp2_with fail
      go_roundw
      case rel =>
        have b5 : Below w.heap.size w w5 := hbe.grown K5.out hbe.size (fun k hk => by cases hk; have := hgb.out; omega)
        refine ⟨m', us', qs.set m' qm, by omega, by go_num, Lib.hid (K1.out.far (by simpa using hgq.symm) _), Lib.hid (by rw [K2.out]; exact p2.out), K3, Lib.hid (C4.out.set_ _ _), Lib.hid (by rw [List.length_set]; exact p5.out), okw_set p6.out _ _ (by omega), Hround, Hlt', Lib.hid ?_, b5.setCell hw3.out _⟩
        exact (p9.out.grown K5.out hbg).grown (grown_set (grown_refl w5 (some w3.heap.size)) m' _) (by omega)
      case measure => simp [intOf]
end Go.Proofs.YtnlpkehllihllaaGreatDoor
