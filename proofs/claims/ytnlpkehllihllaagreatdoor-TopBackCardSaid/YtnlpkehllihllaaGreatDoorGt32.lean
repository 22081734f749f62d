/-
  A part of the proofs that calipertop.TopBack, TopFloats and TopNearest return true for every input and leave it as it was: part 32 of 47.
-/
import Derived.Test.YtnlpkehllihllaaGreatDoorGt25
/-
  The walks of forms.Form.number and forms.Canon.
-/
namespace Go.Proofs.YtnlpkehllihllaaGreatDoor
open Go.RowKit Go.Sort

theorem top_no {p n : Nat} (hp : p < 2 ^ n) (h : n < 64) : bits .andNot .u64 (p : Int) ((2 ^ n : Nat) : Int) = (p : Int) := by
  have h1 : 2 ^ n ≤ 2 ^ 63 := Nat.pow_le_pow_right (by omega) (by omega)
  have h2 : (2 : Nat) ^ 63 = 9223372036854775808 := rfl
  rw [u64_andNot_nat _ _ (by omega) (by omega)]
  congr 1
  apply Nat.eq_of_testBit_eq
  intro i
  rw [andNot_bit (by omega) (by omega), Nat.testBit_two_pow]
  by_cases hi : n = i
  · subst hi
    rw [Nat.testBit_lt_two_pow hp]
    rfl
  · rw [decide_eq_false hi]
    simp
theorem key_word {f : Fm} (hf : FmIs f) (hk : f.kind = 2) {p : Nat} (hp : p < 2 ^ f.width) : bits .andNot .u64 (p : Int) (f.sign : Int) = (pKey f p : Int) := by
  obtain ⟨w1, w2⟩ := width_bd hf
  obtain ⟨n, hn⟩ : ∃ n, f.width = n + 1 := ⟨f.width - 1, by omega⟩
  have hw' : f.width - 1 = n := by omega
  have hs : f.sign = 2 ^ n := by unfold Fm.sign; rw [if_neg (by omega), hw']
  have hp' : p < 2 ^ (n + 1) := by rw [← hn]; exact hp
  rw [hs]
  unfold pKey pNeg
  rw [hw']
  by_cases h : 2 ^ n ≤ p
  · rw [decide_eq_true (⟨by omega, h⟩ : f.kind ≠ 4 ∧ 2 ^ n ≤ p), if_neg (by decide), if_pos hk]
    exact top_off hp' (by omega) h
  · rw [decide_eq_false (fun q => h q.2), if_pos rfl]
    exact top_no (by omega) (by omega)

set_option maxHeartbeats 1600000 in
set_option maxRecDepth 100000 in
/-- forms.Form.number. -/
theorem fnumber_any (f : Fm) (p : Nat) (w : World) (hf : FmIs f) (hp : p < 2 ^ f.width) :
    Calls Tryz.prog 36 #[f.v, U p] w fun r w' => r = .returned (.bool (numB f p)) ∧ Below w.heap.size w w' := by
  obtain ⟨wd1, wd2⟩ := width_bd hf
  have Sg := Lib.hid fun W => sign_any f W (by omega) wd2
  have hoff := fun hk => key_word hf hk hp
  have HB := Lib.hid (show Below w.heap.size w (w.alloc (.cells f.cells 55)) from (Below.refl _ _).alloc (Nat.le_refl _) _)
  have HK := Lib.hid (Blk.new w 55 f.cells)
  have HN := Lib.hid (show numB f p = if f.kind = 2 then (decide (pKey f p ≤ f.top) || decide (pKey f p = f.inf)) else (decide (f.nan = 0) || decide (p ≠ f.nan)) from rfl)
  obtain ⟨nb, hnb⟩ : ∃ nb, nb = numB f p := ⟨_, rfl⟩
  rw [← hnb] at HN ⊢
  obtain ⟨ky, hky⟩ : ∃ ky, ky = pKey f p := ⟨_, rfl⟩
  rw [← hky] at HN hoff
  obtain ⟨sg, hsg⟩ : ∃ sg, sg = f.sign := ⟨_, rfl⟩
  rw [← hsg] at Sg hoff
  clear hnb hky hsg hf hp wd1 wd2
  obtain ⟨a0, a1, a2, a3, a4, a5, a6⟩ := f
  simp only [Fm.cells] at HB HK
  simp only at HN hoff
  by_cases hk : a0 = 2
  · have t1 : (a0 != 2) = false := by simpa using hk
    have ho := hoff hk
    have hv : nb = (decide (ky ≤ a4) || decide (ky = a5)) := by rw [HN.out, if_pos hk]
    clear hoff hk HN
    by_cases h1 : ky ≤ a4
    · have t2 : decide ((ky : Int) ≤ (a4 : Int)) = true := by simp; omega
      have t3 : decide (ky ≤ a4) = true := by simpa using h1
      have hv2 := Lib.hid (show true = nb by rw [hv, t3]; rfl)
      clear hv
      go_enter Tryz.func36, Tryz.ntmps36
      go_wp2_with fail
      ((with_reducible refine (Sg.out _).mono ?_); rintro r w1 ⟨rfl, g1⟩)
      have hk1 : Blk w1 w.heap.size 55 _ := Blk.below HK.out g1 HK.out.lt
      have B1 := Lib.hid (HB.out.trans (g1.mono HB.out.size))
      obtain ⟨k0, k1, k2, k3, k4, k5, k6⟩ := rest7 hk1
      clear hk1 g1
      go_wp2_with fail
      go_ret
      exact ⟨ret_b hv2.out, B1.out⟩
    · have t2 : decide ((ky : Int) ≤ (a4 : Int)) = false := by simp; omega
      have t3 : decide (ky ≤ a4) = false := by simpa using h1
      have t4 : ((ky : Int) == (a5 : Int)) = decide (ky = a5) := by
        by_cases h : ky = a5
        · rw [decide_eq_true h, beq_iff_eq]; omega
        · rw [decide_eq_false h, beq_eq_false_iff_ne]; omega
      have hv2 := Lib.hid (show decide (ky = a5) = nb by rw [hv, t3]; rfl)
      obtain ⟨bb, hbb⟩ : ∃ bb, bb = decide (ky = a5) := ⟨_, rfl⟩
      rw [← hbb] at t4 hv2
      clear hv hbb h1
      go_enter Tryz.func36, Tryz.ntmps36
      go_wp2_with fail
      ((with_reducible refine (Sg.out _).mono ?_); rintro r w1 ⟨rfl, g1⟩)
      have hk1 : Blk w1 w.heap.size 55 _ := Blk.below HK.out g1 HK.out.lt
      have B1 := Lib.hid (HB.out.trans (g1.mono HB.out.size))
      obtain ⟨k0, k1, k2, k3, k4, k5, k6⟩ := rest7 hk1
      clear hk1 g1
      go_wp2_with fail
      go_ret
      exact ⟨ret_b hv2.out, B1.out⟩
  · have t1 : (a0 != 2) = true := by simpa using hk
    have hv : nb = (decide (a6 = 0) || decide (p ≠ a6)) := by rw [HN.out, if_neg hk]
    clear hoff hk HN
    by_cases h1 : a6 = 0
    · have t2 : ((a6 : Int) == 0) = true := by rw [beq_iff_eq]; omega
      have hv2 := Lib.hid (show true = nb by rw [hv, decide_eq_true h1]; rfl)
      clear hv h1
      go_enter Tryz.func36, Tryz.ntmps36
      go_wp2_with fail
      go_ret
      exact ⟨ret_b hv2.out, HB.out⟩
    · have t2 : ((a6 : Int) == 0) = false := by rw [beq_eq_false_iff_ne]; omega
      have t4 : ((p : Int) != (a6 : Int)) = decide (p ≠ a6) := by
        by_cases h : p = a6
        · rw [decide_eq_false (by simpa using h)]; simp [h]
        · rw [decide_eq_true h]; simp; omega
      have hv2 := Lib.hid (show decide (p ≠ a6) = nb by rw [hv, decide_eq_false h1]; rfl)
      obtain ⟨bb, hbb⟩ : ∃ bb, bb = decide (p ≠ a6) := ⟨_, rfl⟩
      rw [← hbb] at t4 hv2
      clear hv hbb h1
      go_enter Tryz.func36, Tryz.ntmps36
      go_wp2_with fail
      go_ret
      exact ⟨ret_b hv2.out, HB.out⟩

set_option maxHeartbeats 1600000 in
set_option maxRecDepth 100000 in
/-- forms.Canon. -/
theorem canon_any (n p : Nat) (w : World) (h1 : 1 ≤ n) (h2 : n < 15) (hp : p < 2 ^ (formAt n).width) (hE : Env w) :
    Calls Tryz.prog 15 #[.int .i64 n, U p] w fun r w' => r = .returned (.tuple #[U (canN (formAt n) p), .int .i64 0]) ∧ Below w.heap.size w w' := by
  have hf := form_is h1 h2
  obtain ⟨wd1, wd2⟩ := width_bd hf
  have hp64 : p < 18446744073709551616 := Nat.lt_of_lt_of_le hp (Nat.pow_le_pow_right (n := 2) (by omega) (show (formAt n).width ≤ 64 from wd2))
  have e0 : fitE n p = 0 := by unfold fitE; rw [if_neg (by omega)]; exact if_pos hp
  have fi := fits_any n p w hp64 hE
  rw [e0] at fi
  have Fi := Lib.hid fi
  have Nu := Lib.hid fun W => fnumber_any (formAt n) p W hf hp
  have HC := Lib.hid (can_is (formAt n) p)
  have HE := Lib.hid hE
  have hft : ∀ W, Env W → ∀ j, j < 7 → W.cell? ⟨0, n * 7 + j, none⟩ = (formAt n).cells[j]? := fun W hW j hj => hW.ft n j h2 hj
  clear fi e0 hE hf wd1 wd2 hp
  obtain ⟨c, hc⟩ : ∃ c, c = canN (formAt n) p := ⟨_, rfl⟩
  rw [← hc] at HC ⊢
  obtain ⟨nb, hnb⟩ : ∃ nb, nb = numB (formAt n) p := ⟨_, rfl⟩
  rw [← hnb] at HC Nu
  obtain ⟨f, hff⟩ : ∃ f, f = formAt n := ⟨_, rfl⟩
  rw [← hff] at HC Nu
  have hft2 : ∀ W, Env W → ∀ j, j < 7 → W.cell? ⟨0, n * 7 + j, none⟩ = f.cells[j]? := by rw [hff]; exact hft
  clear hft hc hnb hff
  obtain ⟨a0, a1, a2, a3, a4, a5, a6⟩ := f
  have Hft := Lib.hid hft2
  clear hft2
  go_enter Tryz.func15, Tryz.ntmps15
  go_wp2_with fail
  ((with_reducible refine (Fi.out).mono ?_); rintro r w1 ⟨rfl, g1⟩)
  have E1 := HE.out.below g1
  have c0 := Hft.out w1 E1 0 (by omega)
  have c1 := Hft.out w1 E1 1 (by omega)
  have c2 := Hft.out w1 E1 2 (by omega)
  have c3 := Hft.out w1 E1 3 (by omega)
  have c4 := Hft.out w1 E1 4 (by omega)
  have c5 := Hft.out w1 E1 5 (by omega)
  have c6 := Hft.out w1 E1 6 (by omega)
  simp only [Fm.cells] at c0 c1 c2 c3 c4 c5 c6
  simp at c0 c1 c2 c3 c4 c5 c6
  obtain ⟨wa, hwa, hka, B1, b2⟩ := alloc7 (w := w) ⟨a0, a1, a2, a3, a4, a5, a6⟩ w1 g1
  simp only at hwa hka
  have HKF := Lib.hid hka
  have HB1 := Lib.hid B1
  obtain ⟨j0, j1, j2, j3, j4, j5, j6⟩ := rest7 hka
  clear g1 E1 B1 b2 hka
  go_upto_region 5 with (fail)
  rw [← hwa]
  clear hwa c0 c1 c2 c3 c4 c5 c6
  go_wp2_with fail
  ((with_reducible refine (Nu.out _).mono ?_); rintro r w2 ⟨rfl, g2⟩)
  have hk2 := Blk.below HKF.out g2 HKF.out.lt
  have HB2 := Lib.hid (HB1.out.trans (g2.mono HB1.out.size))
  obtain ⟨k0, k1, k2, k3, k4, k5, k6⟩ := rest7 hk2
  clear j0 j1 j2 j3 j4 j5 j6 hk2 g2
  cases nb
  · have hc := HC.out
    rw [if_neg (by decide)] at hc
    have HC2 := Lib.hid hc
    clear hc HC
    go_wp2_with fail
    exact bodyPost_ret (v := .tuple #[U a6, .int .i64 0]) (by simp [results, Tryz.results15, go_sem]) rfl ⟨ret_u0 HC2.out, HB2.out⟩
  · have hc := HC.out
    rw [if_pos rfl] at hc
    have HC2 := Lib.hid hc
    clear hc HC
    go_wp2_with fail
    exact bodyPost_ret (v := .tuple #[U p, .int .i64 0]) (by simp [results, Tryz.results15, go_sem]) rfl ⟨ret_u0 HC2.out, HB2.out⟩

set_option maxHeartbeats 1600000 in
set_option maxRecDepth 100000 in
/-- forms.Canon of what may not be. -/
theorem canon_bad (n : Int) (p : Nat) (w : World) (hp : p < 18446744073709551616) (he : fitE n p ≠ 0) (hE : Env w) :
    Calls Tryz.prog 15 #[.int .i64 n, U p] w fun r w' => r = .returned (.tuple #[.int .u64 0, .int .i64 (fitE n p)]) ∧ Below w.heap.size w w' := by
  have Fi := Lib.hid (fits_any n p _ hp hE)
  obtain ⟨e, hee⟩ : ∃ e, e = fitE n p := ⟨_, rfl⟩
  rw [← hee] at Fi he ⊢
  have te : (e != 0) = true := by simpa using he
  clear hee he hE
  go_enter Tryz.func15, Tryz.ntmps15
  go_wp2_with fail
  ((with_reducible refine (Fi.out).mono ?_); rintro r w1 ⟨rfl, g1⟩)
  go_wp2_with fail
  exact bodyPost_ret (v := .tuple #[.int .u64 0, .int .i64 e]) (by simp [results, Tryz.results15, go_sem]) rfl ⟨rfl, g1⟩
end Go.Proofs.YtnlpkehllihllaaGreatDoor
