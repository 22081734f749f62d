/-
  A part of the proofs that calipertop.TopBack, TopFloats and TopNearest return true for every input and leave it as it was: part 36 of 47.
-/
import Derived.Test.YtnlpkehllihllaaGreatDoorGt32
import Derived.Test.YtnlpkehllihllaaGreatDoorGt29
import Derived.Test.YtnlpkehllihllaaGreatDoorGt33
import Derived.Test.YtnlpkehllihllaaGreatDoorGt34
import Derived.Test.YtnlpkehllihllaaGreatDoorGt35
/-
  The walk of calipertop.TopBack.
-/
namespace Go.Proofs.YtnlpkehllihllaaGreatDoor
open Go.RowKit Go.Sort

/-- print.Print, and parse.Parse of what it tells. -/
theorem back_all (n p : Nat) (w : World) (h1 : 1 ≤ n) (h2 : n < 15) (hp : p < 2 ^ (formAt n).width) (hE : Env w) (hT : Tab w) (hP : PTab w) :
    Calls Tryz.prog 14 #[.int .i64 n, U p] w fun r w' => ∃ T, r = .returned (.tuple #[S T, .int .i64 0]) ∧
      Hid (∀ (mode : Int) W, (mode = 1 ∨ mode = 2) → Env W → Calls Tryz.prog 16 #[.int .i64 n, .int .i64 mode, S T] W fun r' w'' => r' = .returned (.tuple #[U (canN (formAt n) p), .int .i64 0, .int .i64 0]) ∧ Below W.heap.size W w'') ∧ Below w.heap.size w w' := by
  have hw := width_bd (form_is h1 h2)
  rcases cls_four (formAt n) p (pKey (formAt n) p) with hc | hc | hc | hc
  · have ec : canN (formAt n) p = p := by unfold canN; rw [hc, if_neg (by decide)]
    have et : textW (formAt n) p = sgnL (pNeg (formAt n) p) ++ [48] := by unfold textW; rw [hc, if_neg (by decide)]; rfl
    refine (print_word n p w h1 h2 hp (by rw [hc]; decide) hE hP).mono ?_
    rintro r w' ⟨rfl, hb⟩
    refine ⟨_, rfl, Lib.hid fun mode W hm hW => ?_, hb⟩
    rw [ec, et]
    exact parse_zero n p mode W h1 h2 hm hp hc hW
  · have ec : canN (formAt n) p = p := by unfold canN; rw [hc, if_neg (by decide)]
    refine (print_fin n p w h1 h2 hp hc hE hT).mono ?_
    rintro r w' ⟨D, K, rfl, hS, hb⟩
    refine ⟨_, rfl, Lib.hid fun mode W hm hW => ?_, hb⟩
    rw [ec]
    exact parse_back n p mode D K W h1 h2 hm hp hc hS.out hW
  · have ec : canN (formAt n) p = p := by unfold canN; rw [hc, if_neg (by decide)]
    have et : textW (formAt n) p = sgnL (pNeg (formAt n) p) ++ [105, 110, 102] := by unfold textW; rw [hc, if_neg (by decide)]; rfl
    obtain ⟨i1, i2, i3⟩ := inf_pat h1 h2 hp hc
    refine (print_word n p w h1 h2 hp (by rw [hc]; decide) hE hP).mono ?_
    rintro r w' ⟨rfl, hb⟩
    refine ⟨_, rfl, Lib.hid fun mode W hm hW => ?_, hb⟩
    rw [ec, et]
    refine parse_word n mode _ (pNeg (formAt n) p) 2 p W h1 h2 hm (wd_inf _) (by decide) (fun W => ?_) hW
    have hib := (inf_bd h2 i1).1
    refine (pword_inf (formAt n) (pNeg (formAt n) p) W (by omega) hw.2 i1 i2 (Nat.lt_of_lt_of_le hib (Nat.le_trans (Nat.pow_le_pow_right (by omega) (show (formAt n).width - 1 ≤ 64 by omega)) (Nat.le_refl _)))).mono ?_
    rintro r w' ⟨rfl, hb⟩
    rw [i3]
    exact ⟨rfl, hb⟩
  · have ec : canN (formAt n) p = (formAt n).nan := by unfold canN; rw [hc, if_pos rfl]
    refine (print_word n p w h1 h2 hp (by rw [hc]; decide) hE hP).mono ?_
    rintro r w' ⟨rfl, hb⟩
    refine ⟨_, rfl, Lib.hid fun mode W hm hW => ?_, hb⟩
    rw [ec]
    by_cases hk : (formAt n).kind = 1
    · have et : textW (formAt n) p = [78, 97, 82] := by unfold textW; rw [hc, if_pos rfl, if_pos hk]
      rw [et]
      exact parse_word n mode _ false 4 _ W h1 h2 hm wd_nar (by decide) (fun W => pword_nar (formAt n) W hk) hW
    · have et : textW (formAt n) p = [110, 97, 110] := by unfold textW; rw [hc, if_pos rfl, if_neg hk]
      rw [et]
      exact parse_word n mode _ false 3 _ W h1 h2 hm wd_nan (by decide) (fun W => pword_nan (formAt n) W hk (nan_pat h1 h2 hp hc)) hW

set_option maxHeartbeats 3200000 in
set_option maxRecDepth 100000 in
/-- calipertop.TopBack. -/
theorem back_walk (id : Int) (p : Nat) (sp : Bool) (w : World) (hp : p < 18446744073709551616) (hE : Env w) (hT : Tab w) (hP : PTab w) :
    Calls Tryz.prog 4 #[.int .i64 id, U p, .bool sp] w fun r w' => r = .returned (.bool true) ∧ Below w.heap.size w w' := by
  have Wk := Lib.hid fun W (hE : Env W) (hT : Tab W) => works_any W hE hT
  have HE := Lib.hid hE
  have HT := Lib.hid hT
  have HP := Lib.hid hP
  by_cases he : fitE id p = 0
  · have hn : 1 ≤ id ∧ id < 15 ∧ p < 2 ^ (formAt id.toNat).width := by
      unfold fitE at he
      split at he
      · cases he
      · split at he
        · next q => exact ⟨by omega, by omega, q⟩
        · cases he
    obtain ⟨n1, n2, n3⟩ := hn
    obtain ⟨n, rfl⟩ : ∃ n : Nat, id = n := ⟨id.toNat, by omega⟩
    rw [Int.toNat_natCast] at n3
    have Pr := Lib.hid fun W (hE : Env W) (hT : Tab W) (hP : PTab W) => back_all n p W (by omega) (by omega) n3 hE hT hP
    have Ca := Lib.hid fun W (hE : Env W) => canon_any n p W (by omega) (by omega) n3 hE
    obtain ⟨c, hc⟩ : ∃ c, c = canN (formAt n) p := ⟨_, rfl⟩
    rw [← hc] at Pr Ca
    clear he hE hT hP hp n1 n2 n3 hc
    obtain ⟨mode, hmode, hmm⟩ : ∃ mode : Int, mode = (if sp = true then 2 else 1) ∧ (mode = 1 ∨ mode = 2) := ⟨_, rfl, by cases sp; exact .inl rfl; exact .inr rfl⟩
    clear hmm
    cases sp
    case false =>
      obtain rfl : mode = 1 := hmode
      go_enter Tryz.func4, Tryz.ntmps4
      go_wp2_with fail
      ((with_reducible refine (Wk.out _ HE.out HT.out).mono ?_); rintro r w1 ⟨rfl, g1⟩)
      have HE1 := Lib.hid (HE.out.below g1)
      have HT1 := Lib.hid (HT.out.below g1 (Nat.le_refl _))
      have HP1 := Lib.hid (HP.out.below g1)
      have HB1 := Lib.hid g1
      clear g1 HE HT HP Wk
      go_wp2_with fail
      ((with_reducible refine (Pr.out _ HE1.out HT1.out HP1.out).mono ?_); rintro r w2 ⟨T, rfl, hpar, g2⟩)
      have HE2 := Lib.hid (HE1.out.below g2)
      have HB2 := Lib.hid (HB1.out.trans (g2.mono HB1.out.size))
      have HPA := Lib.hid hpar.out
      clear g2 HE1 HT1 HP1 HB1 hpar Pr
      go_wp2_with fail
      ((with_reducible refine (Ca.out _ HE2.out).mono ?_); rintro r w3 ⟨rfl, g3⟩)
      have HE3 := Lib.hid (HE2.out.below g3)
      have HB3 := Lib.hid (HB2.out.trans (g3.mono HB2.out.size))
      clear g3 HE2 HB2 Ca
      go_wp2_with fail
      ((with_reducible refine (HPA.out _ _ (by first | exact .inl rfl | exact .inr rfl) HE3.out).mono ?_); rintro r w4 ⟨rfl, g4⟩)
      have HB4 := Lib.hid (HB3.out.trans (g4.mono HB3.out.size))
      clear g4 HE3 HB3 HPA
      go_wp2_with fail
      go_ret
      exact ⟨rfl, HB4.out⟩
    case true =>
      obtain rfl : mode = 2 := hmode
      go_enter Tryz.func4, Tryz.ntmps4
      go_wp2_with fail
      ((with_reducible refine (Wk.out _ HE.out HT.out).mono ?_); rintro r w1 ⟨rfl, g1⟩)
      have HE1 := Lib.hid (HE.out.below g1)
      have HT1 := Lib.hid (HT.out.below g1 (Nat.le_refl _))
      have HP1 := Lib.hid (HP.out.below g1)
      have HB1 := Lib.hid g1
      clear g1 HE HT HP Wk
      go_wp2_with fail
      ((with_reducible refine (Pr.out _ HE1.out HT1.out HP1.out).mono ?_); rintro r w2 ⟨T, rfl, hpar, g2⟩)
      have HE2 := Lib.hid (HE1.out.below g2)
      have HB2 := Lib.hid (HB1.out.trans (g2.mono HB1.out.size))
      have HPA := Lib.hid hpar.out
      clear g2 HE1 HT1 HP1 HB1 hpar Pr
      go_wp2_with fail
      ((with_reducible refine (Ca.out _ HE2.out).mono ?_); rintro r w3 ⟨rfl, g3⟩)
      have HE3 := Lib.hid (HE2.out.below g3)
      have HB3 := Lib.hid (HB2.out.trans (g3.mono HB2.out.size))
      clear g3 HE2 HB2 Ca
      go_wp2_with fail
      ((with_reducible refine (HPA.out _ _ (by first | exact .inl rfl | exact .inr rfl) HE3.out).mono ?_); rintro r w4 ⟨rfl, g4⟩)
      have HB4 := Lib.hid (HB3.out.trans (g4.mono HB3.out.size))
      clear g4 HE3 HB3 HPA
      go_wp2_with fail
      go_ret
      exact ⟨rfl, HB4.out⟩
  · have Pr := Lib.hid fun W (hE : Env W) => print_bad id p W hp he hE
    have Ca := Lib.hid fun W (hE : Env W) => canon_bad id p W hp he hE
    obtain ⟨e, hee⟩ : ∃ e, e = fitE id p := ⟨_, rfl⟩
    rw [← hee] at Pr Ca he
    have te : (e != 0) = true := by simpa using he
    have te2 : (e == 0) = false := by simpa using he
    clear he hE hT hP hp hee
    cases sp
    all_goals
      go_enter Tryz.func4, Tryz.ntmps4
      go_wp2_with fail
      ((with_reducible refine (Wk.out _ HE.out HT.out).mono ?_); rintro r w1 ⟨rfl, g1⟩)
      have HE1 := Lib.hid (HE.out.below g1)
      have HB1 := Lib.hid g1
      clear g1 HE HT HP Wk
      go_wp2_with fail
      ((with_reducible refine (Pr.out _ HE1.out).mono ?_); rintro r w2 ⟨rfl, g2⟩)
      have HE2 := Lib.hid (HE1.out.below g2)
      have HB2 := Lib.hid (HB1.out.trans (g2.mono HB1.out.size))
      clear g2 HE1 HB1 Pr
      go_wp2_with fail
      ((with_reducible refine (Ca.out _ HE2.out).mono ?_); rintro r w3 ⟨rfl, g3⟩)
      have HB3 := Lib.hid (HB2.out.trans (g3.mono HB2.out.size))
      clear g3 HE2 HB2 Ca
      go_wp2_with fail
      go_ret
      exact ⟨rfl, HB3.out⟩
end Go.Proofs.YtnlpkehllihllaaGreatDoor
