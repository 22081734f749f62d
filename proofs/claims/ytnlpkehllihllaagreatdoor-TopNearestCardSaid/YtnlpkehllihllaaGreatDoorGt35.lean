/-
  A part of the proofs that calipertop.TopBack, TopFloats and TopNearest return true for every input and leave it as it was: part 35 of 47.
-/
import Derived.Test.YtnlpkehllihllaaGreatDoorGt29
import Derived.Test.YtnlpkehllihllaaGreatDoorGt33
/-
  The walk of calipertop.works.
-/
namespace Go.Proofs.YtnlpkehllihllaaGreatDoor
open Go.RowKit Go.Sort

def tenthTxt : ByteArray := ⟨#[48, 46, 49]⟩
def hugeTxt : ByteArray := ⟨#[45, 49, 101, 57, 57]⟩
theorem tenth_sct : ScT tenthTxt false [48] true [49] false false [] [49] 1 0 (-1) := by
  refine ⟨⟨rfl, by decide, ?_, ?_, ?_, by decide, by decide, by decide, by decide, by decide, by decide⟩, by decide, by decide, by decide, by decide, by decide, by decide, by decide, by decide, by decide, by decide⟩
  · intro b hb; simp at hb; subst hb; exact ⟨by decide, by decide⟩
  · intro b hb; simp at hb; subst hb; exact ⟨by decide, by decide⟩
  · intro b hb; simp at hb
theorem huge_sct : ScT hugeTxt true [49] false [] true false [57, 57] [49] 0 0 99 := by
  refine ⟨⟨rfl, by decide, ?_, ?_, ?_, by decide, by decide, by decide, by decide, by decide, by decide⟩, by decide, by decide, by decide, by decide, by decide, by decide, by decide, by decide, by decide, by decide⟩
  · intro b hb; simp at hb; subst hb; exact ⟨by decide, by decide⟩
  · intro b hb; simp at hb
  · intro b hb; simp at hb; subst hb; exact ⟨by decide, by decide⟩

def closedW : Bool := decide (4591870180066957722 < 2 ^ (formAt 14).width) && decide (clsI (formAt 14) 4591870180066957722 (pKey (formAt 14) 4591870180066957722) = 2) && !pNeg (formAt 14) 4591870180066957722
  && !wth (formAt 1) (ex 1 99 99) (mostN (formAt 1) true) && decide (largeN (formAt 1) 1 true = 129) && decide ((formAt 1).kind ≠ 4)
set_option maxRecDepth 100000 in
theorem closedW_is : closedW = true := by decide +kernel
theorem closedW_parts : 4591870180066957722 < 2 ^ (formAt 14).width ∧ clsI (formAt 14) 4591870180066957722 (pKey (formAt 14) 4591870180066957722) = 2 ∧ pNeg (formAt 14) 4591870180066957722 = false ∧ wth (formAt 1) (ex 1 99 99) (mostN (formAt 1) true) = false ∧ largeN (formAt 1) 1 true = 129 ∧ (formAt 1).kind ≠ 4 := by
  have t := closedW_is
  unfold closedW at t
  simp only [Bool.and_eq_true, decide_eq_true_eq, Bool.not_eq_true'] at t
  exact ⟨t.1.1.1.1.1, t.1.1.1.1.2, t.1.1.1.2, t.1.1.2, t.1.2, t.2⟩
theorem tenth_round {q : Nat} (h : RoundIs (formAt 14) 2 false (ex 1 (-1) (-1)) q) : q = 4591870180066957722 := by
  obtain ⟨c1, c2, c3, _⟩ := closedW_parts
  have t := tenth_is
  unfold tenth at t
  simp only [Bool.and_eq_true, decide_eq_true_eq, Bool.not_eq_true'] at t
  obtain ⟨⟨⟨t1, t2⟩, t3⟩, t4⟩ := t
  rw [← c3] at h
  refine round_is (form_is (by omega) (by omega)) c1 c2 (ex_pos (by decide) _ _) ?_ h
  unfold oneB at t2
  rw [t3, Nat.one_mul] at t2
  exact t2
theorem huge_round {q : Nat} (h : RoundIs (formAt 1) 1 true (ex 1 99 99) q) : q = 129 := by
  obtain ⟨_, _, _, c4, c5, c6⟩ := closedW_parts
  rcases h with ⟨h1, _⟩ | ⟨_, k, over, hn, hq⟩
  · exact absurd h1 c6
  · rcases hn with ⟨rfl, _, _⟩ | ⟨_, hw, _⟩
    · rw [if_pos rfl] at hq
      rw [hq, c5]
    · rw [c4] at hw; cases hw
theorem one_text : textL 1 = [49] := by rw [textL_small (by omega), Lib.decDigits_one (by omega)]; rfl
theorem tenth_text : layT 1 (-1) = [48, 46, 49] := by
  unfold layT
  rw [one_text]
  rfl
theorem dval_49 : dval [49] = 1 := by decide

/-- parse.Parse of "0.1". -/
theorem parse_tenth (w : World) (hE : Env w) : Calls Tryz.prog 16 #[.int .i64 14, .int .i64 2, .string ⟨#[48, 46, 49]⟩] w fun r w' => r = .returned (.tuple #[.int .u64 4591870180066957722, .int .i64 0, .int .i64 0]) ∧ Below w.heap.size w w' := by
  refine (show Calls Tryz.prog 16 #[.int .i64 (14 : Nat), .int .i64 2, .string tenthTxt] w _ from parse_num 14 2 tenthTxt false [48] true [49] false false [] [49] 1 0 (-1) w (by omega) (by omega) (.inr rfl) tenth_sct hE).mono ?_
  rintro r w' ⟨q, rfl, hq, hb⟩
  have a := hq.out
  rw [dval_49] at a
  rw [tenth_round a]
  exact ⟨rfl, hb⟩
/-- parse.Parse of "-1e99". -/
theorem parse_huge (w : World) (hE : Env w) : Calls Tryz.prog 16 #[.int .i64 1, .int .i64 1, .string ⟨#[45, 49, 101, 57, 57]⟩] w fun r w' => r = .returned (.tuple #[.int .u64 129, .int .i64 0, .int .i64 0]) ∧ Below w.heap.size w w' := by
  refine (show Calls Tryz.prog 16 #[.int .i64 (1 : Nat), .int .i64 1, .string hugeTxt] w _ from parse_num 1 1 hugeTxt true [49] false [] true false [57, 57] [49] 0 0 99 w (by omega) (by omega) (.inl rfl) huge_sct hE).mono ?_
  rintro r w' ⟨q, rfl, hq, hb⟩
  have a := hq.out
  rw [dval_49] at a
  rw [huge_round a]
  exact ⟨rfl, hb⟩
/-- print.Print of the double next to a tenth. -/
theorem print_tenth (w : World) (hE : Env w) (hT : Tab w) : Calls Tryz.prog 14 #[.int .i64 14, .int .u64 4591870180066957722] w fun r w' => r = .returned (.tuple #[.string ⟨#[48, 46, 49]⟩, .int .i64 0]) ∧ Below w.heap.size w w' := by
  obtain ⟨c1, c2, c3, _⟩ := closedW_parts
  refine (show Calls Tryz.prog 14 #[.int .i64 (14 : Nat), U 4591870180066957722] w _ from print_fin 14 4591870180066957722 w (by omega) (by omega) c1 c2 hE hT).mono ?_
  rintro r w' ⟨D, K, rfl, hs, hb⟩
  obtain ⟨rfl, rfl⟩ := short_tenth hs.out
  rw [c3, tenth_text]
  exact ⟨rfl, hb⟩
end Go.Proofs.YtnlpkehllihllaaGreatDoor

/-
  The walk of calipertop.works.
-/
namespace Go.Proofs.YtnlpkehllihllaaGreatDoor
open Go.RowKit Go.Sort

set_option maxHeartbeats 1600000 in
set_option maxRecDepth 100000 in
theorem works_any (w : World) (hE : Env w) (hT : Tab w) : Calls Tryz.prog 6 #[] w fun r w' => r = .returned (.bool true) ∧ Below w.heap.size w w' := by
  have Pa := Lib.hid fun W (hE : Env W) => parse_tenth W hE
  have Ph := Lib.hid fun W (hE : Env W) => parse_huge W hE
  have Pt := Lib.hid fun W (hE : Env W) (hT : Tab W) => print_tenth W hE hT
  obtain ⟨q, hq⟩ : ∃ q : Int, q = 4591870180066957722 := ⟨_, rfl⟩
  rw [← hq] at Pa Pt
  have t25 : (q == 4591870180066957722) = true := by rw [hq]; rfl
  obtain ⟨h, hh⟩ : ∃ h : Int, h = 129 := ⟨_, rfl⟩
  rw [← hh] at Ph
  have t40 : (h == 129) = true := by rw [hh]; rfl
  have HE := Lib.hid hE
  have HT := Lib.hid hT
  clear hq hh hE hT
  go_enter Tryz.func6, Tryz.ntmps6
  go_wp2_with fail
  ((with_reducible refine (Pa.out _ HE.out).mono ?_); rintro r w1 ⟨rfl, g1⟩)
  have HE1 := Lib.hid (HE.out.below g1)
  have HT1 := Lib.hid (HT.out.below g1 (Nat.le_refl _))
  have HB1 := Lib.hid g1
  clear g1 HE HT Pa
  go_wp2_with fail
  ((with_reducible refine (Pt.out _ HE1.out HT1.out).mono ?_); rintro r w2 ⟨rfl, g2⟩)
  have HE2 := Lib.hid (HE1.out.below g2)
  have HB2 := Lib.hid (HB1.out.trans (g2.mono HB1.out.size))
  clear g2 HE1 HT1 HB1 Pt
  go_wp2_with fail
  ((with_reducible refine (Ph.out _ HE2.out).mono ?_); rintro r w3 ⟨rfl, g3⟩)
  have HB3 := Lib.hid (HB2.out.trans (g3.mono HB2.out.size))
  clear g3 HE2 HB2 Ph
  go_wp2_with fail
  go_ret
  exact ⟨rfl, HB3.out⟩
end Go.Proofs.YtnlpkehllihllaaGreatDoor
