/-
  A part of the proofs that calipertop.TopBack, TopFloats and TopNearest return true for every input and leave it as it was: part 34 of 47.
-/
import Derived.Test.YtnlpkehllihllaaGreatDoorGt25
import Derived.Test.YtnlpkehllihllaaGreatDoorGt27
import Derived.Test.YtnlpkehllihllaaGreatDoorGt33
import Derived.Test.YtnlpkehllihllaaGreatDoorGt20
/-
  Plain law: the text of digits is a number's text with those digits.
-/
namespace Go.Proofs.YtnlpkehllihllaaGreatDoor
open Go.RowKit

theorem sct_mk {ng pt ex' eg : Bool} {d1 d2 es core body : List UInt8} {z1 z2 : Nat} {K : Int} (hb : body = d1 ++ ((if pt = true then 46 :: d2 else []) ++ (if ex' = true then 101 :: ((if eg = true then [45] else []) ++ es) else [])))
    (g1 : ∀ b ∈ d1, isD b) (g2 : ∀ b ∈ d2, isD b) (g3 : ∀ b ∈ es, isD b) (n1 : d1 ≠ []) (n2 : pt = true → d2 ≠ []) (n3 : pt = false → d2 = []) (n4 : ex' = true → es ≠ []) (n5 : ex' = false → es = [] ∧ eg = false) (n6 : es.length ≤ 6)
    (hl : body.length ≤ 1900) (dec : d1 ++ d2 = List.replicate z1 48 ++ (core ++ List.replicate z2 48)) (ne : core ≠ []) (hd : core[0]? ≠ some 48) (la : core.reverse[0]? ≠ some 48) (le : core.length ≤ 60) (zs : z1 ≤ 1000 ∧ z2 ≤ 300)
    (he : -600 ≤ (if eg = true then -(dval es : Int) else dval es) - d2.length ∧ (if eg = true then -(dval es : Int) else dval es) - d2.length ≤ 600) (hK : K = (if eg = true then -(dval es : Int) else dval es) - d2.length + z2) :
    ScT ⟨((if ng = true then [45] else []) ++ body).toArray⟩ ng d1 pt d2 ex' eg es core z1 z2 K := by
  have hs : (⟨((if ng = true then [45] else []) ++ body).toArray⟩ : ByteArray).data.toList = (if ng = true then [45] else []) ++ body := by simp
  have hz : (⟨((if ng = true then [45] else []) ++ body).toArray⟩ : ByteArray).size = (if ng = true then 1 else 0) + body.length := by
    rw [← size_list, hs, List.length_append]
    cases ng <;> rfl
  obtain ⟨c, r, hcr⟩ : ∃ c r, d1 = c :: r := by
    cases d1 with
    | nil => exact absurd rfl n1
    | cons c r => exact ⟨c, r, rfl⟩
  refine ⟨⟨?_, ?_, g1, g2, g3, n1, n2, n3, n4, n5, n6⟩, ?_, ?_, dec, ne, hd, la, le, zs, he, hK⟩
  · rw [hs, ← hb]
    cases ng <;> rfl
  · rw [hz]; omega
  · rw [hs]
    cases ng
    · rw [hb, hcr]
      have h45 : c ≠ 45 := fun q => by
        have := g1 c (by rw [hcr]; exact List.mem_cons_self)
        rw [q] at this
        exact absurd this (by unfold isD; decide)
      show List.isPrefixOf [45] _ = false
      simp only [Bool.false_eq_true, if_false, List.nil_append, List.cons_append, List.isPrefixOf]
      rw [beq_eq_false_iff_ne.2 (fun q => h45 q.symm)]
      rfl
    · show List.isPrefixOf [45] _ = true
      simp [List.isPrefixOf]
  · rw [hz]
    split <;> omega
theorem rev_last {l : List UInt8} {D : Nat} (h : D % 10 ≠ 0) (e : l = textL D) : l.reverse[0]? ≠ some 48 := by
  obtain ⟨b, t, ht, hb⟩ := text_last h
  rw [e, ht]
  simp
  exact hb
theorem dec_short {x : Nat} (h : x ≤ 1000) : (Lib.decDigits x).length ≤ 6 := by
  rw [Lib.decDigits_length]
  exact nDigits_le 5 x (by omega)
theorem dec_ne (x : Nat) : Lib.decDigits x ≠ [] := fun q => by
  have := Lib.nDigits_pos x
  rw [← Lib.decDigits_length, q] at this
  simp at this
/-- An exponent's text. -/
theorem itoa_is (E : Int) (h1 : -1000 ≤ E) (h2 : E ≤ 1000) : ∃ (eg : Bool) (es : List UInt8), Lib.itoa E = (if eg = true then [45] else []) ++ es ∧ (∀ b ∈ es, isD b) ∧ es ≠ [] ∧ es.length ≤ 6 ∧ (if eg = true then -(dval es : Int) else dval es) = E := by
  unfold Lib.itoa
  by_cases h : E < 0
  · rw [if_pos h]
    exact ⟨true, Lib.decDigits E.natAbs, rfl, isD_dec _, dec_ne _, dec_short (by omega), by rw [if_pos rfl, dval_dec]; omega⟩
  · rw [if_neg h]
    exact ⟨false, Lib.decDigits E.toNat, rfl, isD_dec _, dec_ne _, dec_short (by omega), by rw [if_neg (by decide), dval_dec]; omega⟩
end Go.Proofs.YtnlpkehllihllaaGreatDoor

/-
  Plain law: what Layout tells of digits is a number's text with those digits.
-/
namespace Go.Proofs.YtnlpkehllihllaaGreatDoor
open Go.RowKit

theorem lay_sct (ng : Bool) {D : Nat} {K : Int} (hD : D % 10 ≠ 0) (hb : D < 10 ^ 22) (k1 : -500 ≤ K) (k2 : K ≤ 500) :
    ∃ d1 pt d2 ex' eg es z1 z2, ScT ⟨((if ng = true then [45] else []) ++ layT D K).toArray⟩ ng d1 pt d2 ex' eg es (textL D) z1 z2 K := by
  have hD0 : D ≠ 0 := fun q => hD (by rw [q])
  obtain ⟨h1, h2⟩ := text_22 hD0 hb
  have hdig := isD_text D
  have hne : textL D ≠ [] := fun q => by rw [q] at h1; simp at h1
  have hhd : (textL D)[0]? ≠ some 48 := by
    obtain ⟨b, t, ht, hb2⟩ := text_head hD0
    rw [ht]
    simp
    exact hb2
  have hla := rev_last hD rfl
  have h0 : ∀ n, ∀ b ∈ List.replicate n (48 : UInt8), isD b := fun n b hb => by rw [(List.mem_replicate.1 hb).2]; exact ⟨by decide, by decide⟩
  have hno : ∀ b ∈ ([] : List UInt8), isD b := fun b hb => by simp at hb
  unfold layT
  by_cases c1 : 0 ≤ K ∧ (textL D).length + K ≤ 21
  · rw [if_pos c1]
    refine ⟨textL D ++ List.replicate K.toNat 48, false, [], false, false, [], 0, K.toNat, sct_mk (by simp) ?_ hno hno (by simp [hne]) (by decide) (fun _ => rfl) (by decide) (fun _ => ⟨rfl, rfl⟩) (by simp) ?_ (by simp) hne hhd hla (by omega) (by omega) (by simp [dval]) (by simp [dval]; omega)⟩
    · intro b hb2
      rcases List.mem_append.1 hb2 with q | q
      · exact hdig b q
      · exact h0 _ b q
    · rw [List.length_append, List.length_replicate]; omega
  · rw [if_neg c1]
    by_cases c2 : 0 < (textL D).length + K ∧ (textL D).length + K ≤ 21
    · rw [if_pos c2]
      obtain ⟨P, hP⟩ : ∃ P, P = ((textL D).length + K).toNat := ⟨_, rfl⟩
      rw [← hP]
      have hP1 : 0 < P ∧ P < (textL D).length := by omega
      refine ⟨(textL D).take P, true, (textL D).drop P, false, false, [], 0, 0, sct_mk (by simp) (fun b hb2 => hdig b (List.mem_of_mem_take hb2)) (fun b hb2 => hdig b (List.mem_of_mem_drop hb2)) hno ?_ (fun _ => ?_) (fun q => absurd q (by decide)) (by decide) (fun _ => ⟨rfl, rfl⟩) (by simp) ?_ (by simp) hne hhd hla (by omega) (by omega) ?_ ?_⟩
      · intro q
        have := congrArg List.length q
        rw [List.length_take, List.length_nil] at this
        omega
      · intro q
        have := congrArg List.length q
        rw [List.length_drop, List.length_nil] at this
        omega
      · simp; omega
      · simp [dval]; omega
      · simp [dval]; omega
    · rw [if_neg c2]
      by_cases c3 : -6 < (textL D).length + K ∧ (textL D).length + K ≤ 0
      · rw [if_pos c3]
        obtain ⟨m, hm⟩ : ∃ m, m = (-((textL D).length + K)).toNat := ⟨_, rfl⟩
        rw [← hm]
        refine ⟨[48], true, List.replicate m 48 ++ textL D, false, false, [], 1 + m, 0, sct_mk (by simp) (h0 1) ?_ hno (by simp) (fun _ => by simp [hne]) (fun q => absurd q (by decide)) (by decide) (fun _ => ⟨rfl, rfl⟩) (by simp) ?_ ?_ hne hhd hla (by omega) (by omega) ?_ ?_⟩
        · intro b hb2
          rcases List.mem_append.1 hb2 with q | q
          · exact h0 _ b q
          · exact hdig b q
        · simp; omega
        · rw [Nat.add_comm 1 m, List.replicate_succ]; simp
        · simp [dval]; omega
        · simp [dval]; omega
      · rw [if_neg c3]
        by_cases c4 : (textL D).length = 1
        · rw [if_pos c4]
          obtain ⟨eg, es, e1, e2, e3, e4, e5⟩ := itoa_is K (by omega) (by omega)
          refine ⟨textL D, false, [], true, eg, es, 0, 0, sct_mk (by rw [e1]; simp) hdig hno e2 hne (by decide) (fun _ => rfl) (fun _ => e3) (fun q => absurd q (by decide)) e4 ?_ (by simp) hne hhd hla (by omega) (by omega) (by rw [e5, List.length_nil]; omega) (by rw [e5, List.length_nil]; omega)⟩
          rw [e1]
          have : ((if eg = true then [45] else []) : List UInt8).length ≤ 1 := by cases eg <;> simp
          simp only [List.length_append, List.length_cons, List.length_nil]
          omega
        · rw [if_neg c4]
          obtain ⟨eg, es, e1, e2, e3, e4, e5⟩ := itoa_is ((textL D).length + K - 1) (by omega) (by omega)
          refine ⟨(textL D).take 1, true, (textL D).drop 1, true, eg, es, 0, 0, sct_mk (by rw [e1]; simp) (fun b hb2 => hdig b (List.mem_of_mem_take hb2)) (fun b hb2 => hdig b (List.mem_of_mem_drop hb2)) e2 ?_ (fun _ => ?_) (fun q => absurd q (by decide)) (fun _ => e3) (fun q => absurd q (by decide)) e4 ?_ (by rw [List.take_append_drop]; simp) hne hhd hla (by omega) (by omega) ?_ ?_⟩
          · intro q
            have := congrArg List.length q
            rw [List.length_take, List.length_nil] at this
            omega
          · intro q
            have := congrArg List.length q
            rw [List.length_drop, List.length_nil] at this
            omega
          · rw [e1]
            have : ((if eg = true then [45] else []) : List UInt8).length ≤ 1 := by cases eg <;> simp
            simp only [List.length_append, List.length_take, List.length_drop, List.length_cons, List.length_nil]
            omega
          · rw [e5, List.length_drop]; omega
          · rw [e5, List.length_drop]; omega
end Go.Proofs.YtnlpkehllihllaaGreatDoor

/-
  parse.Parse of the text of a pattern that is Finite is the pattern.
-/
namespace Go.Proofs.YtnlpkehllihllaaGreatDoor
open Go.RowKit Go.Sort

theorem parse_back (n p : Nat) (mode : Int) (D : Nat) (K : Int) (w : World) (h1 : 1 ≤ n) (h2 : n < 15) (hmode : mode = 1 ∨ mode = 2) (hp : p < 2 ^ (formAt n).width) (hc : clsI (formAt n) p (pKey (formAt n) p) = 2) (hS : ShortIs (pLo n p) (pHi n p) (pEv n p) (pX n p) D K) (hE : Env w) :
    Calls Tryz.prog 16 #[.int .i64 n, .int .i64 mode, S ((if pNeg (formAt n) p = true then [45] else []) ++ layT D K)] w fun r w' => r = .returned (.tuple #[U p, .int .i64 0, .int .i64 0]) ∧ Below w.heap.size w w' := by
  obtain ⟨q1, q2, q3, q4, q5, q6⟩ := short_in h1 h2 hp hc hS
  obtain ⟨d1, pt, d2, ex', eg, es, z1, z2, hs⟩ := lay_sct (pNeg (formAt n) p) q2 q3 q4 q5
  refine (parse_num n mode _ _ d1 pt d2 ex' eg es (textL D) z1 z2 K w h1 h2 hmode hs hE).mono ?_
  rintro r w' ⟨q, rfl, hq, hb⟩
  have a := hq.out
  rw [dval_text] at a
  rw [q6 mode q a]
  exact ⟨rfl, hb⟩
end Go.Proofs.YtnlpkehllihllaaGreatDoor
