/-
  A part of the proofs that calipertop.TopBack, TopFloats and TopNearest return true for every input and leave it as it was: part 28 of 47.
-/
import Derived.Test.YtnlpkehllihllaaGreatDoorGt26
import Derived.Test.YtnlpkehllihllaaGreatDoorGt20
import Derived.RegionTactic
/-
  The walk of short.finite.
-/
namespace Go.Proofs.YtnlpkehllihllaaGreatDoor
open Go.RowKit Go.Sort

/-- No cell is a word but a nought. -/
def noU0 (cs : Array Value) : Bool := cs.all fun v => match v with | .int .u64 k => k == 0 | _ => true
/-- A number that is not 0 keeps its words where a block is written to that holds no word but noughts. -/
theorem Num.off0 {w w' : World} {g : Nat} {v : Value} {x : Nat} {t : TypeId} {cs : Array Value} (h : Num w v x) (hx : x ≠ 0) (hk : Blk w g t cs) (hn : noU0 cs = true) (ho : Off g w w') : Num w' v x := by
  obtain ⟨A, c, e, h1, h2, h3⟩ := h
  refine ⟨A, c, e, h1, h2, ?_⟩
  rcases h3 with h3 | ⟨b, off, e, hb, hc⟩
  · exact .inl h3
  · by_cases hg : b = g
    · subst hg
      exfalso
      have hl := lw_pos hx
      have hw := last_word hx
      have h0 := hc (lw x - 1) (by rw [wds_length]; omega)
      rw [Blk.cell hk] at h0
      have h4 := Array.all_eq_true.1 hn (off + (lw x - 1)) (Array.getElem?_eq_some_iff.1 h0).1
      have h5 := (Array.getElem?_eq_some_iff.1 h0).2
      rw [h5] at h4
      simp at h4
      rw [List.getD_eq_getElem?_getD] at hw
      exact hw h4
    · exact .inr ⟨b, off, e, by rw [ho.size]; exact hb, fun j hj => (ho.cell (p := ⟨b, off + j, none⟩) hg).trans (hc j hj)⟩

/-- The size that a pattern means. -/
def pMan (n p : Nat) : Nat := oM (formAt n) 0 (pKey (formAt n) p)
def pExp (n p : Nat) : Int := oE (formAt n) 0 (pKey (formAt n) p)
/-- What is known of it. -/
structure PNum (n p : Nat) : Prop where
  lt : pMan n p < 18446744073709551616
  pos : pMan n p ≠ 0
  e1 : -1100 ≤ pExp n p
  e2 : pExp n p ≤ 1170
  is : ex (pMan n p) (pExp n p) 0 = pX n p
theorem pnum {n p : Nat} (h1 : 1 ≤ n) (h2 : n < 15) (hp : p < 2 ^ (formAt n).width) (hc : clsI (formAt n) p (pKey (formAt n) p) = 2) : PNum n p := by
  have hf := form_is h1 h2
  obtain ⟨q1, q2, q3, q4⟩ := cls_fin hf hp hc
  have hok := keyOk_at (f := formAt n) (Nat.le_trans q1 (mostN_le _)) q2
  exact ⟨oM_lt hf hok, oM_pos hf hok, (oE_bd hf hok).1, (oE_bd hf hok).2, o_ex hf hok⟩
theorem dec_is {n p : Nat} (hc : clsI (formAt n) p (pKey (formAt n) p) = 2) : decNeg (formAt n) p = pNeg (formAt n) p ∧ decM (formAt n) p = pMan n p ∧ decE (formAt n) p = pExp n p := by
  unfold decNeg decM decE pMan pExp
  rw [hc]
  exact ⟨if_neg (by decide), if_pos rfl, if_pos rfl⟩

set_option maxHeartbeats 3200000 in
set_option maxRecDepth 100000 in
/-- short.finite of what is Finite. -/
theorem finite_any (n p : Nat) (w : World) (h1 : 1 ≤ n) (h2 : n < 15) (hp : p < 2 ^ (formAt n).width) (hc : clsI (formAt n) p (pKey (formAt n) p) = 2) (hE : Env w) :
    Calls Tryz.prog 43 #[.int .i64 n, U p] w fun r w' => ∃ A c, r = .returned (.tuple #[.agg #[.int .i64 2, .bool (pNeg (formAt n) p), U (pMan n p), .int .i64 (pExp n p)], .agg #[.bool false, .slice A (lw (pMan n p)) c, .int .i64 (pExp n p), .int .i64 0], .int .i64 0]) ∧ Num w' (.slice A (lw (pMan n p)) c) (pMan n p) ∧ Below w.heap.size w w' := by
  have hpn := pnum h1 h2 hp hc
  obtain ⟨d1, d2, d3⟩ := dec_is hc
  obtain ⟨wz, hwz, hz0, hz1, hzb⟩ := two_blks w 91 25 #[.int .i64 0, .bool false, .int .u64 0, .int .i64 0] #[.bool false, .slice none 0 0, .int .i64 0, .int .i64 0]
  have De := Lib.hid (decode_any n p wz h1 h2 hp (hE.below hzb))
  rw [hc, d1, d2, d3] at De
  have b1 := hpn.lt
  have b2 := hpn.e1
  have hm0 := hpn.pos
  have b3 := hpn.e2
  obtain ⟨M, hM⟩ : ∃ M, M = pMan n p := ⟨_, rfl⟩
  obtain ⟨E, hEE⟩ : ∃ E, E = pExp n p := ⟨_, rfl⟩
  obtain ⟨ng, hng⟩ : ∃ ng, ng = pNeg (formAt n) p := ⟨_, rfl⟩
  rw [← hM, ← hEE, ← hng] at De
  rw [← hM] at b1 hm0
  have HM0 := Lib.hid hm0
  rw [← hEE] at b2 b3
  rw [← hM, ← hEE, ← hng]
  have Of := Lib.hid fun W => xof_fin false M E W b1 (by omega) (by omega)
  have HZ0 := Lib.hid hz0
  have HZ1 := Lib.hid hz1
  have HZB := Lib.hid hzb
  clear hm0 hM hEE hng hpn d1 d2 d3 hz0 hz1 hzb hE hc hp
  go_enter Tryz.func43, Tryz.ntmps43
  go_upto_region 1 with (fail)
  rw [← hwz]
  clear hwz
  go_wp2_with fail
  ((with_reducible refine (De.out).mono ?_); rintro r w1 ⟨rfl, g1⟩)
  have HZ01 := Lib.hid (Blk.below HZ0.out g1 HZ0.out.lt)
  have HZ11 := Lib.hid (Blk.below HZ1.out g1 HZ1.out.lt)
  obtain ⟨hka, b5⟩ := new4 w1 91 (.int .i64 2) (.bool ng) (U M) (.int .i64 E)
  obtain ⟨wa, hwa⟩ : ∃ wa, wa = w1.alloc (.cells #[.int .i64 2, .bool ng, U M, .int .i64 E] 91) := ⟨_, rfl⟩
  rw [← hwa] at hka b5
  have HZ02 := Lib.hid (Blk.below HZ01.out b5 HZ01.out.lt)
  have HZ12 := Lib.hid (Blk.below HZ11.out b5 HZ11.out.lt)
  have HKA := Lib.hid hka
  have HB1 := Lib.hid (HZB.out.trans ((g1.trans (b5.mono g1.size)).mono HZB.out.size))
  have hlt1 := HZ11.out.lt
  clear g1 b5 hka HZ0 HZ1 HZ01 HZ11 HZB De
  obtain ⟨k0, k1, k2, k3⟩ := rest4 HKA.out
  go_upto_region 2 with (fail)
  rw [← hwa]
  clear hwa
  go_wp2_with fail
  ((with_reducible refine (Of.out _).mono ?_); rintro r w2 ⟨v, rfl, n2, g2⟩)
  have HZ03 := Lib.hid (Blk.below HZ02.out g2 HZ02.out.lt)
  have HZ13 := Lib.hid (Blk.below HZ12.out g2 HZ12.out.lt)
  have HKA3 := Lib.hid (Blk.below HKA.out g2 HKA.out.lt)
  have n2c := n2
  obtain ⟨A, c, rfl, _, _, _⟩ := n2c
  obtain ⟨hkb, b6⟩ := new4 w2 25 (.bool false) (.slice A (lw M) c) (.int .i64 E) (.int .i64 0)
  obtain ⟨wb, hwb⟩ : ∃ wb, wb = w2.alloc (.cells #[.bool false, .slice A (lw M) c, .int .i64 E, .int .i64 0] 25) := ⟨_, rfl⟩
  rw [← hwb] at hkb b6
  have HZ04 := Lib.hid (Blk.below HZ03.out b6 HZ03.out.lt)
  have HZ14 := Lib.hid (Blk.below HZ13.out b6 HZ13.out.lt)
  have HKA4 := Lib.hid (Blk.below HKA3.out b6 HKA3.out.lt)
  have HKB := Lib.hid hkb
  have HN := Lib.hid (n2.below b6)
  have HB2 := Lib.hid (HB1.out.trans ((g2.trans (b6.mono g2.size)).mono HB1.out.size))
  have hlt2 := HKA3.out.lt
  clear g2 b6 hkb n2 HZ02 HZ12 HZ03 HZ13 HKA HKA3 HB1 k0 k1 k2 k3 Of
  obtain ⟨k0, k1, k2, k3⟩ := rest4 HKA4.out
  obtain ⟨j0, j1, j2, j3⟩ := rest4 HKB.out
  have q0 : ∀ o, wb.frozen? ⟨w.heap.size, o, none⟩ = false := fun o => Blk.frozen HZ04.out o
  have q1 : ∀ o, wb.frozen? ⟨w.heap.size + 1, o, none⟩ = false := fun o => Blk.frozen HZ14.out o
  obtain ⟨y0, y1, y2, y3⟩ := rest4 HZ04.out
  obtain ⟨z0, z1, z2, z3⟩ := rest4 HZ14.out
  go_upto_region 7 with (fail)
  rw [← hwb]
  clear hwb
  go_region
  obtain ⟨w5, hw5, hk5, hb5, ho5⟩ := stored4 HZ04.out (Nat.le_refl _) HB2.out (.int .i64 2) (.bool ng) (U M) (.int .i64 E)
  have hk15 : Blk w5 (w.heap.size + 1) 25 #[.bool false, .slice none 0 0, .int .i64 0, .int .i64 0] := (ho5.block (w.heap.size + 1) (by omega)).trans HZ14.out
  have hn5 := HN.out.off0 HM0.out HZ04.out (by simp [noU0]) ho5
  obtain ⟨w6, hw6, hk6, hb6, ho6⟩ := stored4 hk15 (Nat.le_succ _) hb5 (.bool false) (.slice A (lw M) c) (.int .i64 E) (.int .i64 0)
  have hk06 : Blk w6 w.heap.size 91 #[.int .i64 2, .bool ng, U M, .int .i64 E] := (ho6.block w.heap.size (by omega)).trans hk5
  have hn6 := hn5.off hk15 (by simp [noU]) ho6
  rw [hw5, hw6]
  have HF := Lib.hid (And.intro hn6 hb6)
  clear k0 k1 k2 k3 j0 j1 j2 j3 y0 y1 y2 y3 z0 z1 z2 z3 q0 q1 hw5 hw6 hn5 hn6 hb5 hb6 hk15 hk5 ho5 ho6
  obtain ⟨r0, r1, r2, r3⟩ := rest4 hk06
  obtain ⟨s0, s1, s2, s3⟩ := rest4 hk6
  go_wp2_with fail
  exact bodyPost_ret (v := .tuple #[.agg #[.int .i64 2, .bool ng, U M, .int .i64 E], .agg #[.bool false, .slice A (lw M) c, .int .i64 E, .int .i64 0], .int .i64 0]) (by simp [results, Tryz.results43, go_sem, r0, r1, r2, r3, s0, s1, s2, s3]) rfl
    ⟨A, c, rfl, HF.out.1.drew, HF.out.2.drew⟩
end Go.Proofs.YtnlpkehllihllaaGreatDoor
