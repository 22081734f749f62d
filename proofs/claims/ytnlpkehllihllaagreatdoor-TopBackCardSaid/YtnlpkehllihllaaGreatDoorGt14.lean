/-
  A part of the proofs that calipertop.TopBack, TopFloats and TopNearest return true for every input and leave it as it was: part 14 of 47.
-/
import Derived.Test.YtnlpkehllihllaaGreatDoorGt12
/-
  The walks of value.shape's parts and class.
-/
namespace Go.Proofs.YtnlpkehllihllaaGreatDoor
open Go.RowKit Go.Sort

/-- A shape with some function. -/
abbrev Fm.sv (f : Fm) (F : Nat) : Value := .agg #[.int .i64 f.kind, .int .i64 f.width, .int .i64 f.man, .int .i64 f.bias, U f.top, U f.inf, U f.nan, .func (.func F) #[] #[]]
abbrev Fm.svc (f : Fm) (F : Nat) : Array Value := #[.int .i64 f.kind, .int .i64 f.width, .int .i64 f.man, .int .i64 f.bias, U f.top, U f.inf, U f.nan, .func (.func F) #[] #[]]
theorem s_sv {f : Fm} (h : FmIs f) : f.s = f.sv (numFn f.kind) := by
  have := kind_bd h
  unfold Fm.s Fm.sv numV
  rw [if_neg (by omega)]
/-- The sign and the magnitude of a pattern. -/
def pNeg (f : Fm) (p : Nat) : Bool := decide (f.kind ≠ 4 ∧ 2 ^ (f.width - 1) ≤ p)
def pKey (f : Fm) (p : Nat) : Nat := if pNeg f p = false then p else if f.kind = 2 then p - 2 ^ (f.width - 1) else 2 ^ f.width - p

theorem ret_bu {b : Bool} {x y : Nat} (h : x = y) : Ending.returned (.tuple #[.bool b, U x]) = .returned (.tuple #[.bool b, U y]) := by rw [h]
theorem width_bd {f : Fm} (h : FmIs f) : 4 ≤ f.width ∧ f.width ≤ 64 := by
  cases h <;> omega

set_option maxHeartbeats 1600000 in
set_option maxRecDepth 100000 in
/-- value.shape.parts. -/
theorem parts_any (f : Fm) (F p : Nat) (w : World) (hf : FmIs f) (hp : p < 2 ^ f.width) :
    Calls Tryz.prog 93 #[f.sv F, U p] w fun r w' => r = .returned (.tuple #[.bool (pNeg f p), U (pKey f p)]) ∧ Below w.heap.size w w' := by
  obtain ⟨wd1, wd2⟩ := width_bd hf
  have kb := kind_bd hf
  have Sg := Lib.hid fun W => sign_any f W (by omega) wd2
  have Mk := Lib.hid fun W => mask_any f W wd2
  have hs : f.sign = if f.kind = 4 then 0 else 2 ^ (f.width - 1) := rfl
  obtain ⟨n, hn⟩ : ∃ n, f.width = n + 1 := ⟨f.width - 1, by omega⟩
  have hpn : p < 2 ^ (n + 1) := by rw [← hn]; exact hp
  have hand := top_and hpn (by omega)
  have h64 : (2 : Nat) ^ 64 = 18446744073709551616 := rfl
  have hp64 : p < 18446744073709551616 := Nat.lt_of_lt_of_le hpn (Nat.pow_le_pow_right (n := 2) (by omega) (show n + 1 ≤ 64 by omega))
  have htw := turn_word (n := f.width) (Nat.le_of_lt hp) hp64 (by omega)
  have hnw : n < 64 := by omega
  have hN : pNeg f p = decide (f.kind ≠ 4 ∧ 2 ^ n ≤ p) := by unfold pNeg; rw [show f.width - 1 = n by omega]
  have hK : pKey f p = if pNeg f p = false then p else if f.kind = 2 then p - 2 ^ n else 2 ^ f.width - p := by unfold pKey; rw [show f.width - 1 = n by omega]
  have hb0 : Below w.heap.size w (w.alloc (.cells (f.svc F) 61)) := (Below.refl _ _).alloc (Nat.le_refl _) _
  have HB := Lib.hid hb0
  have HK := Lib.hid (Blk.new w 61 (f.svc F))
  rw [show f.width - 1 = n by omega] at hs
  obtain ⟨sg, hsg⟩ : ∃ sg, sg = f.sign := ⟨_, rfl⟩
  rw [← hsg] at Sg hs
  have HS := Lib.hid hs
  obtain ⟨ng, hng⟩ : ∃ ng, ng = pNeg f p := ⟨_, rfl⟩
  obtain ⟨ky, hky⟩ : ∃ ky, ky = pKey f p := ⟨_, rfl⟩
  rw [← hng, ← hky] at hK
  rw [← hng] at hN
  rw [← hng, ← hky]
  have HN := Lib.hid hN
  have HKY := Lib.hid hK
  clear hs hsg hng hky hN hK hb0 h64
  obtain ⟨a0, a1, a2, a3, a4, a5, a6⟩ := f
  simp only at hn HB HK HS HN HKY kb
  simp only at htw hp wd2
  clear hn
  show Calls Tryz.prog 93 #[.agg #[.int .i64 a0, .int .i64 a1, .int .i64 a2, .int .i64 a3, U a4, U a5, U a6, .func (.func F) #[] #[]], U p] w fun r w' => r = .returned (.tuple #[.bool ng, U ky]) ∧ Below w.heap.size w w'
  by_cases hc : a0 = 4 ∨ p < 2 ^ n
  · have hz : bits .and .u64 (p : Int) (sg : Int) = 0 := by
      rcases hc with rfl | q
      · have : sg = 0 := by rw [HS.out, if_pos rfl]
        rw [this, u64_and_nat _ _ hp64 (by omega)]; simp
      · by_cases h4 : a0 = 4
        · have : sg = 0 := by rw [HS.out, if_pos h4]
          rw [this, u64_and_nat _ _ hp64 (by omega)]; simp
        · have : sg = 2 ^ n := by rw [HS.out, if_neg h4]
          rw [this, hand, if_neg (by omega)]
    have hng : ng = false := by rw [HN.out, decide_eq_false]; rintro ⟨q1, q2⟩; rcases hc with q | q; exact q1 q; omega
    have hky : ky = p := by rw [HKY.out, if_pos hng]
    subst hng
    have HKY2 := Lib.hid hky
    clear hky hc hand htw hp hpn
    go_enter Tryz.func93, Tryz.ntmps93
    go_wp2_with fail
    ((with_reducible refine (Sg.out _).mono ?_); rintro r w1 ⟨rfl, g1⟩)
    go_wp2_with fail
    go_ret2
    exact ⟨ret_bu HKY2.out.symm, HB.out.trans (g1.mono HB.out.size)⟩
  · have h4 : a0 ≠ 4 := fun q => hc (.inl q)
    have hle : 2 ^ n ≤ p := by omega
    have hsg : sg = 2 ^ n := by rw [HS.out, if_neg h4]
    rw [if_pos hle] at hand
    have hoff := top_off hpn hnw hle
    have hng : ng = true := by rw [HN.out, decide_eq_true]; exact ⟨h4, hle⟩
    subst hng
    have hky : ky = if a0 = 2 then p - 2 ^ n else 2 ^ a1 - p := by rw [HKY.out, if_neg (by decide)]
    have hp0 : 0 < p := Nat.lt_of_lt_of_le (Nat.two_pow_pos n) hle
    rw [Nat.mod_eq_of_lt (show 2 ^ a1 - p < 2 ^ a1 by have := Nat.two_pow_pos a1; omega)] at htw
    rw [← hsg] at hand hoff hle
    have hs0 : sg ≠ 0 := by have := Nat.two_pow_pos n; omega
    have t1 : ((sg : Int) == 0) = false := by rw [beq_eq_false_iff_ne]; omega
    by_cases h2 : a0 = 2
    · have t2 : (a0 == 2) = true := by simpa using h2
      rw [if_pos h2, ← hsg] at hky
      have HKY2 := Lib.hid hky
      clear hc htw hp hpn hsg hky HS HN HKY h2 h4 hle
      obtain ⟨q, hq⟩ : ∃ q, q = p - sg := ⟨_, rfl⟩
      rw [← hq] at hoff HKY2
      clear hq
      go_enter Tryz.func93, Tryz.ntmps93
      go_wp2_with fail
      ((with_reducible refine (Sg.out _).mono ?_); rintro r w1 ⟨rfl, g1⟩)
      have hk1 : Blk w1 w.heap.size 61 _ := Blk.below HK.out g1 HK.out.lt
      have B1 := Lib.hid (HB.out.trans (g1.mono HB.out.size))
      have k0 : w1.cell? ⟨w.heap.size, 0, none⟩ = some (.int .i64 a0) := Blk.cell hk1 0
      have k1 : w1.cell? ⟨w.heap.size, 1, none⟩ = some (.int .i64 a1) := Blk.cell hk1 1
      have k2 : w1.cell? ⟨w.heap.size, 2, none⟩ = some (.int .i64 a2) := Blk.cell hk1 2
      have k3 : w1.cell? ⟨w.heap.size, 3, none⟩ = some (.int .i64 a3) := Blk.cell hk1 3
      have k4 : w1.cell? ⟨w.heap.size, 4, none⟩ = some (U a4) := Blk.cell hk1 4
      have k5 : w1.cell? ⟨w.heap.size, 5, none⟩ = some (U a5) := Blk.cell hk1 5
      have k6 : w1.cell? ⟨w.heap.size, 6, none⟩ = some (U a6) := Blk.cell hk1 6
      clear hk1 g1
      go_wp2_with fail
      ((with_reducible refine (Sg.out _).mono ?_); rintro r w2 ⟨rfl, g2⟩)
      go_wp2_with fail
      go_ret2
      exact ⟨ret_bu HKY2.out.symm, B1.out.trans (g2.mono B1.out.size)⟩
    · have t2 : (a0 == 2) = false := by simpa using h2
      rw [if_neg h2] at hky
      have HKY2 := Lib.hid hky
      clear hc hp hpn hsg hky HS HN HKY h2 h4 hle hoff
      obtain ⟨q, hq⟩ : ∃ q, q = 2 ^ a1 - p := ⟨_, rfl⟩
      rw [← hq] at htw HKY2
      obtain ⟨mk, hmk⟩ : ∃ mk, mk = 2 ^ a1 - 1 := ⟨_, rfl⟩
      simp only at Mk
      rw [← hmk] at htw Mk
      clear hq hmk
      go_enter Tryz.func93, Tryz.ntmps93
      go_wp2_with fail
      ((with_reducible refine (Sg.out _).mono ?_); rintro r w1 ⟨rfl, g1⟩)
      have hk1 : Blk w1 w.heap.size 61 _ := Blk.below HK.out g1 HK.out.lt
      have B1 := Lib.hid (HB.out.trans (g1.mono HB.out.size))
      have k0 : w1.cell? ⟨w.heap.size, 0, none⟩ = some (.int .i64 a0) := Blk.cell hk1 0
      have k1 : w1.cell? ⟨w.heap.size, 1, none⟩ = some (.int .i64 a1) := Blk.cell hk1 1
      have k2 : w1.cell? ⟨w.heap.size, 2, none⟩ = some (.int .i64 a2) := Blk.cell hk1 2
      have k3 : w1.cell? ⟨w.heap.size, 3, none⟩ = some (.int .i64 a3) := Blk.cell hk1 3
      have k4 : w1.cell? ⟨w.heap.size, 4, none⟩ = some (U a4) := Blk.cell hk1 4
      have k5 : w1.cell? ⟨w.heap.size, 5, none⟩ = some (U a5) := Blk.cell hk1 5
      have k6 : w1.cell? ⟨w.heap.size, 6, none⟩ = some (U a6) := Blk.cell hk1 6
      clear hk1 g1
      go_wp2_with fail
      ((with_reducible refine (Mk.out _).mono ?_); rintro r w2 ⟨rfl, g2⟩)
      go_wp2_with fail
      go_ret2
      exact ⟨ret_bu HKY2.out.symm, B1.out.trans (g2.mono B1.out.size)⟩
end Go.Proofs.YtnlpkehllihllaaGreatDoor

/-
  The walk of value.shape.class.
-/
namespace Go.Proofs.YtnlpkehllihllaaGreatDoor
open Go.RowKit Go.Sort

/-- What a pattern is, whose magnitude is told. -/
def clsI (f : Fm) (p key : Nat) : Int :=
  if f.kind = 2 ∧ key = f.inf ∧ f.inf ≠ 0 then 3 else if (f.kind = 2 ∧ f.top < key) ∨ (f.kind ≠ 2 ∧ f.nan ≠ 0 ∧ p = f.nan) then 4 else if key = 0 ∧ f.kind ≠ 4 then 1 else 2
theorem ret_i {x y : Int} (h : x = y) : Ending.returned (.int .i64 x) = .returned (.int .i64 y) := by rw [h]

set_option maxHeartbeats 1600000 in
set_option maxRecDepth 100000 in
/-- value.shape.class. -/
theorem class_any (f : Fm) (F p key : Nat) (w : World) :
    Calls Tryz.prog 94 #[f.sv F, U p, U key] w fun r w' => r = .returned (.int .i64 (clsI f p key)) ∧ Below w.heap.size w w' := by
  have HB := Lib.hid (show Below w.heap.size w (w.alloc (.cells (f.svc F) 61)) from (Below.refl _ _).alloc (Nat.le_refl _) _)
  have HC := Lib.hid (show clsI f p key = if f.kind = 2 ∧ key = f.inf ∧ f.inf ≠ 0 then 3 else if (f.kind = 2 ∧ f.top < key) ∨ (f.kind ≠ 2 ∧ f.nan ≠ 0 ∧ p = f.nan) then 4 else if key = 0 ∧ f.kind ≠ 4 then 1 else 2 from rfl)
  obtain ⟨c, hc⟩ : ∃ c, c = clsI f p key := ⟨_, rfl⟩
  rw [← hc] at HC ⊢
  clear hc
  obtain ⟨a0, a1, a2, a3, a4, a5, a6⟩ := f
  simp only at HC HB
  show Calls Tryz.prog 94 #[.agg #[.int .i64 a0, .int .i64 a1, .int .i64 a2, .int .i64 a3, U a4, U a5, U a6, .func (.func F) #[] #[]], U p, U key] w fun r w' => r = .returned (.int .i64 c) ∧ Below w.heap.size w w'
  have fin : ∀ x : Int, x = c → Ending.returned (.int .i64 x) = .returned (.int .i64 c) := fun _ h => ret_i h
  by_cases h2 : a0 = 2
  · have t2 : (a0 == 2) = true := by simpa using h2
    have t2' : (a0 != 2) = false := by simpa using h2
    have t4' : (a0 != 4) = true := by simp [h2]
    have H2 := Lib.hid h2
    by_cases hi : key = a5 ∧ a5 ≠ 0
    · have u1 : ((key : Int) == (a5 : Int)) = true := by simp [hi.1]
      have u2 : ((a5 : Int) != 0) = true := by simpa using hi.2
      have E := Lib.hid (show 3 = c by rw [HC.out, if_pos ⟨h2, hi⟩])
      clear hi h2
      go_enter Tryz.func94, Tryz.ntmps94
      go_wp2_with fail
      go_ret
      exact ⟨fin _ E.out, HB.out⟩
    · have hcs : ((key : Int) == (a5 : Int)) = false ∨ (((key : Int) == (a5 : Int)) = true ∧ ((a5 : Int) != 0) = false) := by
        by_cases q : key = a5
        · right
          refine ⟨by simp [q], ?_⟩
          have : a5 = 0 := Classical.byContradiction fun r => hi ⟨q, r⟩
          simp [this]
        · left; simp; omega
      by_cases ht : a4 < key
      · have u3 : decide ((a4 : Int) < (key : Int)) = true := by simpa using ht
        have u3' : decide (a4 < key) = true := by simpa using ht
        have E := Lib.hid (show 4 = c by rw [HC.out, if_neg (fun q => hi q.2), if_pos (.inl ⟨h2, ht⟩)])
        clear hi h2 ht
        rcases hcs with u1 | ⟨u1, u2⟩
        all_goals
          go_enter Tryz.func94, Tryz.ntmps94
          go_wp2_with fail
          go_ret
          exact ⟨fin _ E.out, HB.out⟩
      · have u3 : decide ((a4 : Int) < (key : Int)) = false := by simpa using ht
        have u3' : decide (a4 < key) = false := by simpa using ht
        have hn : ¬ ((a0 = 2 ∧ a4 < key) ∨ (a0 ≠ 2 ∧ a6 ≠ 0 ∧ p = a6)) := by omega
        have hE := HC.out
        rw [if_neg (fun q => hi q.2), if_neg hn] at hE
        by_cases hk : key = 0
        · have u4 : ((key : Int) == 0) = true := by simp [hk]
          have E := Lib.hid (show 1 = c by rw [hE, if_pos ⟨hk, by omega⟩])
          clear hi h2 ht hE hk hn
          rcases hcs with u1 | ⟨u1, u2⟩
          all_goals
            go_enter Tryz.func94, Tryz.ntmps94
            go_wp2_with fail
            go_ret
            exact ⟨fin _ E.out, HB.out⟩
        · have u4 : ((key : Int) == 0) = false := by simp; omega
          have E := Lib.hid (show 2 = c by rw [hE, if_neg (fun q => hk q.1)])
          clear hi h2 ht hE hk hn
          rcases hcs with u1 | ⟨u1, u2⟩
          all_goals
            go_enter Tryz.func94, Tryz.ntmps94
            go_wp2_with fail
            go_ret
            exact ⟨fin _ E.out, HB.out⟩
  · have t2 : (a0 == 2) = false := by simpa using h2
    have t2' : (a0 != 2) = true := by simpa using h2
    by_cases hi : a6 ≠ 0 ∧ p = a6
    · have u1 : ((p : Int) == (a6 : Int)) = true := by simp [hi.2]
      have u2 : ((a6 : Int) != 0) = true := by simpa using hi.1
      have E := Lib.hid (show 4 = c by rw [HC.out, if_neg (fun q => h2 q.1), if_pos (.inr ⟨h2, hi⟩)])
      clear hi h2
      go_enter Tryz.func94, Tryz.ntmps94
      go_wp2_with fail
      go_ret
      exact ⟨fin _ E.out, HB.out⟩
    · have hcs : ((a6 : Int) != 0) = false ∨ (((a6 : Int) != 0) = true ∧ ((p : Int) == (a6 : Int)) = false) := by
        by_cases q : a6 = 0
        · left; simp [q]
        · right
          refine ⟨by simpa using q, ?_⟩
          rw [beq_eq_false_iff_ne]
          intro r
          exact hi ⟨q, by omega⟩
      have hn : ¬ ((a0 = 2 ∧ a4 < key) ∨ (a0 ≠ 2 ∧ a6 ≠ 0 ∧ p = a6)) := by
        rintro (q | q)
        · exact h2 q.1
        · exact hi q.2
      have hE := HC.out
      rw [if_neg (fun q => h2 q.1), if_neg hn] at hE
      by_cases hk : key = 0
      · have u4 : ((key : Int) == 0) = true := by simp [hk]
        by_cases h4 : a0 = 4
        · have t4 : (a0 != 4) = false := by simpa using h4
          have E := Lib.hid (show 2 = c by rw [hE, if_neg (fun q => q.2 h4)])
          clear hi h2 hE hk hn h4
          rcases hcs with u1 | ⟨u1, u2⟩
          all_goals
            go_enter Tryz.func94, Tryz.ntmps94
            go_wp2_with fail
            go_ret
            exact ⟨fin _ E.out, HB.out⟩
        · have t4 : (a0 != 4) = true := by simpa using h4
          have E := Lib.hid (show 1 = c by rw [hE, if_pos ⟨hk, h4⟩])
          clear hi h2 hE hk hn h4
          rcases hcs with u1 | ⟨u1, u2⟩
          all_goals
            go_enter Tryz.func94, Tryz.ntmps94
            go_wp2_with fail
            go_ret
            exact ⟨fin _ E.out, HB.out⟩
      · have u4 : ((key : Int) == 0) = false := by simp; omega
        have E := Lib.hid (show 2 = c by rw [hE, if_neg (fun q => hk q.1)])
        clear hi h2 hE hk hn
        rcases hcs with u1 | ⟨u1, u2⟩
        all_goals
          go_enter Tryz.func94, Tryz.ntmps94
          go_wp2_with fail
          go_ret
          exact ⟨fin _ E.out, HB.out⟩
end Go.Proofs.YtnlpkehllihllaaGreatDoor
