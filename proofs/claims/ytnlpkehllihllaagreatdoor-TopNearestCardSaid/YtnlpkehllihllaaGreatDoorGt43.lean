/-
  A part of the proofs that calipertop.TopBack, TopFloats and TopNearest return true for every input and leave it as it was: part 43 of 47.
-/
import Derived.Test.YtnlpkehllihllaaGreatDoorGt16
import Derived.Test.YtnlpkehllihllaaGreatDoorGt42
/-
  The walk of value.At, for the forms of TopNearest.
-/
namespace Go.Proofs.YtnlpkehllihllaaGreatDoor
open Go.RowKit Go.Sort

/-- What At tells of a magnitude: an odd number and a power of two; noughts of 0. -/
def atM (n key : Nat) : Nat := if key = 0 then 0 else oM (formAt n) 0 key
def atE (n key : Nat) : Int := if key = 0 then 0 else oE (formAt n) 0 key
theorem at_kind {n : Nat} (h1 : 5 ≤ n) (h2 : n ≤ 10) : (formAt n).kind ≠ 4 ∧ (formAt n).kind ≠ 1 ∧ (formAt n).most ≤ 128 ∧ mostN (formAt n) false = (formAt n).top ∧ (formAt n).top ≤ 127 ∧ VV (formAt n) 0 = 0 := by
  obtain rfl | rfl | rfl | rfl | rfl | rfl : n = 5 ∨ n = 6 ∨ n = 7 ∨ n = 8 ∨ n = 9 ∨ n = 10 := by omega
  all_goals refine ⟨by decide, by decide, by decide, by decide, by decide, by decide +kernel⟩
theorem at_ex {n key : Nat} (h1 : 5 ≤ n) (h2 : n ≤ 10) (hk : key ≤ (formAt n).most) : ex (atM n key) (atE n key) 0 = VV (formAt n) key ∧ atM n key < 18446744073709551616 ∧ -1100 ≤ atE n key ∧ atE n key ≤ 1170 := by
  have hf := form_is (n := n) (by omega) (by omega)
  unfold atM atE
  by_cases h : key = 0
  · rw [if_pos h, if_pos h, ex_zero, h, (at_kind h1 h2).2.2.2.2.2]
    exact ⟨rfl, by decide, by decide, by decide⟩
  · rw [if_neg h, if_neg h]
    have hok := keyOk_at (f := formAt n) hk (.inl h)
    exact ⟨o_ex hf hok, oM_lt hf hok, (oE_bd hf hok).1, (oE_bd hf hok).2⟩

set_option maxHeartbeats 3200000 in
set_option maxRecDepth 100000 in
/-- value.At of a magnitude that there is. -/
theorem vat_any (n key : Nat) (w : World) (h1 : 5 ≤ n) (h2 : n ≤ 10) (hk : key ≤ (formAt n).most) (hE : Env w) :
    Calls Tryz.prog 9 #[.int .i64 n, U key] w fun r w' => r = .returned (.tuple #[U (atM n key), .int .i64 (atE n key), .int .i64 0]) ∧ Below w.heap.size w w' := by
  have hf := form_is (n := n) (by omega) (by omega)
  have hm := (most_lt hf).1
  have Vf := Lib.hid (vfits_any n key w (by omega) (by omega) hk hE)
  have hkd := (at_kind h1 h2).1
  have hk4 : ((formAt n).kind != 4) = true := by simpa using hkd
  have HE := Lib.hid hE
  by_cases h0 : key = 0
  · have t0 : ((key : Int) == 0) = true := by rw [h0]; rfl
    have ea : atM n key = 0 := if_pos h0
    have eb : atE n key = 0 := if_pos h0
    rw [ea, eb]
    clear ea eb hkd hk hm hf hE h0
    obtain ⟨f, hff⟩ : ∃ f, f = formAt n := ⟨_, rfl⟩
    rw [← hff] at Vf hk4
    clear hff
    obtain ⟨F, hF⟩ : ∃ F, F = numFn f.kind := ⟨_, rfl⟩
    rw [← hF] at Vf
    clear hF
    obtain ⟨a0, a1, a2, a3, a4, a5, a6⟩ := f
    simp only [Fm.sv] at Vf hk4
    go_enter Tryz.func9, Tryz.ntmps9
    go_wp2_with fail
    ((with_reducible refine (Vf.out).mono ?_); rintro r w1 ⟨rfl, g1⟩)
    have G1 := Lib.hid g1
    obtain ⟨wa, hwa, hka, B1, b2⟩ := alloc8 (w := w) a0 a1 a2 a3 a4 a5 a6 F w1 g1
    have B1 := Lib.hid B1
    obtain ⟨k0, k1, k2, k3, k4, k5, k6, k7⟩ := rest8 hka
    clear g1 b2 hka G1
    go_upto_region 2 with (fail)
    rw [← hwa]
    clear hwa
    go_wp2_with fail
    go_ret3
    exact ⟨rfl, B1.out⟩
  · have hok := keyOk_at (f := formAt n) hk (.inl h0)
    have Nm := Lib.hid fun (W : World) (hW : Env W) => num_any (formAt n) 0 key 0 W hf hok (by rfl) hW
    have hen := num_enter hf
    have t0 : ((key : Int) == 0) = false := by rw [beq_eq_false_iff_ne]; omega
    have ea : atM n key = oM (formAt n) 0 key := if_neg h0
    have eb : atE n key = oE (formAt n) 0 key := if_neg h0
    rw [ea, eb]
    clear ea eb hkd hk hm hE h0 hok
    obtain ⟨f, hff⟩ : ∃ f, f = formAt n := ⟨_, rfl⟩
    rw [← hff] at Vf Nm hen hf hk4 ⊢
    clear hff
    obtain ⟨F, hF⟩ : ∃ F, F = numFn f.kind := ⟨_, rfl⟩
    rw [← hF] at Vf Nm hen
    clear hF hf
    obtain ⟨M, hM⟩ : ∃ M, M = oM f 0 key := ⟨_, rfl⟩
    obtain ⟨E, hEE⟩ : ∃ E, E = oE f 0 key := ⟨_, rfl⟩
    rw [← hM, ← hEE] at Nm ⊢
    clear hM hEE
    obtain ⟨a0, a1, a2, a3, a4, a5, a6⟩ := f
    simp only [Fm.sv] at Vf hk4
    go_enter Tryz.func9, Tryz.ntmps9
    go_wp2_with fail
    ((with_reducible refine (Vf.out).mono ?_); rintro r w1 ⟨rfl, g1⟩)
    have G1 := Lib.hid g1
    obtain ⟨wa, hwa, hka, B1, b2⟩ := alloc8 (w := w) a0 a1 a2 a3 a4 a5 a6 F w1 g1
    have B1 := Lib.hid B1
    have E1 := Lib.hid (HE.out.below B1.out)
    obtain ⟨k0, k1, k2, k3, k4, k5, k6, k7⟩ := rest8 hka
    clear g1 b2 hka G1
    go_upto_region 2 with (fail)
    rw [← hwa]
    clear hwa
    go_wp2_with fail
    ((with_reducible refine (Nm.out _ E1.out).mono ?_); rintro r w3 ⟨rfl, g3⟩)
    go_wp2_with fail
    go_ret3
    exact ⟨rfl, B1.out.trans (g3.mono B1.out.size)⟩
end Go.Proofs.YtnlpkehllihllaaGreatDoor
