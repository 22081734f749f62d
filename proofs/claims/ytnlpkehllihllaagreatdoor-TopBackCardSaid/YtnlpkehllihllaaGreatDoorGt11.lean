/-
  A part of the proofs that calipertop.TopBack, TopFloats and TopNearest return true for every input and leave it as it was: part 11 of 47.
-/
import Derived.Shelf.Spec.TrailingZeros
import Derived.Test.YtnlpkehllihllaaGreatDoorProg
import Derived.Test.YtnlpkehllihllaaGreatDoorGt10
import Derived.BigQuiet
import Derived.DataShut
import Derived.Test.YtnlpkehllihllaaGreatDoorGt06
import Derived.Deep.DeepCutAuto
/-
  DERIVED: THE SHELF's CONTRACTS AT THIS DUMP, IN PLAIN WORDS (tools/lay-plain.mjs out of 'YtnlpkehllihllaaGreatDoorTzs.lean', which tools/lay-shelf.mjs wrote): THE SAME DECLARATIONS UNDER THE SAME NAMES: 'import', 'namespace', 'open', 'def', 'theorem' AND NOTHING ELSE: no command of the shelf's: FOR A HAND-IN. Each laying: the table of numbers ('.._ren') and one theorem, a field a fact of the dump's own or the kernel's comparison; each contract: ONE APPLICATION.
-/
namespace Go.Proofs
open Go.Shelf
def Tryz.lays729_ren : Go.Shelf.Ren := ⟨fun | 29 => 141 | n => n, fun | 22 => 26 | 3 => 3 | 4 => 4 | 25 => 58 | 54 => 205 | 0 => 0 | 5 => 5 | n => n, fun | 1 => 9 | n => n⟩
theorem Tryz.lays729 : Go.Proofs.Lays7.n29 Tryz.prog Tryz.lays729_ren := {
  mixed := by kernel_rfl
  f29 := Tryz.func141.trans (congrArg some (by kernel_rfl))
  t0 := Tryz.underlying0
  a0 := Tryz.isAgg0
  z0 := Tryz.sizeOf0
  v0 := Tryz.zeroValue0
  i0 := by kernel_rfl
  t3 := Tryz.underlying3
  a3 := Tryz.isAgg3
  z3 := Tryz.sizeOf3
  v3 := Tryz.zeroValue3
  i3 := by kernel_rfl
  t4 := Tryz.underlying4
  a4 := Tryz.isAgg4
  z4 := Tryz.sizeOf4
  v4 := Tryz.zeroValue4
  i4 := by kernel_rfl
  t5 := Tryz.underlying5
  a5 := Tryz.isAgg5
  z5 := Tryz.sizeOf5
  v5 := Tryz.zeroValue5
  i5 := by kernel_rfl
  t22 := Tryz.underlying26
  a22 := Tryz.isAgg26
  z22 := Tryz.sizeOf26
  v22 := Tryz.zeroValue26
  i22 := by kernel_rfl
  t25 := Tryz.underlying58
  a25 := Tryz.isAgg58
  z25 := Tryz.sizeOf58
  v25 := Tryz.zeroValue58
  i25 := by kernel_rfl
  t54 := Tryz.underlying205
  a54 := Tryz.isAgg205
  z54 := Tryz.sizeOf205
  g1 := by kernel_rfl }
end Go.Proofs

/-
  The walks of mini.fits, mini.Split, mini.Value.
-/
namespace Go.Proofs.YtnlpkehllihllaaGreatDoor
open Go.RowKit Go.Sort

/-- The table of math/bits.TrailingZeros64 is laid. -/
def BTab (w : World) : Prop := TabAt 9 Lib.deBruijn64tab w
/-- How many noughts are at the end of a word. -/
def tz (x : Nat) : Nat := Lib.ctz 64 x
theorem tz_any (x : Nat) (w : World) (hx : x < 18446744073709551616) (hT : BTab w) : Calls Tryz.prog 141 #[.int .u64 x] w fun e w' => e = .returned (.int .i64 (tz x)) ∧ w = w' :=
  (Any7.bits_TrailingZeros64 Tryz.lays729 x hx w fun _ => hT).mono fun _ _ h => ⟨h.1, h.2.symm⟩
theorem tz_spec {x : Nat} (h0 : x ≠ 0) (hx : x < 18446744073709551616) : ∃ m, x = 2 ^ tz x * (2 * m + 1) ∧ tz x < 64 := by
  obtain ⟨m, h1, h2⟩ := Lib.ctzFrom_spec 64 x (by omega) hx
  refine ⟨m, ?_⟩
  unfold tz Lib.ctz
  rw [if_neg h0]
  exact ⟨h1, h2⟩
theorem tz_le (x : Nat) (hx : x < 18446744073709551616) : tz x ≤ 64 := by
  rcases Nat.eq_zero_or_pos x with rfl | h
  · exact Nat.le_refl _
  · obtain ⟨_, _, h⟩ := tz_spec (by omega) hx; omega

theorem mfits_any (m b : Int) (w : World) (h1 : 0 ≤ m) (h2 : m ≤ 60) (h3 : -2000 ≤ b) (h4 : b ≤ 2000) : Calls Tryz.prog 190 #[.int .i64 m, .int .i64 b] w fun e w' => e = .returned (.bool true) ∧ w = w' := by
  go_enter Tryz.func190, Tryz.ntmps190
  go_wp2_with fail
  go_ret
  exact ⟨rfl, rfl⟩

set_option maxHeartbeats 1600000 in
set_option maxRecDepth 100000 in
/-- mini.Split. -/
theorem msplit_any (m key : Nat) (w : World) (h1 : m ≤ 60) (h2 : key < 18446744073709551616) (h3 : key / 2 ^ m ≤ 4095) :
    Calls Tryz.prog 189 #[.int .i64 m, .int .u64 key] w fun e w' => e = .returned (.tuple #[U (key / 2 ^ m), U (key % 2 ^ m), .int .i64 0]) ∧ ∃ n, w' = w.drewN n := by
  have Ft := Lib.hid fun W => mfits_any m 0 W (by omega) (by omega) (by omega) (by omega)
  have e2 := mask_word (n := m) (by omega)
  have hM := mask_lt (n := m) (by omega)
  have hand := u64_and_nat key (2 ^ m - 1) h2 hM
  rw [Nat.and_two_pow_sub_one_eq_mod] at hand
  have e1 : (key : Int) / 2 ^ m = ((key / 2 ^ m : Nat) : Int) := by simp
  obtain ⟨M, hMM⟩ : ∃ M, M = 2 ^ m - 1 := ⟨_, rfl⟩
  obtain ⟨R, hR⟩ : ∃ R, R = key % 2 ^ m := ⟨_, rfl⟩
  obtain ⟨F, hF⟩ : ∃ F, F = key / 2 ^ m := ⟨_, rfl⟩
  rw [← hMM] at e2 hand
  rw [← hR] at hand ⊢
  rw [← hF] at e1 h3 ⊢
  clear hMM hR hF hM
  go_enter Tryz.func189, Tryz.ntmps189
  go_wp2_with (go_at_call 190; refine (Ft.out _).mono ?_; rintro r w' ⟨rfl, rfl⟩)
  go_quiet (fail)
  go_wp2_with fail
  go_ret3
  exact ⟨rfl, _, rfl⟩

/-- A magnitude's number, not yet odd: the significand, and the power of two. -/
def mmS (m key : Nat) : Nat := (if key / 2 ^ m = 0 then 0 else 2 ^ m) + key % 2 ^ m
def meS (m : Nat) (b : Int) (key : Nat) : Int := max ((key / 2 ^ m : Nat) : Int) 1 - b - (m : Int)

theorem wrap_two {m : Nat} (h : m < 64) : IntKind.u64.wrap ((2 : Int) ^ m) = ((2 ^ m : Nat) : Int) := by
  have h1 : (2 : Nat) ^ m < 2 ^ 64 := Nat.pow_lt_pow_right (by omega) h
  have e : ((2 : Int) ^ m) = ((2 ^ m : Nat) : Int) := by simp
  rw [e, IntKind.wrap_u64]
  generalize 2 ^ m = x at *
  omega
theorem ret_three {a b : Value} {x y : Int} (h : x = y) : Ending.returned (.tuple #[a, .int .i64 x, b]) = .returned (.tuple #[a, .int .i64 y, b]) := by rw [h]
theorem mmS_lt {m key : Nat} (h1 : m ≤ 60) : mmS m key < 18446744073709551616 := by
  have h2 : (2 : Nat) ^ m ≤ 2 ^ 60 := Nat.pow_le_pow_right (by omega) h1
  have h3 : (2 : Nat) ^ 60 = 1152921504606846976 := rfl
  have h4 := Nat.mod_lt key (Nat.two_pow_pos m)
  unfold mmS
  split <;> omega

set_option maxHeartbeats 3200000 in
set_option maxRecDepth 100000 in
/-- mini.Value of a magnitude that is not 0. -/
theorem mval_any (m : Nat) (b : Int) (key : Nat) (w : World) (h1 : m ≤ 60) (h2 : key < 18446744073709551616) (h3 : key / 2 ^ m ≤ 4095) (b1 : -2000 ≤ b) (b2 : b ≤ 2000) (h0 : key ≠ 0) (hT : BTab w) :
    Calls Tryz.prog 183 #[.int .i64 m, .int .i64 b, .int .u64 key] w fun e w' => e = .returned (.tuple #[U (mmS m key / 2 ^ tz (mmS m key)), .int .i64 (meS m b key + tz (mmS m key)), .int .i64 0]) ∧ ∃ n, w' = w.drewN n := by
  have Sp := Lib.hid fun W => msplit_any m key W h1 h2 h3
  have Ft := Lib.hid fun W => mfits_any m b W (by omega) (by omega) b1 b2
  have hx := mmS_lt (m := m) (key := key) h1
  have Tz := Lib.hid fun W (hT : BTab W) => tz_any (mmS m key) W hx hT
  have hme : meS m b key = max ((key / 2 ^ m : Nat) : Int) 1 - b - m := rfl
  have hmm : mmS m key = (if key / 2 ^ m = 0 then 0 else 2 ^ m) + key % 2 ^ m := rfl
  have hR := Nat.mod_lt key (Nat.two_pow_pos m)
  have hon := top_on hR (by omega)
  have hw := wrap_two (m := m) (by omega)
  have htl := tz_le _ hx
  have t0 : ((key : Int) == 0) = false := by rw [beq_eq_false_iff_ne]; omega
  obtain ⟨X, hX⟩ : ∃ X, X = mmS m key := ⟨_, rfl⟩
  obtain ⟨E, hE⟩ : ∃ E, E = meS m b key := ⟨_, rfl⟩
  rw [← hX] at Tz hmm hx htl ⊢
  rw [← hE] at hme ⊢
  obtain ⟨F, hF⟩ : ∃ F, F = key / 2 ^ m := ⟨_, rfl⟩
  obtain ⟨R, hRR⟩ : ∃ R, R = key % 2 ^ m := ⟨_, rfl⟩
  obtain ⟨T, hTT⟩ : ∃ T, T = tz X := ⟨_, rfl⟩
  rw [← hF] at Sp hme hmm h3
  rw [← hRR] at Sp hmm hon hR
  rw [← hTT] at Tz htl ⊢
  have e1 : (X : Int) / 2 ^ T = ((X / 2 ^ T : Nat) : Int) := by simp
  obtain ⟨Y, hY⟩ : ∃ Y, Y = X / 2 ^ T := ⟨_, rfl⟩
  rw [← hY] at e1 ⊢
  obtain ⟨P, hP⟩ : ∃ P, P = 2 ^ m := ⟨_, rfl⟩
  rw [← hP] at hmm hon hw hR
  have HT := Lib.hid hT
  have Hme := Lib.hid hme
  clear hX hE hF hRR hTT hY hme hT hP h0
  by_cases hF0 : F = 0
  · have e3 : X = R := by rw [hmm, if_pos hF0, Nat.zero_add]
    have t1 : decide (0 < (F : Int)) = false := by simp; omega
    have t2 : decide (0 < F) = false := by simp; omega
    have em : max (F : Int) 1 = 1 := by omega
    have HE := Lib.hid (show E = 1 - b - m by rw [Hme.out, em])
    clear hmm hon hw hF0
    rw [← e3] at Sp
    clear e3 hR Hme
    go_enter Tryz.func183, Tryz.ntmps183
    go_wp2_with fail
    refine (Sp.out _).mono ?_
    rintro r w1 ⟨rfl, n1, rfl⟩
    go_wp2_with (go_at_call 190; refine (Ft.out _).mono ?_; rintro r w' ⟨rfl, rfl⟩)
    ((with_reducible refine (Tz.out (w.drewN n1) ?_).mono ?_); exact HT.out)
    rintro r w2 ⟨rfl, rfl⟩
    go_wp2_with fail
    go_ret3
    exact ⟨ret_three (by rw [HE.out]), _, rfl⟩
  · have e3 : X = R + P := by rw [hmm, if_neg hF0, Nat.add_comm]
    have t1 : decide (0 < (F : Int)) = true := by simp; omega
    have t2 : decide (0 < F) = true := by simp; omega
    have em : max (F : Int) 1 = F := by omega
    have HE := Lib.hid (show E = F - b - m by rw [Hme.out, em])
    rw [← e3] at hon
    clear hmm hF0 e3 hR Hme
    go_enter Tryz.func183, Tryz.ntmps183
    go_wp2_with fail
    refine (Sp.out _).mono ?_
    rintro r w1 ⟨rfl, n1, rfl⟩
    go_wp2_with (go_at_call 190; refine (Ft.out _).mono ?_; rintro r w' ⟨rfl, rfl⟩)
    ((with_reducible refine (Tz.out (w.drewN n1) ?_).mono ?_); exact HT.out)
    rintro r w2 ⟨rfl, rfl⟩
    go_wp2_with fail
    go_ret3
    exact ⟨ret_three (by rw [HE.out]), _, rfl⟩

set_option maxHeartbeats 1600000 in
set_option maxRecDepth 100000 in
/-- mini.Value of 0. -/
theorem mval_zero (m : Nat) (b : Int) (w : World) (h1 : m ≤ 60) (b1 : -2000 ≤ b) (b2 : b ≤ 2000) :
    Calls Tryz.prog 183 #[.int .i64 m, .int .i64 b, .int .u64 0] w fun e w' => e = .returned (.tuple #[U 0, .int .i64 0, .int .i64 0]) ∧ ∃ n, w' = w.drewN n := by
  have hs := fun W => msplit_any m 0 W h1 (by omega) (by rw [Nat.zero_div]; omega)
  rw [Nat.zero_div, Nat.zero_mod] at hs
  have Sp := Lib.hid hs
  have Ft := Lib.hid fun W => mfits_any m b W (by omega) (by omega) b1 b2
  clear hs
  go_enter Tryz.func183, Tryz.ntmps183
  go_wp2_with fail
  refine (Sp.out _).mono ?_
  rintro r w1 ⟨rfl, n1, rfl⟩
  go_wp2_with (go_at_call 190; refine (Ft.out _).mono ?_; rintro r w' ⟨rfl, rfl⟩)
  go_ret3
  exact ⟨rfl, _, rfl⟩
end Go.Proofs.YtnlpkehllihllaaGreatDoor

/-
  The walks of posit.must, wide; the plain laws of posit.split's words.
-/
namespace Go.Proofs.YtnlpkehllihllaaGreatDoor
open Go.RowKit Go.Sort

theorem must_ok (c : Int) (w : World) : Calls Tryz.prog 194 #[.bool true, .int .i64 c] w fun e w' => e = .returned (.tuple #[]) ∧ w = w' := by
  go_enter Tryz.func194, Tryz.ntmps194
  go_wp2_with fail
  go_end0
  exact ⟨rfl, rfl⟩
theorem low_shift {key k : Nat} (h : key < 2 ^ k * 2) : ((key : Int) / 2 ^ k / 2 == 0) = true := by
  have e : (key : Int) / 2 ^ k / 2 = ((key / 2 ^ k / 2 : Nat) : Int) := by simp
  have h1 : key / 2 ^ k < 2 := by rw [Nat.div_lt_iff_lt_mul (Nat.two_pow_pos k), Nat.mul_comm]; exact h
  rw [e]
  generalize key / 2 ^ k = z at *
  rw [show z / 2 = 0 by omega]; rfl
theorem blen_shl {x s : Nat} (h : x ≠ 0) : blen (x * 2 ^ s) = blen x + s := by
  have h1 := blen_lt x
  have h2 := blen_ge h
  obtain ⟨m, hm⟩ : ∃ m, blen x = m + 1 := ⟨blen x - 1, by rw [blen_pos h]; omega⟩
  rw [hm] at h1 h2 ⊢
  rw [show m + 1 - 1 = m by omega] at h2
  rw [show m + 1 + s = (m + s) + 1 by omega]
  refine blen_eq ?_ ?_
  · rw [Nat.pow_add]; exact Nat.mul_le_mul_right _ h2
  · rw [show m + s + 1 = (m + 1) + s by omega, Nat.pow_add]; exact Nat.mul_lt_mul_of_pos_right h1 (Nat.two_pow_pos s)
/-- The key's bits at the word's head. -/
theorem head_word {key k : Nat} (h : key < 2 ^ (k + 1)) (hk : k ≤ 63) : IntKind.u64.wrap ((key : Int) * 2 ^ (63 - k)) = ((key * 2 ^ (63 - k) : Nat) : Int) ∧ key * 2 ^ (63 - k) < 18446744073709551616 := by
  have h1 : key * 2 ^ (63 - k) < 2 ^ (k + 1) * 2 ^ (63 - k) := Nat.mul_lt_mul_of_pos_right h (Nat.two_pow_pos _)
  rw [← Nat.pow_add, show k + 1 + (63 - k) = 64 by omega] at h1
  have h64 : (2 : Nat) ^ 64 = 18446744073709551616 := rfl
  have e : (key : Int) * 2 ^ (63 - k) = ((key * 2 ^ (63 - k) : Nat) : Int) := by simp
  rw [e, IntKind.wrap_u64]
  generalize key * 2 ^ (63 - k) = z at *
  omega
/-- The other bits. -/
theorem not_word {key k : Nat} (h : key < 2 ^ (k + 1)) (hk : k ≤ 63) : 18446744073709551615 - key * 2 ^ (63 - k) = (2 ^ (k + 1) - 1 - key) * 2 ^ (63 - k) + (2 ^ (63 - k) - 1) := by
  have h2 : 2 ^ (k + 1) * 2 ^ (63 - k) = 18446744073709551616 := by rw [← Nat.pow_add, show k + 1 + (63 - k) = 64 by omega]
  have h3 := Nat.two_pow_pos (63 - k)
  have h4 : (2 ^ (k + 1) - 1 - key) * 2 ^ (63 - k) + key * 2 ^ (63 - k) + 2 ^ (63 - k) = 2 ^ (k + 1) * 2 ^ (63 - k) := by
    rw [← Nat.add_mul, ← Nat.succ_mul]
    congr 1
    omega
  rw [h2] at h4
  generalize (2 ^ (k + 1) - 1 - key) * 2 ^ (63 - k) = z at *
  generalize key * 2 ^ (63 - k) = y at *
  generalize 2 ^ (63 - k) = x at *
  omega
theorem blen_not {c s : Nat} : 64 - blen (c * 2 ^ s + (2 ^ s - 1)) = if c = 0 then 64 - s else 64 - (blen c + s) := by
  have hp := Nat.two_pow_pos s
  by_cases h : c = 0
  · subst h
    rw [if_pos rfl, Nat.zero_mul, Nat.zero_add]
    rcases Nat.eq_zero_or_pos s with rfl | hs
    · rfl
    · obtain ⟨m, rfl⟩ : ∃ m, s = m + 1 := ⟨s - 1, by omega⟩
      rw [show blen (2 ^ (m + 1) - 1) = m + 1 from blen_eq (by rw [Nat.pow_succ]; have := Nat.two_pow_pos m; omega) (by omega)]
  · rw [if_neg h]
    have h1 := blen_lt c
    have h2 := blen_ge h
    obtain ⟨m, hm⟩ : ∃ m, blen c = m + 1 := ⟨blen c - 1, by rw [blen_pos h]; omega⟩
    rw [hm] at h1 h2 ⊢
    rw [show m + 1 - 1 = m by omega] at h2
    rw [show blen (c * 2 ^ s + (2 ^ s - 1)) = (m + s) + 1 from blen_eq (by rw [Nat.pow_add]; have := Nat.mul_le_mul_right (2 ^ s) h2; omega) (by
      rw [show m + s + 1 = (m + 1) + s by omega, Nat.pow_add]
      have h3 : (c + 1) * 2 ^ s ≤ 2 ^ (m + 1) * 2 ^ s := Nat.mul_le_mul_right _ h1
      rw [Nat.succ_mul] at h3
      omega)]
    omega
theorem xor_word {x : Nat} (hx : x < 18446744073709551616) : bits .xor .u64 IntKind.u64.max (x : Int) = ((18446744073709551615 - x : Nat) : Int) := by
  rw [IntKind.max_u64, show (18446744073709551615 : Int) = ((18446744073709551615 : Nat) : Int) from rfl, u64_xor_nat _ _ (by omega) hx]
  congr 1
  refine Nat.eq_of_testBit_eq fun i => ?_
  have h64 : (2 : Nat) ^ 64 = 18446744073709551616 := rfl
  rw [Nat.testBit_xor, show 18446744073709551615 - x = 2 ^ 64 - (x + 1) by omega, Nat.testBit_two_pow_sub_succ (by omega), show 18446744073709551615 = 2 ^ 64 - 1 by omega, Nat.testBit_two_pow_sub_one]
  rcases Nat.lt_or_ge i 64 with h | h
  · simp [h]
  · have : x.testBit i = false := Nat.testBit_lt_two_pow (Nat.lt_of_lt_of_le hx (by rw [← h64]; exact Nat.pow_le_pow_right (by omega) h))
    simp [this]
theorem wide_ok (W : Int) (w : World) (h1 : 3 ≤ W) (h2 : W ≤ 65) : Calls Tryz.prog 193 #[.int .i64 W] w fun e w' => e = .returned (.tuple #[]) ∧ w = w' := by
  go_enter Tryz.func193, Tryz.ntmps193
  go_wp2_with (go_at_call 194; refine (must_ok _ _).mono ?_; rintro r w' ⟨rfl, rfl⟩)
  go_end0
  exact ⟨rfl, rfl⟩
end Go.Proofs.YtnlpkehllihllaaGreatDoor

/-
  The walk of posit.split.
-/
namespace Go.Proofs.YtnlpkehllihllaaGreatDoor
open Go.RowKit Go.Sort

theorem exp_le {L R : Nat} (h : R < 2 ^ L) : R / 2 ^ (L - 2) * 2 ^ (2 - L) ≤ 3 := by
  rcases (show L = 0 ∨ L = 1 ∨ 2 ≤ L by omega) with rfl | rfl | hl
  · obtain rfl : R = 0 := by omega
    decide
  · have : R = 0 ∨ R = 1 := by omega
    rcases this with rfl | rfl <;> decide
  · rw [show 2 - L = 0 by omega, Nat.pow_zero, Nat.mul_one]
    have e : 2 ^ L = 4 * 2 ^ (L - 2) := by
      obtain ⟨j, rfl⟩ : ∃ j, L = j + 2 := ⟨L - 2, by omega⟩
      rw [Nat.add_sub_cancel, Nat.pow_add, Nat.mul_comm]
    have : R / 2 ^ (L - 2) < 4 := by rw [Nat.div_lt_iff_lt_mul (Nat.two_pow_pos _)]; omega
    omega
/-- The cells of the fields, written one by one, then all. -/
theorem split_end {w w2 : World} {t : TypeId} {b : Nat} {x0 x1 x2 x3 : Value} (hk : Blk w2 b t #[x0, x1, x2, x3]) (hb : Below b w w2) (a1 a2 a3 : Value) :
    ∃ w4, (((((((w2.setCell ⟨b, 3, none⟩ a3).setCell ⟨b, 1, none⟩ a1).setCell ⟨b, 2, none⟩ a2).setCell ⟨b, 0, none⟩ x0).setCell ⟨b, 1, none⟩ a1).setCell ⟨b, 2, none⟩ a2).setCell ⟨b, 3, none⟩ a3) = w4 ∧ Blk w4 b t #[x0, a1, a2, a3] ∧ Below b w w4 := by
  refine ⟨_, rfl, ?_, (((((((hb.setCell (Nat.le_refl _) _).setCell (Nat.le_refl _) _).setCell (Nat.le_refl _) _).setCell (Nat.le_refl _) _).setCell (Nat.le_refl _) _).setCell (Nat.le_refl _) _).setCell (Nat.le_refl _) _)⟩
  have h := ((((((hk.set_ 3 a3).set_ 1 a1).set_ 2 a2).set_ 0 x0).set_ 1 a1).set_ 2 a2).set_ 3 a3
  simpa using h

set_option maxHeartbeats 3200000 in
set_option maxRecDepth 100000 in
/-- posit.split: r is the run, reg the regime, L how many bits are left. -/
theorem psplit_any (k key r L : Nat) (W reg : Int) (w : World) (hW : W = (k : Int) + 2) (k1 : 1 ≤ k) (k2 : k ≤ 63) (h0 : key ≠ 0) (hk : key < 2 ^ (k + 1))
    (hL : max ((k : Int) + 1 - r - 1) 0 = L) (hLk : L ≤ k) (hrk : r ≤ k + 1)
    (hor : (key < 2 ^ k ∧ blen key = L + 1 ∧ r = k - L ∧ reg = -(r : Int)) ∨ (2 ^ k ≤ key ∧ r = k + 1 - blen (2 ^ (k + 1) - 1 - key) ∧ reg = (r : Int) - 1)) :
    Calls Tryz.prog 191 #[.int .i64 W, .int .u64 key] w fun e w' => e = .returned (.agg #[.int .i64 reg, .int .i64 ((key % 2 ^ L / 2 ^ (L - 2) * 2 ^ (2 - L) : Nat) : Int), U (key % 2 ^ L % 2 ^ (L - 2)), .int .i64 ((L - 2 : Nat) : Int)]) ∧ Below w.heap.size w w' := by
  have eL := hL
  have eM : IntKind.u64.wrap (IntKind.u64.wrap ((2 : Int) ^ L) - 1) = ((2 ^ L - 1 : Nat) : Int) := mask_word (by omega)
  have hM := mask_lt (n := L) (by omega)
  have hk64 : key < 18446744073709551616 := Nat.lt_of_lt_of_le hk (Nat.pow_le_pow_right (n := 2) (by omega) (show k + 1 ≤ 64 by omega))
  have eA := u64_and_nat key (2 ^ L - 1) hk64 hM
  rw [Nat.and_two_pow_sub_one_eq_mod] at eA
  obtain ⟨B, hB⟩ : ∃ B, B = L - 2 := ⟨_, rfl⟩
  obtain ⟨C, hC⟩ : ∃ C, C = 2 - L := ⟨_, rfl⟩
  have eB : max ((L : Int) - 2) 0 = (B : Int) := by omega
  have eC : max (2 - (L : Int)) 0 = (C : Int) := by omega
  have eM2 : IntKind.u64.wrap (IntKind.u64.wrap ((2 : Int) ^ B) - 1) = ((2 ^ B - 1 : Nat) : Int) := mask_word (by omega)
  have hM2 := mask_lt (n := B) (by omega)
  have hRl := Nat.mod_lt key (Nat.two_pow_pos L)
  have hX3 := exp_le (L := L) hRl
  rw [← hB, ← hC] at hX3 ⊢
  obtain ⟨R, hR⟩ : ∃ R, R = key % 2 ^ L := ⟨_, rfl⟩
  rw [← hR] at eA hRl hX3 ⊢
  have hR64 : R < 18446744073709551616 := by rw [hR]; exact Nat.lt_of_le_of_lt (Nat.mod_le _ _) hk64
  have eA2 := u64_and_nat R (2 ^ B - 1) hR64 hM2
  rw [Nat.and_two_pow_sub_one_eq_mod] at eA2
  have eQ : (R : Int) / 2 ^ B = ((R / 2 ^ B : Nat) : Int) := by simp
  obtain ⟨Q, hQ⟩ : ∃ Q, Q = R / 2 ^ B := ⟨_, rfl⟩
  obtain ⟨F, hF⟩ : ∃ F, F = R % 2 ^ B := ⟨_, rfl⟩
  rw [← hQ] at eQ hX3 ⊢
  rw [← hF] at eA2 ⊢
  have eS : IntKind.u64.wrap ((Q : Int) * 2 ^ C) = ((Q * 2 ^ C : Nat) : Int) := by
    have e : (Q : Int) * 2 ^ C = ((Q * 2 ^ C : Nat) : Int) := by simp
    rw [e, IntKind.wrap_u64]
    generalize Q * 2 ^ C = z at *
    omega
  obtain ⟨X, hX⟩ : ∃ X, X = Q * 2 ^ C := ⟨_, rfl⟩
  rw [← hX] at eS hX3 ⊢
  obtain ⟨M1, hM1⟩ : ∃ M1, M1 = 2 ^ L - 1 := ⟨_, rfl⟩
  obtain ⟨M2, hM2'⟩ : ∃ M2, M2 = 2 ^ B - 1 := ⟨_, rfl⟩
  rw [← hM1] at eM eA
  rw [← hM2'] at eM2 eA2
  have b1 : (B : Int) ≤ 63 := by omega
  have b2 : (C : Int) ≤ 2 := by omega
  have b3 : (X : Int) ≤ 3 := by omega
  have b4 : (L : Int) ≤ 63 := by omega
  have b5 : (r : Int) ≤ 64 := by omega
  have b6 : (k : Int) ≤ 63 := by omega
  have HZ := Lib.hid (show _ ∧ _ ∧ _ ∧ _ ∧ _ ∧ _ ∧ _ ∧ _ ∧ _ from ⟨eL, eM, eA, eB, eC, eM2, eA2, eQ, eS⟩)
  clear hM1 hM2' hX hQ hF hR hB hC hM hM2 hRl hR64 hk64 hX3 eL eM eA eB eC eM2 eA2 eQ eS
  have Wd := Lib.hid fun w => wide_ok W w (by omega) (by omega)
  have hlow : key < 2 ^ k * 2 := by rw [← Nat.pow_succ]; exact hk
  have t1 : ((key : Int) / 2 ^ k / 2 == 0) = true := low_shift hlow
  obtain ⟨hh1, hh2⟩ := head_word hk k2
  have hnot := not_word hk k2
  have hbk : blen key ≤ k + 1 := by
    rcases Nat.lt_or_ge (k + 1) (blen key) with q | q
    · have h1 := blen_ge h0
      have h2 : 2 ^ (k + 1) ≤ 2 ^ (blen key - 1) := Nat.pow_le_pow_right (by omega) (by omega)
      omega
    · exact q
  have f0 : W - 1 = (k : Int) + 1 := by omega
  have f1 : W ≤ 65 := by omega
  have f2 : 3 ≤ W := by omega
  have t0 : ((key : Int) != 0) = true := by simpa using h0
  have Hkey0 := Lib.hid h0
  have HL := Lib.hid hL
  have Hor := Lib.hid hor
  have Hk := Lib.hid hk
  obtain ⟨hi, hhi⟩ : ∃ hi, hi = key * 2 ^ (63 - k) := ⟨_, rfl⟩
  rw [← hhi] at hh1 hh2 hnot
  have Hhi := Lib.hid hhi
  have Hnot := Lib.hid hnot
  have Hbk := Lib.hid hbk
  have Hlow := Lib.hid hlow
  clear hW h0 hL hor hk hhi hnot hbk hlow
  have HK := Lib.hid (Blk.new w 243 #[.int .i64 0, .int .i64 0, .int .u64 0, .int .i64 0])
  have HB := Lib.hid (show Below w.heap.size w (w.alloc (.cells #[.int .i64 0, .int .i64 0, .int .u64 0, .int .i64 0] 243)) from (Below.refl _ _).alloc (Nat.le_refl _) _)
  go_enter Tryz.func191, Tryz.ntmps191
  go_upto_region 6 with (first
    | (go_at_call 193; refine (Wd.out _).mono ?_; rintro r w' ⟨rfl, rfl⟩)
    | (go_at_call 194; (with_reducible refine (must_ok _ _).mono ?_); rintro r w' ⟨rfl, rfl⟩)
    | (go_at_call 106; (with_reducible refine (lz64_any hi _ hh2).mono ?_); rintro r w' ⟨rfl, rfl⟩))
  have hu64 : 64 - blen hi ≤ 64 := Nat.sub_le _ _
  obtain ⟨u, hu⟩ : ∃ u, u = 64 - blen hi := ⟨_, rfl⟩
  rw [← hu] at hu64 ⊢
  have Hu := Lib.hid hu
  clear hu
  go_upto_if 35 with (fail)
  go_cut [7] from 34 to 43 (fun ru wz => ru = .int .i64 r ∧ Hid (wz = w.alloc (.cells #[.int .i64 reg, .int .i64 0, .int .u64 0, .int .i64 0] 243)))
  case first =>
    rcases Hor.out with ⟨g1, g2, g3, g4⟩ | ⟨g1, g2, g3⟩
    · have e1 : u = r := by
        rw [Hu.out, Hhi.out, blen_shl Hkey0.out, g2, g3]
        have := blen_lt key
        have hLk2 : L + 1 ≤ k := by
          rcases Nat.lt_or_ge k (L + 1) with q | q
          · have h1 := blen_ge Hkey0.out
            rw [g2] at h1
            have h2 : 2 ^ k ≤ 2 ^ (L + 1 - 1) := Nat.pow_le_pow_right (by omega) (by omega)
            omega
          · exact q
        omega
      have e2 : r ≠ 0 := by
        have hLk2 : L + 1 ≤ k := by
          rcases Nat.lt_or_ge k (L + 1) with q | q
          · have h1 := blen_ge Hkey0.out
            rw [g2] at h1
            have h2 : 2 ^ k ≤ 2 ^ (L + 1 - 1) := Nat.pow_le_pow_right (by omega) (by omega)
            omega
          · exact q
        omega
      have t3 : ((u : Int) == 0) = false := by rw [beq_eq_false_iff_ne]; omega
      have G4 := Lib.hid g4
      clear e2 g1 g2 g3 g4 Hor
      subst e1
      go_wp2_with fail
      go_meet
      exact ⟨rfl, Lib.hid (by rw [G4.out])⟩
    · have hbk1 : blen key = k + 1 := blen_eq g1 Hk.out
      have e0 : u = 0 := by
        rw [Hu.out, Hhi.out, blen_shl Hkey0.out, hbk1]
        omega
      have t3 : ((u : Int) == 0) = true := by rw [beq_iff_eq]; omega
      have G3 := Lib.hid g3
      have G2 := Lib.hid g2
      clear g1 g2 g3 Hor hbk1
      have E0 := Lib.hid e0
      clear e0
      have hx := xor_word hh2
      obtain ⟨nh, hnh⟩ : ∃ nh, nh = 18446744073709551615 - hi := ⟨_, rfl⟩
      have hn2 : nh < 18446744073709551616 := by omega
      rw [← hnh] at hx
      have Hnh := Lib.hid (hnh.trans Hnot.out)
      clear hnh
      go_wp2_with fail
      ((with_reducible refine (lz64_any nh _ hn2).mono ?_); rintro r' w' ⟨rfl, rfl⟩)
      have e1 : 64 - blen nh = r := by
        rw [Hnh.out, blen_not, G2.out]
        split
        · next q => rw [q, blen_zero]; omega
        · omega
      rw [e1]
      have em : min (r : Int) ((k : Int) + 1) = r := by omega
      clear e1
      go_wp2_with fail
      go_meet
      exact ⟨rfl, Lib.hid (by rw [G3.out])⟩
  case rest =>
    obtain ⟨rfl, hwz⟩ := hcut
    obtain ⟨wz, rfl⟩ : ∃ wz, wz = wc := ⟨_, rfl⟩
    have HK1 := Lib.hid (show Blk wz w.heap.size 243 #[.int .i64 reg, .int .i64 0, .int .u64 0, .int .i64 0] by rw [hwz.out]; exact Blk.new w _ _)
    have HB1 := Lib.hid (show Below w.heap.size w wz by rw [hwz.out]; exact (Below.refl _ _).alloc (Nat.le_refl _) _)
    clear hwz Hor Hhi Hnot Hlow Hbk Hu hh1 hh2 hu64
    obtain ⟨eL, eM, eA, eB, eC, eM2, eA2, eQ, eS⟩ := HZ.out
    clear HL HZ
    clear t0 t1 Hkey0 Hk
    have k0 : wz.cell? ⟨w.heap.size, 0, none⟩ = some (.int .i64 reg) := Blk.cell HK1.out 0
    have k1 : wz.cell? ⟨w.heap.size, 1, none⟩ = some (.int .i64 0) := Blk.cell HK1.out 1
    have k2 : wz.cell? ⟨w.heap.size, 2, none⟩ = some (.int .u64 0) := Blk.cell HK1.out 2
    have k3 : wz.cell? ⟨w.heap.size, 3, none⟩ = some (.int .i64 0) := Blk.cell HK1.out 3
    have q0 : ∀ o, wz.frozen? ⟨w.heap.size, o, none⟩ = false := fun o => Blk.frozen HK1.out o
    go_wp2_with fail
    obtain ⟨w4, hw4, hk4, hb4⟩ := split_end HK1.out HB1.out (.int .i64 X) (U F) (.int .i64 B)
    have r0 := Blk.cell hk4 0
    have r1 := Blk.cell hk4 1
    have r2 := Blk.cell hk4 2
    have r3 := Blk.cell hk4 3
    rw [hw4]
    exact bodyPost_ret (v := .agg #[.int .i64 reg, .int .i64 X, U F, .int .i64 B]) (by simp [results, Tryz.results191, go_sem, r0, r1, r2, r3]) rfl ⟨rfl, hb4⟩
end Go.Proofs.YtnlpkehllihllaaGreatDoor
