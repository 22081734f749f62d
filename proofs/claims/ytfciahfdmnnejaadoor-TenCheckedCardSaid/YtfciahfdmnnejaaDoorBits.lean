/-
  The walks of nat.Bits, nat.Bit, nat.Cmp.
-/
import Derived.Test.YtfciahfdmnnejaaDoorPow
import Derived.Test.YtfciahfdmnnejaaDoorShelf
import Derived.BigQuiet
namespace Go.Proofs.YtfciahfdmnnejaaDoor
open Go.RowKit

/-- How many bits a number has. -/
def blen (n : Nat) : Nat := if n = 0 then 0 else n.log2 + 1
theorem blen_zero : blen 0 = 0 := rfl
theorem blen_pos {n : Nat} (h : n ≠ 0) : blen n = n.log2 + 1 := if_neg h
theorem blen_lt (n : Nat) : n < 2 ^ blen n := (Go.bitLen_spec n).1
theorem blen_ge {n : Nat} (h : n ≠ 0) : 2 ^ (blen n - 1) ≤ n := (Go.bitLen_spec n).2 h
theorem blen_eq {n k : Nat} (h1 : 2 ^ k ≤ n) (h2 : n < 2 ^ (k + 1)) : blen n = k + 1 := by
  have h0 : n ≠ 0 := by have := Nat.two_pow_pos k; omega
  rw [blen_pos h0, (Nat.log2_eq_iff h0).2 ⟨h1, h2⟩]
theorem blen_shift (x b : Nat) (h : x / 2 ^ b ≠ 0) : blen x = b + blen (x / 2 ^ b) := Go.bitLen_shift x b h
theorem lib_bitLen (x : Nat) (hx : x < 18446744073709551616) : Lib.bitLen x = blen x := by
  induction x using Nat.strongRecOn with
  | _ x ih =>
    by_cases h0 : x = 0
    · subst h0; rfl
    · rw [Lib.bitLen_half x h0 (by omega), ih (x / 2) (by omega) (by omega)]
      by_cases h1 : x / 2 = 0
      · have : x = 1 := by omega
        subst this; decide
      · have h := blen_shift x 1 (by simpa using h1)
        rw [h]
theorem blen_words {x : Nat} (h : x ≠ 0) : blen x = 64 * (lw x - 1) + blen ((wds x).getD (lw x - 1) 0) := by
  have h1 := lw_ge h
  have h2 := lw_lt x
  have h3 := lw_pos h
  have e : lw x = lw x - 1 + 1 := by omega
  rw [e, bp_succ] at h2
  have hq : x / bp (lw x - 1) < 18446744073709551616 := by rw [Nat.div_lt_iff_lt_mul (bp_pos _)]; exact h2
  have h0 : x / bp (lw x - 1) ≠ 0 := by
    have := Nat.div_pos h1 (bp_pos _)
    omega
  rw [wds_at, Nat.mod_eq_of_lt hq]
  rw [bp_two] at h0 ⊢
  exact blen_shift x _ h0

theorem len64_any (x : Nat) (w : World) (hx : x < 18446744073709551616) : Calls Tryd.prog 48 #[.int .u64 x] w fun e w' => e = .returned (.int .i64 (blen x)) ∧ w = w' :=
  (Tryd.bits_Len64 x w (by omega) (by omega)).mono fun e w' ⟨h1, h2⟩ => ⟨by rw [h1, Int.toNat_natCast, lib_bitLen x hx], h2.symm⟩
theorem blen_le64 {x : Nat} (hx : x < 18446744073709551616) : blen x ≤ 64 := by
  by_cases h : x = 0
  · subst h; simp [blen]
  · rw [blen_pos h]
    have := (Nat.log2_lt h).2 (show x < 2 ^ 64 from hx)
    omega

set_option maxHeartbeats 400000 in
/-- nat.Bits. -/
theorem bits_any (va : Value) (x : Nat) (w : World) (ha : Num w va x) (hs : lw x ≤ 17592186044416) :
    Calls Tryd.prog 26 #[va] w fun e w' => e = .returned (.int .i64 (blen x)) ∧ w = w' := by
  obtain ⟨A, c, rfl, hc, hm, hr⟩ := ha
  by_cases h0 : x = 0
  · subst h0
    have t1 : ((lw 0 : Int) == 0) = true := by rw [lw_zero]; rfl
    go_enter Tryd.func26, Tryd.ntmps26
    go_wp2_with (go_at_call 35; refine (trim_num _ _ _ _ hr hc hm).mono ?_; rintro e w' ⟨rfl, rfl⟩)
    go_ret
    exact ⟨rfl, rfl⟩
  · have hp := lw_pos h0
    obtain ⟨b, off, rfl, hb, hcell⟩ := hr.at_ (k := lw x - 1) (by rw [wds_length]; omega)
    have hcm := hcell (lw x - 1) (by rw [wds_length]; omega)
    have hw := wds_get x (lw x - 1)
    obtain ⟨t, ht⟩ : ∃ t : Nat, t = (wds x).getD (lw x - 1) 0 := ⟨_, rfl⟩
    rw [← ht] at hcm hw
    have e := blen_words h0
    rw [← ht] at e
    have E := Lib.hid e
    have hb64 := blen_le64 hw
    have t1 : ((lw x : Int) == 0) = false := by rw [beq_eq_false_iff_ne]; omega
    clear ht e
    go_enter Tryd.func26, Tryd.ntmps26
    go_wp2_with (first
      | (go_at_call 35; refine (trim_num _ _ _ _ hr hc hm).mono ?_; rintro e w' ⟨rfl, rfl⟩)
      | (go_at_call 48; refine (len64_any t _ hw).mono ?_; rintro e w' ⟨rfl, rfl⟩))
    go_ret
    exact ⟨ret_int (by rw [E.out]; omega), rfl⟩

theorem bit_word (x : Nat) (i : Int) (hi0 : 0 ≤ i) : (bits .and .u64 (((wds x)[(i / 64).toNat]?.getD 0 : Nat) / 2 ^ (i % 64).toNat) 1 == 1) = x.testBit i.toNat := by
  obtain ⟨n, rfl⟩ := Int.eq_ofNat_of_zero_le hi0
  have e1 : ((n : Int) / 64).toNat = n / 64 := by omega
  have e2 : ((n : Int) % 64).toNat = n % 64 := by omega
  rw [e1, e2, Int.toNat_natCast, ← List.getD_eq_getElem?_getD]
  have hw := wds_get x (n / 64)
  have e3 := wds_at x (n / 64)
  generalize (wds x).getD (n / 64) 0 = a at *
  have e4 : ((a : Int) / 2 ^ (n % 64)) = ((a / 2 ^ (n % 64) : Nat) : Int) := by
    rw [show ((2 : Int) ^ (n % 64)) = ((2 ^ (n % 64) : Nat) : Int) from by rw [Int.natCast_pow]; rfl]; exact (Int.natCast_ediv _ _).symm
  have hlt : a / 2 ^ (n % 64) < 18446744073709551616 := Nat.lt_of_le_of_lt (Nat.div_le_self _ _) hw
  have e5 : bits .and .u64 ((a / 2 ^ (n % 64) : Nat) : Int) 1 = ((a / 2 ^ (n % 64) &&& 1 : Nat) : Int) := u64_and_nat _ 1 hlt (by omega)
  rw [e4, e5, Nat.and_one_is_mod]
  have e6 : x.testBit n = decide (a / 2 ^ (n % 64) % 2 = 1) := by
    have h1 : (a / 2 ^ (n % 64)).testBit 0 = x.testBit n := by
      rw [Nat.testBit_div_two_pow, e3, bp_two, ← two64, Nat.testBit_mod_two_pow, Nat.testBit_div_two_pow]
      have : n % 64 < 64 := Nat.mod_lt _ (by omega)
      have e : n % 64 + 64 * (n / 64) = n := by omega
      simp [this, e]
    rw [← h1, Nat.testBit_zero]
  rw [e6, Bool.eq_iff_iff, beq_iff_eq, decide_eq_true_iff]
  omega

set_option maxHeartbeats 400000 in
/-- nat.Bit. -/
theorem bit_any (va : Value) (x : Nat) (i : Int) (w : World) (ha : Num w va x) (hi0 : 0 ≤ i) (hi : i ≤ 9223372036854775807) :
    Calls Tryd.prog 29 #[va, .int .i64 i] w fun e w' => e = .returned (.bool (x.testBit i.toNat)) ∧ w = w' := by
  obtain ⟨A, c, rfl, hc, hm, hr⟩ := ha
  go_enter Tryd.func29, Tryd.ntmps29
  go_wp2_with (go_at_call 50; refine (at_any _ _ _ (wds x) _ _ hr rfl (by omega) (by omega)).mono ?_; rintro e w' ⟨rfl, rfl⟩)
  go_ret
  exact ⟨ret_bool (bit_word x i hi0), rfl⟩
end Go.Proofs.YtfciahfdmnnejaaDoor
