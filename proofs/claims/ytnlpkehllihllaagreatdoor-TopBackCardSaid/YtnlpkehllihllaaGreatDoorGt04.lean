/-
  A part of the proofs that calipertop.TopBack, TopFloats and TopNearest return true for every input and leave it as it was: part 4 of 47.
-/
import Derived.Test.YtnlpkehllihllaaGreatDoorGt02
import Derived.Test.YtnlpkehllihllaaGreatDoorGt03
import Derived.BigQuiet
/-
  The walks of nat.Bits, nat.Bit, nat.Cmp.
-/
namespace Go.Proofs.YtnlpkehllihllaaGreatDoor
open Go.RowKit

/-- How many bits a number has. -/
def blen (n : Nat) : Nat := if n = 0 then 0 else n.log2 + 1
theorem blen_zero : blen 0 = 0 := rfl
theorem blen_pos {n : Nat} (h : n ≠ 0) : blen n = n.log2 + 1 := if_neg h
theorem blen_lt (n : Nat) : n < 2 ^ blen n := (Go.bitLen_spec n).1
theorem blen_ge {n : Nat} (h : n ≠ 0) : 2 ^ (blen n - 1) ≤ n := (Go.bitLen_spec n).2 h
theorem blen_eq {n k : Nat} (h1 : 2 ^ k ≤ n) (h2 : n < 2 ^ (k + 1)) : blen n = k + 1 := by
  have h0 : n ≠ 0 := by have := Nat.two_pow_pos k; omega
  rw [blen_pos h0, (Nat.log2_eq_iff h0).2 ⟨h1, h2⟩]
theorem blen_shift (x b : Nat) (h : x / 2 ^ b ≠ 0) : blen x = b + blen (x / 2 ^ b) := Go.bitLen_shift x b h
theorem lib_bitLen (x : Nat) (hx : x < 18446744073709551616) : Lib.bitLen x = blen x := by
  induction x using Nat.strongRecOn with
  | _ x ih =>
    by_cases h0 : x = 0
    · subst h0; rfl
    · rw [Lib.bitLen_half x h0 (by omega), ih (x / 2) (by omega) (by omega)]
      by_cases h1 : x / 2 = 0
      · have : x = 1 := by omega
        subst this; decide
      · have h := blen_shift x 1 (by simpa using h1)
        rw [h]
theorem blen_words {x : Nat} (h : x ≠ 0) : blen x = 64 * (lw x - 1) + blen ((wds x).getD (lw x - 1) 0) := by
  have h1 := lw_ge h
  have h2 := lw_lt x
  have h3 := lw_pos h
  have e : lw x = lw x - 1 + 1 := by omega
  rw [e, bp_succ] at h2
  have hq : x / bp (lw x - 1) < 18446744073709551616 := by rw [Nat.div_lt_iff_lt_mul (bp_pos _)]; exact h2
  have h0 : x / bp (lw x - 1) ≠ 0 := by
    have := Nat.div_pos h1 (bp_pos _)
    omega
  rw [wds_at, Nat.mod_eq_of_lt hq]
  rw [bp_two] at h0 ⊢
  exact blen_shift x _ h0

theorem len64_any (x : Nat) (w : World) (hx : x < 18446744073709551616) : Calls Tryz.prog 91 #[.int .u64 x] w fun e w' => e = .returned (.int .i64 (blen x)) ∧ w = w' :=
  (Tryz.bits_Len64 x w (by omega) (by omega)).mono fun e w' ⟨h1, h2⟩ => ⟨by rw [h1, Int.toNat_natCast, lib_bitLen x hx], h2.symm⟩
theorem blen_le64 {x : Nat} (hx : x < 18446744073709551616) : blen x ≤ 64 := by
  by_cases h : x = 0
  · subst h; simp [blen]
  · rw [blen_pos h]
    have := (Nat.log2_lt h).2 (show x < 2 ^ 64 from hx)
    omega

set_option maxHeartbeats 400000 in
/-- nat.Bits. -/
theorem bits_any (va : Value) (x : Nat) (w : World) (ha : Num w va x) (hs : lw x ≤ 17592186044416) :
    Calls Tryz.prog 58 #[va] w fun e w' => e = .returned (.int .i64 (blen x)) ∧ w = w' := by
  obtain ⟨A, c, rfl, hc, hm, hr⟩ := ha
  by_cases h0 : x = 0
  · subst h0
    have t1 : ((lw 0 : Int) == 0) = true := by rw [lw_zero]; rfl
    go_enter Tryz.func58, Tryz.ntmps58
    go_wp2_with (go_at_call 29; refine (trim_num _ _ _ _ hr hc hm).mono ?_; rintro e w' ⟨rfl, rfl⟩)
    go_ret
    exact ⟨rfl, rfl⟩
  · have hp := lw_pos h0
    obtain ⟨b, off, rfl, hb, hcell⟩ := hr.at_ (k := lw x - 1) (by rw [wds_length]; omega)
    have hcm := hcell (lw x - 1) (by rw [wds_length]; omega)
    have hw := wds_get x (lw x - 1)
    obtain ⟨t, ht⟩ : ∃ t : Nat, t = (wds x).getD (lw x - 1) 0 := ⟨_, rfl⟩
    rw [← ht] at hcm hw
    have e := blen_words h0
    rw [← ht] at e
    have E := Lib.hid e
    have hb64 := blen_le64 hw
    have t1 : ((lw x : Int) == 0) = false := by rw [beq_eq_false_iff_ne]; omega
    clear ht e
    go_enter Tryz.func58, Tryz.ntmps58
    go_wp2_with (first
      | (go_at_call 29; refine (trim_num _ _ _ _ hr hc hm).mono ?_; rintro e w' ⟨rfl, rfl⟩)
      | (go_at_call 91; refine (len64_any t _ hw).mono ?_; rintro e w' ⟨rfl, rfl⟩))
    go_ret
    exact ⟨ret_int (by rw [E.out]; omega), rfl⟩

theorem bit_word (x : Nat) (i : Int) (hi0 : 0 ≤ i) : (bits .and .u64 (((wds x)[(i / 64).toNat]?.getD 0 : Nat) / 2 ^ (i % 64).toNat) 1 == 1) = x.testBit i.toNat := by
  obtain ⟨n, rfl⟩ := Int.eq_ofNat_of_zero_le hi0
  have e1 : ((n : Int) / 64).toNat = n / 64 := by omega
  have e2 : ((n : Int) % 64).toNat = n % 64 := by omega
  rw [e1, e2, Int.toNat_natCast, ← List.getD_eq_getElem?_getD]
  have hw := wds_get x (n / 64)
  have e3 := wds_at x (n / 64)
  generalize (wds x).getD (n / 64) 0 = a at *
  have e4 : ((a : Int) / 2 ^ (n % 64)) = ((a / 2 ^ (n % 64) : Nat) : Int) := by
    rw [show ((2 : Int) ^ (n % 64)) = ((2 ^ (n % 64) : Nat) : Int) from by rw [Int.natCast_pow]; rfl]; exact (Int.natCast_ediv _ _).symm
  have hlt : a / 2 ^ (n % 64) < 18446744073709551616 := Nat.lt_of_le_of_lt (Nat.div_le_self _ _) hw
  have e5 : bits .and .u64 ((a / 2 ^ (n % 64) : Nat) : Int) 1 = ((a / 2 ^ (n % 64) &&& 1 : Nat) : Int) := u64_and_nat _ 1 hlt (by omega)
  rw [e4, e5, Nat.and_one_is_mod]
  have e6 : x.testBit n = decide (a / 2 ^ (n % 64) % 2 = 1) := by
    have h1 : (a / 2 ^ (n % 64)).testBit 0 = x.testBit n := by
      rw [Nat.testBit_div_two_pow, e3, bp_two, ← two64, Nat.testBit_mod_two_pow, Nat.testBit_div_two_pow]
      have : n % 64 < 64 := Nat.mod_lt _ (by omega)
      have e : n % 64 + 64 * (n / 64) = n := by omega
      simp [this, e]
    rw [← h1, Nat.testBit_zero]
  rw [e6, Bool.eq_iff_iff, beq_iff_eq, decide_eq_true_iff]
  omega

set_option maxHeartbeats 400000 in
/-- nat.Bit. -/
theorem bit_any (va : Value) (x : Nat) (i : Int) (w : World) (ha : Num w va x) (hi0 : 0 ≤ i) (hi : i ≤ 9223372036854775807) :
    Calls Tryz.prog 105 #[va, .int .i64 i] w fun e w' => e = .returned (.bool (x.testBit i.toNat)) ∧ w = w' := by
  obtain ⟨A, c, rfl, hc, hm, hr⟩ := ha
  go_enter Tryz.func105, Tryz.ntmps105
  go_wp2_with (go_at_call 28; refine (at_any _ _ _ (wds x) _ _ hr rfl (by omega) (by omega)).mono ?_; rintro e w' ⟨rfl, rfl⟩)
  go_ret
  exact ⟨ret_bool (bit_word x i hi0), rfl⟩
end Go.Proofs.YtnlpkehllihllaaGreatDoor

/-
  The plain arithmetic of the division of two words by one.
-/
namespace Go.Proofs.YtnlpkehllihllaaGreatDoor

/-- The digit that is guessed is not too small; where the test says no, it is right. -/
theorem est_start {Y u v yn1 yn0 : Nat} (hY : Y = yn1 * 4294967296 + yn0) (h1 : 2147483648 ≤ yn1) (h0 : yn0 < 4294967296) (hu : u < Y) (hv : v < 4294967296) :
    (u * 4294967296 + v) / Y ≤ u / yn1 ∧ u / yn1 ≤ 4294967297 ∧ u % yn1 < 4294967296 + yn1 := by
  have hp : 0 < yn1 := by omega
  have hYp : 0 < Y := by omega
  have hm := Nat.mod_lt u hp
  have hd := Nat.div_add_mod u yn1
  refine ⟨?_, ?_, by omega⟩
  · rw [Nat.div_le_iff_le_mul_add_pred hYp]
    have e1 : Y * (u / yn1) = yn1 * (u / yn1) * 4294967296 + yn0 * (u / yn1) := by rw [hY, Nat.add_mul, Nat.mul_assoc, Nat.mul_comm 4294967296, ← Nat.mul_assoc]
    rw [e1]
    omega
  · have h2 : u / yn1 < 4294967298 := by
      rw [Nat.div_lt_iff_lt_mul hp]
      omega
    omega
theorem est_high {Y u v : Nat} (hu : u < Y) (hv : v < 4294967296) : (u * 4294967296 + v) / Y < 4294967296 := by
  rw [Nat.div_lt_iff_lt_mul (by omega)]
  have : (u + 1) * 4294967296 ≤ Y * 4294967296 := Nat.mul_le_mul_right _ hu
  rw [Nat.mul_comm 4294967296]
  omega
/-- The test: q times the low half is above what is left: then q is too large. -/
theorem est_over {Y u v yn1 yn0 q r : Nat} (hY : Y = yn1 * 4294967296 + yn0) (hYp : 0 < Y) (hr : q * yn1 + r = u) (h : 4294967296 * r + v < q * yn0) : (u * 4294967296 + v) / Y ≤ q - 1 := by
  have h0 : 0 < q := by
    rcases Nat.eq_zero_or_pos q with h' | h'
    · subst h'; omega
    · exact h'
  have : (u * 4294967296 + v) / Y < q := by
    rw [Nat.div_lt_iff_lt_mul hYp, hY, ← hr, Nat.mul_add, Nat.add_mul, ← Nat.mul_assoc]
    omega
  omega
theorem est_under {Y u v yn1 yn0 q r : Nat} (hY : Y = yn1 * 4294967296 + yn0) (hYp : 0 < Y) (hr : q * yn1 + r = u) (h : q * yn0 ≤ 4294967296 * r + v) : q ≤ (u * 4294967296 + v) / Y := by
  rw [Nat.le_div_iff_mul_le hYp, hY, ← hr, Nat.mul_add, Nat.add_mul, ← Nat.mul_assoc]
  omega
theorem est_step {yn1 q r u : Nat} (hq : 0 < q) (hr : q * yn1 + r = u) : (q - 1) * yn1 + (r + yn1) = u := by
  obtain ⟨k, rfl⟩ : ∃ k, q = k + 1 := ⟨q - 1, by omega⟩
  rw [Nat.add_mul] at hr
  simp only [Nat.add_sub_cancel]
  omega
/-- The digits of the two halves are the digit of the whole. -/
theorem div_two (N Y : Nat) (hY : 0 < Y) (u v w : Nat) (hN : N = (u * 4294967296 + v) * 4294967296 + w) :
    N / Y = (u * 4294967296 + v) / Y * 4294967296 + ((u * 4294967296 + v) % Y * 4294967296 + w) / Y ∧ N % Y = ((u * 4294967296 + v) % Y * 4294967296 + w) % Y := by
  have hd := Nat.div_add_mod (u * 4294967296 + v) Y
  have e : N = ((u * 4294967296 + v) % Y * 4294967296 + w) + Y * ((u * 4294967296 + v) / Y * 4294967296) := by
    rw [hN]
    generalize (u * 4294967296 + v) / Y = Q at *
    generalize (u * 4294967296 + v) % Y = R at *
    rw [← hd, Nat.add_mul, Nat.mul_assoc]
    omega
  constructor
  · rw [e, Nat.add_mul_div_left _ _ hY]; omega
  · rw [e, Nat.add_mul_mod_self_left]

/-- The shift that puts the highest bit at its place. -/
theorem norm_shift {y : Nat} (h0 : y ≠ 0) (hy : y < 18446744073709551616) : blen y ≤ 64 ∧ y * 2 ^ (64 - blen y) < 18446744073709551616 ∧ 9223372036854775808 ≤ y * 2 ^ (64 - blen y) := by
  have h1 := blen_le64 hy
  have h2 := blen_lt y
  have h3 := blen_ge h0
  have h4 : 0 < blen y := by rw [blen_pos h0]; omega
  have hp := Nat.two_pow_pos (64 - blen y)
  refine ⟨h1, ?_, ?_⟩
  · have : y * 2 ^ (64 - blen y) < 2 ^ blen y * 2 ^ (64 - blen y) := Nat.mul_lt_mul_of_pos_right h2 hp
    rwa [← Nat.pow_add, show blen y + (64 - blen y) = 64 by omega, two64] at this
  · have : 2 ^ (blen y - 1) * 2 ^ (64 - blen y) ≤ y * 2 ^ (64 - blen y) := Nat.mul_le_mul_right _ h3
    rwa [← Nat.pow_add, show blen y - 1 + (64 - blen y) = 63 by omega] at this
end Go.Proofs.YtnlpkehllihllaaGreatDoor
namespace Go.Proofs.YtnlpkehllihllaaGreatDoor
theorem est_break {k yn0 r v : Nat} (hk : k ≤ 4294967296) (h0 : yn0 < 4294967296) (hr : 4294967296 ≤ r) : k * yn0 ≤ 4294967296 * r + v := by
  have h1 := Nat.mul_le_mul hk (Nat.le_of_lt h0)
  omega
theorem prod32 {q yn0 : Nat} (hq : q < 4294967296) (h0 : yn0 < 4294967296) : q * yn0 ≤ 18446744065119617025 := by
  have h1 : q * yn0 ≤ 4294967295 * 4294967295 := Nat.mul_le_mul (by omega) (by omega)
  omega
end Go.Proofs.YtnlpkehllihllaaGreatDoor

/-
  Plain laws of exact numbers: a natural number times powers of 2 and 5, made whole by one common power; how sizes tell which is greater; powers of ten.
-/
namespace Go.Proofs.YtnlpkehllihllaaGreatDoor
open Go.RowKit Go.Sort

/-- A natural number times 2 to the power t times 5 to the power f, times 10 to the power 2500. -/
def ex (n : Nat) (t f : Int) : Nat := n * 2 ^ (t + 2500).toNat * 5 ^ (f + 2500).toNat
/-- A natural number times those powers that are above 0. -/
def scal (n : Nat) (t f : Int) : Nat := n * 5 ^ f.toNat * 2 ^ t.toNat

theorem ex_zero (t f : Int) : ex 0 t f = 0 := by unfold ex; rw [Nat.zero_mul, Nat.zero_mul]
theorem ex_pos {n : Nat} (h : n ≠ 0) (t f : Int) : 0 < ex n t f := by
  unfold ex
  exact Nat.mul_pos (Nat.mul_pos (by omega) (Nat.pow_pos (by omega))) (Nat.pow_pos (by omega))
/-- Both scaled by what divides the one by the other: one common factor. -/
theorem ex_scal (n m : Nat) (t f u g : Int) (t1 : -2500 ≤ t) (f1 : -2500 ≤ f) (u1 : -2500 ≤ u) (g1 : -2500 ≤ g) :
    ∃ c, 0 < c ∧ ex n t f = scal n (t - u) (f - g) * c ∧ ex m u g = scal m (-(t - u)) (-(f - g)) * c := by
  refine ⟨2 ^ (min t u + 2500).toNat * 5 ^ (min f g + 2500).toNat, Nat.mul_pos (Nat.pow_pos (by omega)) (Nat.pow_pos (by omega)), ?_, ?_⟩
  · unfold ex scal
    rw [show (t + 2500).toNat = (t - u).toNat + (min t u + 2500).toNat by omega, show (f + 2500).toNat = (f - g).toNat + (min f g + 2500).toNat by omega, Nat.pow_add, Nat.pow_add]
    ac_rfl
  · unfold ex scal
    rw [show (u + 2500).toNat = (-(t - u)).toNat + (min t u + 2500).toNat by omega, show (g + 2500).toNat = (-(f - g)).toNat + (min f g + 2500).toNat by omega, Nat.pow_add, Nat.pow_add]
    ac_rfl
theorem cmpI_mul (a b c : Nat) (h : 0 < c) : cmpI ((a * c : Nat) : Int) ((b * c : Nat) : Int) = cmpI (a : Int) (b : Int) := by
  unfold cmpI
  have h1 : (a * c < b * c) ↔ a < b := Nat.mul_lt_mul_right h
  have h2 : (b * c < a * c) ↔ b < a := Nat.mul_lt_mul_right h
  by_cases l : a < b
  · rw [if_pos (Int.ofNat_lt.2 (h1.2 l)), if_pos (Int.ofNat_lt.2 l)]
  · rw [if_neg (fun q => l (h1.1 (Int.ofNat_lt.1 q))), if_neg (fun q => l (Int.ofNat_lt.1 q))]
    by_cases l2 : b < a
    · rw [if_pos (Int.ofNat_lt.2 (h2.2 l2)), if_pos (Int.ofNat_lt.2 l2)]
    · rw [if_neg (fun q => l2 (h2.1 (Int.ofNat_lt.1 q))), if_neg (fun q => l2 (Int.ofNat_lt.1 q))]
theorem cmp_scal (n m : Nat) (t f u g : Int) (t1 : -2500 ≤ t) (f1 : -2500 ≤ f) (u1 : -2500 ≤ u) (g1 : -2500 ≤ g) :
    cmpI (scal n (t - u) (f - g) : Int) (scal m (-(t - u)) (-(f - g)) : Int) = cmpI (ex n t f : Int) (ex m u g : Int) := by
  obtain ⟨c, hc, e1, e2⟩ := ex_scal n m t f u g t1 f1 u1 g1
  rw [e1, e2, cmpI_mul _ _ _ hc]
theorem div_scal (n m : Nat) (t f u g : Int) (t1 : -2500 ≤ t) (f1 : -2500 ≤ f) (u1 : -2500 ≤ u) (g1 : -2500 ≤ g) :
    scal n (t - u) (f - g) / scal m (-(t - u)) (-(f - g)) = ex n t f / ex m u g := by
  obtain ⟨c, hc, e1, e2⟩ := ex_scal n m t f u g t1 f1 u1 g1
  rw [e1, e2, Nat.mul_div_mul_right _ _ hc]
/-- How twice what is left stands against the divisor: the same in both scales. -/
theorem rest_scal (n m : Nat) (t f u g : Int) (t1 : -2500 ≤ t) (f1 : -2500 ≤ f) (u1 : -2500 ≤ u) (g1 : -2500 ≤ g) :
    (scal n (t - u) (f - g) % scal m (-(t - u)) (-(f - g)) = 0 ↔ ex n t f % ex m u g = 0) ∧
    cmpI ((scal n (t - u) (f - g) % scal m (-(t - u)) (-(f - g)) * 2 : Nat) : Int) (scal m (-(t - u)) (-(f - g)) : Int) = cmpI ((ex n t f % ex m u g * 2 : Nat) : Int) (ex m u g : Int) := by
  obtain ⟨c, hc, e1, e2⟩ := ex_scal n m t f u g t1 f1 u1 g1
  rw [e1, e2, Nat.mul_mod_mul_right]
  refine ⟨⟨fun h => by rw [h, Nat.zero_mul], fun h => ?_⟩, ?_⟩
  · rcases Nat.mul_eq_zero.1 h with h | h
    · exact h
    · omega
  · rw [show (scal n (t - u) (f - g) % scal m (-(t - u)) (-(f - g)) * c * 2) = (scal n (t - u) (f - g) % scal m (-(t - u)) (-(f - g)) * 2) * c by ac_rfl, cmpI_mul _ _ _ hc]

/-- About how many bits 5 to the power f has. -/
def lg5 (f : Int) : Int := (f * 2321928095).tdiv 1000000000
/-- About how many bits a number has ahead of its point. -/
def szx (n : Nat) (t f : Int) : Int := blen n + t + lg5 f
theorem lg5_bd {f : Int} (h1 : -2500 ≤ f) (h2 : f ≤ 2500) : -6000 ≤ lg5 f ∧ lg5 f ≤ 6000 := by
  unfold lg5
  constructor
  · rcases Int.lt_or_le f 0 with h | h
    · rw [← Int.neg_neg (f * 2321928095), Int.neg_tdiv, Int.tdiv_eq_ediv_of_nonneg (by omega)]; omega
    · rw [Int.tdiv_eq_ediv_of_nonneg (by omega)]; omega
  · rcases Int.lt_or_le f 0 with h | h
    · rw [← Int.neg_neg (f * 2321928095), Int.neg_tdiv, Int.tdiv_eq_ediv_of_nonneg (by omega)]; omega
    · rw [Int.tdiv_eq_ediv_of_nonneg (by omega)]; omega

/-- One power of 5 against that estimate. -/
def fiveAt (i : Nat) : Bool := decide (2 ^ (lg5 ((i : Int) - 2500) + 6000).toNat ≤ 5 ^ i * 2 ^ 197) && decide (5 ^ i * 2 ^ 194 < 2 ^ (lg5 ((i : Int) - 2500) + 6000).toNat)
def fiveTo : Nat → Bool
  | 0 => true
  | n + 1 => fiveAt n && fiveTo n
set_option maxRecDepth 100000 in
theorem fiveTo_all : fiveTo 5001 = true := by decide +kernel
theorem fiveTo_at : ∀ (n k : Nat), fiveTo n = true → k < n → fiveAt k = true
  | n + 1, k, h, hk => by
    rw [fiveTo, Bool.and_eq_true] at h
    rcases Nat.lt_or_ge k n with h1 | h1
    · exact fiveTo_at n k h.2 h1
    · obtain rfl : k = n := by omega
      exact h.1
theorem five_bd {f : Int} (h1 : -2500 ≤ f) (h2 : f ≤ 2500) : 2 ^ (lg5 f + 6000).toNat ≤ 5 ^ (f + 2500).toNat * 2 ^ 197 ∧ 5 ^ (f + 2500).toNat * 2 ^ 194 < 2 ^ (lg5 f + 6000).toNat := by
  have h := fiveTo_at 5001 (f + 2500).toNat fiveTo_all (by omega)
  rw [fiveAt, Bool.and_eq_true, decide_eq_true_eq, decide_eq_true_eq, show (((f + 2500).toNat : Nat) : Int) - 2500 = f by omega] at h
  exact h
theorem ex_low {n : Nat} (hn : n ≠ 0) {t f : Int} (t1 : -2500 ≤ t) (f1 : -2500 ≤ f) (f2 : f ≤ 2500) : 2 ^ (szx n t f + 8499).toNat ≤ ex n t f * 2 ^ 197 := by
  have h1 := (five_bd f1 f2).1
  have h2 := blen_ge hn
  have hp := blen_pos hn
  have hb := lg5_bd f1 f2
  have e : (szx n t f + 8499).toNat = (blen n - 1) + (t + 2500).toNat + (lg5 f + 6000).toNat := by unfold szx; omega
  rw [e, Nat.pow_add, Nat.pow_add]
  unfold ex
  rw [Nat.mul_assoc (n * 2 ^ (t + 2500).toNat)]
  exact Nat.mul_le_mul (Nat.mul_le_mul_right _ h2) h1
theorem ex_high (n : Nat) {t f : Int} (t1 : -2500 ≤ t) (f1 : -2500 ≤ f) (f2 : f ≤ 2500) : ex n t f * 2 ^ 194 < 2 ^ (szx n t f + 8500).toNat := by
  have h1 := (five_bd f1 f2).2
  have h2 := blen_lt n
  have hb := lg5_bd f1 f2
  have e : (szx n t f + 8500).toNat = blen n + (t + 2500).toNat + (lg5 f + 6000).toNat := by unfold szx; omega
  rw [e, Nat.pow_add, Nat.pow_add]
  unfold ex
  rw [Nat.mul_assoc (n * 2 ^ (t + 2500).toNat)]
  refine Nat.lt_of_le_of_lt (Nat.mul_le_mul_right _ (Nat.mul_le_mul_right _ (Nat.le_of_lt h2))) (Nat.mul_lt_mul_of_pos_left h1 (Nat.mul_pos (Nat.two_pow_pos _) (Nat.two_pow_pos _)))
/-- A size that is greater by more than 6 tells the greater number. -/
theorem far_lt {n m : Nat} (hn : n ≠ 0) {t f u g : Int} (t1 : -2500 ≤ t) (f1 : -2500 ≤ f) (f2 : f ≤ 2500) (u1 : -2500 ≤ u) (g1 : -2500 ≤ g) (g2 : g ≤ 2500) (h : 6 < szx n t f - szx m u g) : ex m u g < ex n t f := by
  have h1 := ex_low hn t1 f1 f2
  have h2 := ex_high m u1 g1 g2
  have h3 : 2 ^ (szx m u g + 8500).toNat * 2 ^ 3 ≤ 2 ^ (szx n t f + 8499).toNat := by
    rw [← Nat.pow_add]
    refine Nat.pow_le_pow_right (by omega) ?_
    have hb := lg5_bd f1 f2
    have hc := lg5_bd g1 g2
    unfold szx at *
    omega
  have h4 : ex m u g * 2 ^ 197 < ex n t f * 2 ^ 197 := by
    have e : ex m u g * 2 ^ 197 = ex m u g * 2 ^ 194 * 2 ^ 3 := by rw [Nat.mul_assoc, ← Nat.pow_add]
    rw [e]
    exact Nat.lt_of_lt_of_le ((Nat.mul_lt_mul_right (Nat.two_pow_pos 3)).2 h2) (Nat.le_trans h3 h1)
  exact (Nat.mul_lt_mul_right (Nat.two_pow_pos 197)).1 h4
theorem cmpX_gt {a b : Int} (h : b < a) : cmpI a b = 1 := by unfold cmpI; rw [if_neg (by omega), if_pos h]
theorem cmpX_lt {a b : Int} (h : a < b) : cmpI a b = -1 := by unfold cmpI; rw [if_pos h]
/-- Where one of both is 0 the natural numbers tell. -/
theorem cmp_zero (n m : Nat) (t f u g : Int) (h : n = 0 ∨ m = 0) : cmpI (n : Int) (m : Int) = cmpI (ex n t f : Int) (ex m u g : Int) := by
  rcases h with rfl | rfl
  · rw [ex_zero]
    rcases Nat.eq_zero_or_pos m with rfl | hm
    · rw [ex_zero]
    · have := ex_pos (n := m) (by omega) u g
      rw [cmpX_lt (by omega), cmpX_lt (by omega)]
  · rw [ex_zero]
    rcases Nat.eq_zero_or_pos n with rfl | hm
    · rw [ex_zero]
    · have := ex_pos (n := n) (by omega) t f
      rw [cmpX_gt (by omega), cmpX_gt (by omega)]
end Go.Proofs.YtnlpkehllihllaaGreatDoor

/-
  Plain laws of the greatest power of ten that is not above a number.
-/
namespace Go.Proofs.YtnlpkehllihllaaGreatDoor
open Go.RowKit Go.Sort

/-- Where the search for the power begins. -/
def lgAt (s : Int) : Int := if 0 ≤ ((s + 6) * 30103).tdiv 100000 then ((s + 6) * 30103).tdiv 100000 + 1 else ((s + 6) * 30103).tdiv 100000
/-- That power of 5, under a name. -/
def five25 : Nat := 5 ^ ((0 : Int) + 2500).toNat
theorem ex_five (x : Nat) (t : Int) : ex x t 0 = x * 2 ^ (t + 2500).toNat * five25 := rfl
theorem five25_pos : 0 < five25 := Nat.pow_pos (by decide)
def lgTest (i : Nat) : Bool := decide (2 ^ i * five25 ≤ 10 ^ (lgAt ((i : Int) - 2500) + 2501).toNat) && decide (-420 ≤ lgAt ((i : Int) - 2500)) && decide (lgAt ((i : Int) - 2500) ≤ 420)
def allTo (p : Nat → Bool) : Nat → Bool
  | 0 => true
  | n + 1 => p n && allTo p n
theorem allTo_at (p : Nat → Bool) : ∀ (n k : Nat), allTo p n = true → k < n → p k = true
  | n + 1, k, h, hk => by
    rw [allTo, Bool.and_eq_true] at h
    rcases Nat.lt_or_ge k n with h1 | h1
    · exact allTo_at p n k h.2 h1
    · obtain rfl : k = n := by omega
      exact h.1
set_option maxRecDepth 100000 in
theorem lgTo_all : allTo (fun n => lgTest (n + 1100)) 2780 = true := by decide +kernel
theorem lgTo_at {k : Nat} (h : k < 2780) : lgTest (k + 1100) = true := allTo_at (fun n => lgTest (n + 1100)) 2780 k lgTo_all h
theorem ex_ten (k : Int) : ex 1 k k = 10 ^ (k + 2500).toNat := by unfold ex; rw [Nat.one_mul, ← Nat.mul_pow]
theorem ten_le {j k : Int} (h : j ≤ k) : ex 1 j j ≤ ex 1 k k := by
  rw [ex_ten, ex_ten]
  exact Nat.pow_le_pow_right (by omega) (by omega)
theorem lg_start {x : Nat} {t : Int} (h1 : -1400 ≤ (blen x : Int) + t) (h2 : (blen x : Int) + t ≤ 1370) (t1 : -2500 ≤ t) :
    -420 ≤ lgAt ((blen x : Int) + t) ∧ lgAt ((blen x : Int) + t) ≤ 420 ∧ ex x t 0 < ex 1 (lgAt ((blen x : Int) + t) + 1) (lgAt ((blen x : Int) + t) + 1) := by
  have e1 : (((((blen x : Int) + t + 1400).toNat + 1100 : Nat) : Int) - 2500) = (blen x : Int) + t := by omega
  have e2 : lgAt ((blen x : Int) + t) + 1 + 2500 = lgAt ((blen x : Int) + t) + 2501 := by omega
  have e3 : ((blen x : Int) + t + 1400).toNat + 1100 = blen x + (t + 2500).toNat := by omega
  have h := lgTo_at (k := ((blen x : Int) + t + 1400).toNat) (by omega)
  rw [lgTest, Bool.and_eq_true, Bool.and_eq_true, decide_eq_true_eq, decide_eq_true_eq, decide_eq_true_eq, e1] at h
  refine ⟨h.1.2, h.2, ?_⟩
  rw [ex_ten, e2]
  refine Nat.lt_of_lt_of_le ?_ h.1.1
  rw [ex_five, e3, Nat.pow_add]
  exact Nat.mul_lt_mul_of_pos_right (Nat.mul_lt_mul_of_pos_right (blen_lt x) (Nat.two_pow_pos _)) five25_pos
theorem lg_end : ex 1 (-430) (-430) ≤ ex 1 (-1400) 0 := by decide +kernel
theorem lg_floor {x : Nat} {t : Int} (hx : x ≠ 0) (t1 : -1400 ≤ t) : ex 1 (-430) (-430) ≤ ex x t 0 := by
  refine Nat.le_trans lg_end ?_
  unfold ex
  exact Nat.mul_le_mul_right _ (Nat.mul_le_mul (by omega) (Nat.pow_le_pow_right (by omega) (by omega)))
/-- The power is one alone. -/
theorem lg_one {X : Nat} {j k : Int} (h1 : ex 1 j j ≤ X) (h2 : X < ex 1 (j + 1) (j + 1)) (h3 : ex 1 k k ≤ X) (h4 : X < ex 1 (k + 1) (k + 1)) : j = k := by
  rcases Int.lt_trichotomy j k with h | h | h
  · have := ten_le (show j + 1 ≤ k by omega); omega
  · exact h
  · have := ten_le (show k + 1 ≤ j by omega); omega
end Go.Proofs.YtnlpkehllihllaaGreatDoor
