/-
  A part of the proofs that calipertop.TopBack, TopFloats and TopNearest return true for every input and leave it as it was: part 6 of 47.
-/
import Derived.Test.YtnlpkehllihllaaGreatDoorGt04
import Derived.Test.YtnlpkehllihllaaGreatDoorGt01
import Derived.Deep.DeepCutAuto
import Derived.Deep.CutBlock
import Derived.Deep.QuietTactic
import Derived.BigQuiet
import Derived.Test.YtnlpkehllihllaaGreatDoorGt05
import Derived.Deep.RegionHeld3
/-
  The walk of math/bits.Div64.
-/
namespace Go.Proofs.YtnlpkehllihllaaGreatDoor
open Go.RowKit

theorem lz64_any (x : Nat) (w : World) (hx : x < 18446744073709551616) : Calls Tryz.prog 106 #[.int .u64 x] w fun e w' => e = .returned (.int .i64 ((64 - blen x : Nat) : Int)) ∧ w = w' :=
  (Tryz.bits_LeadingZeros64 x w (by omega) (by omega)).mono fun e w' ⟨h1, h2⟩ => ⟨by
    have := blen_le64 hx
    rw [h1, Int.toNat_natCast, lib_bitLen x hx]
    exact ret_int (by omega), h2.symm⟩

/-- The two words shifted, so that the divisor's highest bit stands at its place. -/
theorem div_norm (hi lo y s Y : Nat) (hh : hi < y) (hl : lo < 18446744073709551616) (hs : s < 64) (eY : Y = y * 2 ^ s) (hY : Y < 18446744073709551616) :
    ∃ U T : Nat, U < Y ∧ T < 18446744073709551616 ∧ bits .or .u64 (IntKind.u64.wrap ((hi : Int) * 2 ^ s)) ((lo : Int) / 2 ^ (64 - s)) = (U : Int) ∧ IntKind.u64.wrap ((lo : Int) * 2 ^ s) = (T : Int) ∧
      U * 18446744073709551616 + T = (hi * 18446744073709551616 + lo) * 2 ^ s := by
  have hp := pow_split (r := s) (by omega)
  have hp0 : 0 < 2 ^ s := Nat.two_pow_pos s
  have hq0 : 0 < 2 ^ (64 - s) := Nat.two_pow_pos _
  have hl2 : lo / 2 ^ (64 - s) < 2 ^ s := by rw [Nat.div_lt_iff_lt_mul hq0, hp]; exact hl
  have hs64 := pow_lt64 hs
  have h1 : (hi + 1) * 2 ^ s ≤ y * 2 ^ s := Nat.mul_le_mul_right _ hh
  rw [← eY, Nat.add_mul, Nat.one_mul] at h1
  have e0 : (hi : Int) * 2 ^ s = ((hi * 2 ^ s : Nat) : Int) := by rw [Int.natCast_mul, Int.natCast_pow]; rfl
  have e1 : (lo : Int) * 2 ^ s = ((lo * 2 ^ s : Nat) : Int) := by rw [Int.natCast_mul, Int.natCast_pow]; rfl
  have e2 : (lo : Int) / 2 ^ (64 - s) = ((lo / 2 ^ (64 - s) : Nat) : Int) := by
    rw [show ((2 : Int) ^ (64 - s)) = ((2 ^ (64 - s) : Nat) : Int) from by rw [Int.natCast_pow]; rfl]; exact (Int.natCast_ediv _ _).symm
  have e3 : lo * 2 ^ s = 18446744073709551616 * (lo / 2 ^ (64 - s)) + 2 ^ s * (lo % 2 ^ (64 - s)) := by
    have := Nat.div_add_mod lo (2 ^ (64 - s))
    rw [← hp, Nat.mul_assoc, ← Nat.mul_add, this, Nat.mul_comm]
  have hm : 2 ^ s * (lo % 2 ^ (64 - s)) < 18446744073709551616 := by
    rw [← hp]; exact Nat.mul_lt_mul_of_pos_left (Nat.mod_lt _ hq0) hp0
  refine ⟨hi * 2 ^ s + lo / 2 ^ (64 - s), 2 ^ s * (lo % 2 ^ (64 - s)), by omega, hm, ?_, ?_, ?_⟩
  · rw [e0, e2, Mul64.wrapN _ (by omega), u64_or_nat _ _ (by omega) (by omega), Nat.mul_comm hi, ← Nat.two_pow_add_eq_or_of_lt hl2]
  · rw [e1, e3, Mul64.wrapM]; omega
  · rw [Nat.add_mul, Nat.add_mul, e3, Nat.mul_right_comm]; omega

theorem wrap_rem {U v Y Q : Nat} (hQ : Q = (U * 4294967296 + v) / Y) (hYp : 0 < Y) (hY : Y < 18446744073709551616) :
    IntKind.u64.wrap (IntKind.u64.wrap (IntKind.u64.wrap ((U : Int) * 4294967296) + (v : Int)) - IntKind.u64.wrap ((Q : Int) * (Y : Int))) = (((U * 4294967296 + v) % Y : Nat) : Int) := by
  have hd := Nat.div_add_mod (U * 4294967296 + v) Y
  have hm := Nat.mod_lt (U * 4294967296 + v) hYp
  rw [← hQ] at hd
  rw [← Int.natCast_mul Q Y, Nat.mul_comm Q Y]
  generalize Y * Q = P at *
  generalize (U * 4294967296 + v) % Y = R at *
  simp only [IntKind.wrap_u64]
  omega
theorem div_shift (N y s : Nat) : N * 2 ^ s / (y * 2 ^ s) = N / y ∧ N * 2 ^ s % (y * 2 ^ s) = N % y * 2 ^ s :=
  ⟨Nat.mul_div_mul_right _ _ (Nat.two_pow_pos s), Nat.mul_mod_mul_right _ _ _⟩
theorem ret_two {a a' b b' : Int} {k : IntKind} (h1 : a = a') (h2 : b = b') : Ending.returned (.tuple #[.int k a, .int k b]) = .returned (.tuple #[.int k a', .int k b']) := by rw [h1, h2]
/-- How often a word goes into two; what is left. -/
def quoN (hi lo y : Nat) : Nat := (hi * 18446744073709551616 + lo) / y
def remN (hi lo y : Nat) : Nat := (hi * 18446744073709551616 + lo) % y

theorem quoN_lt {hi lo y : Nat} (h : hi < y ∧ lo < 18446744073709551616) : quoN hi lo y < 18446744073709551616 := by
  unfold quoN
  rw [Nat.div_lt_iff_lt_mul (by omega)]
  have : (hi + 1) * 18446744073709551616 ≤ y * 18446744073709551616 := Nat.mul_le_mul_right _ h.1
  omega
theorem remN_lt {hi lo y : Nat} (h : hi < y) : remN hi lo y < y := Nat.mod_lt _ (by omega)

theorem div_end {hi lo y s Y U T v t0 Q1 R1 Q0 R0 : Nat} (hN : U * 18446744073709551616 + T = (hi * 18446744073709551616 + lo) * 2 ^ s) (hT : T = v * 4294967296 + t0) (hY : Y = y * 2 ^ s) (hYp : 0 < Y)
    (hQ1 : Q1 = (U * 4294967296 + v) / Y) (hR1 : R1 = (U * 4294967296 + v) % Y) (hQ0 : Q0 = (R1 * 4294967296 + t0) / Y) (hR0 : R0 = (R1 * 4294967296 + t0) % Y) :
    (Q1 : Int) * 4294967296 + (Q0 : Int) = (quoN hi lo y : Int) ∧ (R0 : Int) / 2 ^ s = (remN hi lo y : Int) := by
  obtain ⟨e1, e2⟩ := div_two ((hi * 18446744073709551616 + lo) * 2 ^ s) Y hYp U v t0 (by rw [← hN, hT]; omega)
  rw [← hQ1, ← hR1, ← hQ0, hY, (div_shift _ y s).1] at e1
  rw [← hR1, ← hR0, hY, (div_shift _ y s).2] at e2
  refine ⟨?_, ?_⟩
  · unfold quoN; rw [e1]; omega
  · rw [show ((2 : Int) ^ s) = ((2 ^ s : Nat) : Int) from by rw [Int.natCast_pow]; rfl]
    rw [← Int.natCast_ediv, ← e2, Nat.mul_div_cancel _ (Nat.two_pow_pos s)]
    rfl

set_option maxHeartbeats 1600000 in
set_option maxRecDepth 100000 in
/-- math/bits.Div64: how often, and what is left. -/
theorem div64_any (hi lo y : Nat) (w : World) (hh : hi < y) (hl : lo < 18446744073709551616) (hy : y < 18446744073709551616) :
    Calls Tryz.prog 80 #[.int .u64 hi, .int .u64 lo, .int .u64 y] w fun e w' => e = .returned (.tuple #[.int .u64 (quoN hi lo y : Int), .int .u64 (remN hi lo y : Int)]) ∧ ∃ n, w' = w.drewN n := by
  have ty : ((y : Int) == 0) = false := by rw [beq_eq_false_iff_ne]; omega
  have tl : decide ((y : Int) ≤ (hi : Int)) = false := by simp; omega
  by_cases h0 : hi = 0
  · subst h0
    have h9 := And.intro hh hl
    have e1 : (lo : Int) / (y : Int) = (quoN 0 lo y : Int) := by unfold quoN; rw [Nat.zero_mul, Nat.zero_add]; exact (Int.natCast_ediv _ _).symm
    have e2 : (lo : Int) % (y : Int) = (remN 0 lo y : Int) := by unfold remN; rw [Nat.zero_mul, Nat.zero_add]; exact (Int.natCast_emod _ _).symm
    have E1 := Lib.hid e1
    have E2 := Lib.hid e2
    clear e1 e2
    go_enter Tryz.func80, Tryz.ntmps80
    go_wp2
    go_quiet (fail)
    go_wp2
    go_ret2
    exact ⟨ret_two (by rw [E1.out]; exact Mul64.wrapN _ (quoN_lt h9)) E2.out, _, rfl⟩
  · have th : ((hi : Int) == 0) = false := by rw [beq_eq_false_iff_ne]; omega
    obtain ⟨hb, hY, hY'⟩ := norm_shift (y := y) (by omega) hy
    obtain ⟨s, hs⟩ : ∃ s, s = 64 - blen y := ⟨_, rfl⟩
    rw [← hs] at hY hY'
    have hs64 : s < 64 := by
      have : 0 < blen y := by rw [blen_pos (by omega)]; omega
      omega
    obtain ⟨Y, eY⟩ : ∃ Y, Y = y * 2 ^ s := ⟨_, rfl⟩
    rw [← eY] at hY hY'
    have f1 : IntKind.u64.wrap ((y : Int) * 2 ^ s) = (Y : Int) := by
      rw [show (y : Int) * 2 ^ s = ((y * 2 ^ s : Nat) : Int) from by rw [Int.natCast_mul, Int.natCast_pow]; rfl, ← eY]
      exact Mul64.wrapN Y hY
    have Hs := Lib.hid hs
    have HY := Lib.hid eY
    clear hs eY
    obtain ⟨U, T, hU, hT, f2, f3, hN⟩ := div_norm hi lo y s Y hh hl hs64 HY.out hY
    obtain ⟨yn1, hyn1⟩ : ∃ a, a = Y / 4294967296 := ⟨_, rfl⟩
    obtain ⟨yn0, hyn0⟩ : ∃ a, a = Y % 4294967296 := ⟨_, rfl⟩
    obtain ⟨v, hv⟩ : ∃ a, a = T / 4294967296 := ⟨_, rfl⟩
    obtain ⟨t0, ht0⟩ : ∃ a, a = T % 4294967296 := ⟨_, rfl⟩
    have f4 : (Y : Int) / 4294967296 = (yn1 : Int) := by omega
    have f5 : bits .and .u64 (Y : Int) 4294967295 = (yn0 : Int) := by rw [Mul64.maskN Y hY, ← hyn0]
    have f6 : (T : Int) / 4294967296 = (v : Int) := by omega
    have f7 : bits .and .u64 (T : Int) 4294967295 = (t0 : Int) := by rw [Mul64.maskN T hT, ← ht0]
    have b1 : 2147483648 ≤ yn1 := by omega
    have b2 : yn1 < 4294967296 := by omega
    have b3 : yn0 < 4294967296 := by omega
    have b4 : v < 4294967296 := by omega
    have b5 : t0 < 4294967296 := by omega
    have eY2 : Y = yn1 * 4294967296 + yn0 := by omega
    have eT2 : T = v * 4294967296 + t0 := by omega
    have HY2 := Lib.hid eY2
    have HT2 := Lib.hid eT2
    have HN := Lib.hid hN
    clear hyn1 hyn0 hv ht0 eY2 eT2 hN
    -- the first digit
    obtain ⟨g1, g2, g3⟩ := est_start (v := v) HY2.out b1 b3 hU b4
    obtain ⟨q, hq⟩ : ∃ a, a = U / yn1 := ⟨_, rfl⟩
    obtain ⟨r, hr⟩ : ∃ a, a = U % yn1 := ⟨_, rfl⟩
    have hqr : q * yn1 + r = U := by rw [hq, hr, Nat.mul_comm]; exact Nat.div_add_mod _ _
    have hr0 : r < 4294967296 := by have := Nat.mod_lt U (show 0 < yn1 by omega); omega
    rw [← hq] at g1 g2
    have f8 : (U : Int) / (yn1 : Int) = (q : Int) := by rw [hq]; exact (Int.natCast_ediv _ _).symm
    have c1 : 0 ≤ (q : Int) * (yn1 : Int) := by omega
    have c2 : (q : Int) * (yn1 : Int) ≤ (U : Int) := by have : (((q * yn1 : Nat)) : Int) ≤ (U : Int) := by omega
                                                        rwa [Int.natCast_mul] at this
    have f9 : (U : Int) - (q : Int) * (yn1 : Int) = (r : Int) := by have : (U : Int) - ((q * yn1 : Nat) : Int) = (r : Int) := by omega
                                                                    rwa [Int.natCast_mul] at this
    obtain ⟨Q1, hQ1⟩ : ∃ a, a = (U * 4294967296 + v) / Y := ⟨_, rfl⟩
    have hQh : Q1 < 4294967296 := by rw [hQ1]; exact est_high hU b4
    rw [← hQ1] at g1
    have HQ1 := Lib.hid hQ1
    have Hqr := Lib.hid hqr
    clear hq hr g3 hqr hQ1
    go_enter Tryz.func80, Tryz.ntmps80
    go_upto_block 0 with (go_at_call 106; refine (lz64_any y _ hy).mono ?_; rintro e w' ⟨rfl, rfl⟩; rw [← Hs.out])
    have i3 : (v : Int) < 4294967296 := by omega
    have i4 : (yn1 : Int) < 4294967296 := by omega
    have i8 : (1 : Int) ≤ (yn1 : Int) := by omega
    have hYp : 0 < Y := by omega
    have Hd := Lib.hid (show Q1 ≤ q ∧ q ≤ 4294967297 ∧ r < 4294967296 from ⟨g1, g2, hr0⟩)
    have B := Lib.hid (show yn1 < 4294967296 ∧ yn0 < 4294967296 ∧ Q1 < 4294967296 ∧ v < 4294967296 from ⟨b2, b3, hQh, b4⟩)
    have C := Lib.hid (show 2147483648 ≤ yn1 ∧ t0 < 4294967296 ∧ Y < 18446744073709551616 from ⟨b1, b5, hY⟩)
    clear f1 f2 f3 f4 f5 f6 f7 ty tl th hQh b1 b2 b3 b4 b5 hU hT hY hY' hl hy g1 g2 hr0
    go_cut [15, 16] (fun a b wx => a = .int .u64 Q1 ∧ wx = w)
    case first =>
      go_wp2_with fail
      go_loop [15, 16] (fun a b => ∃ q r : Nat, a = .int .u64 q ∧ b = .int .u64 r ∧ Hid (q * yn1 + r = U) ∧ Hid (Q1 ≤ q ∧ q ≤ 4294967297 ∧ r < 4294967296)) (fun a _ => (intOf a).toNat)
      case atStart => exact ⟨q, r, rfl, rfl, Hqr, Hd⟩
      case round =>
        clear f8 c1 c2 f9 Hqr Hd
        obtain ⟨q', r', rfl, rfl, d1, D⟩ := hrel
        obtain ⟨d2, d3, d4⟩ := D.out
        obtain ⟨b2, b3, hQh, b4⟩ := B.out
        have i2 : (r' : Int) < 4294967296 := by omega
        have i5 : (q' : Int) ≤ 4294967297 := by omega
        by_cases hq : 4294967296 ≤ q'
        · obtain ⟨k, rfl⟩ : ∃ k, q' = k + 1 := ⟨q' - 1, by omega⟩
          have d5 := est_step (by omega) d1.out
          simp only [Nat.add_sub_cancel] at d5
          have D5 := Lib.hid d5
          clear d5
          have tq : decide ((4294967296 : Int) ≤ (k : Int) + 1) = true := by simp; omega
          by_cases hb : 4294967296 ≤ r' + yn1
          · have e := est_under (v := v) HY2.out hYp D5.out (est_break (by omega) b3 hb)
            rw [← HQ1.out] at e
            have e2 : k = Q1 := by omega
            have tb : decide ((4294967296 : Int) ≤ (r' : Int) + (yn1 : Int)) = true := by simp; omega
            clear hb hq d2 d3 d4 hQh b2 b3 b4 e
            subst e2
            go_wp2_with ((with_reducible refine Met.intro ?_); go_step; (repeat apply Exists.intro); refine ⟨?_, rfl⟩; exact ⟨by go_num, rfl⟩)
          · have tb : decide ((4294967296 : Int) ≤ (r' : Int) + (yn1 : Int)) = false := by simp; omega
            have D6 := Lib.hid (show Q1 ≤ k ∧ k ≤ 4294967297 ∧ r' + yn1 < 4294967296 from ⟨by omega, by omega, by omega⟩)
            clear hb hq d2 d3 d4 hQh b2 b3 b4
            go_wp2
            go_round
            case rel => exact ⟨k, r' + yn1, by go_num, by go_num, D5, D6⟩
            case measure => simp [intOf]
        · have p1 := prod32 (Nat.lt_of_not_le hq) b3
          have p2 : (q' : Int) * (yn0 : Int) ≤ 18446744065119617025 := by rw [← Int.natCast_mul]; omega
          have p3 : 0 ≤ (q' : Int) * (yn0 : Int) := by rw [← Int.natCast_mul]; omega
          have tq : decide ((4294967296 : Int) ≤ (q' : Int)) = false := by simp; omega
          by_cases hgt : 4294967296 * r' + v < q' * yn0
          · have tp : decide (4294967296 * (r' : Int) + (v : Int) < (q' : Int) * (yn0 : Int)) = true := by rw [← Int.natCast_mul, decide_eq_true_iff]; omega
            have e := est_over HY2.out hYp d1.out hgt
            rw [← HQ1.out] at e
            have hq0 : 0 < q' := by
              rcases Nat.eq_zero_or_pos q' with h | h
              · subst h; omega
              · exact h
            have d5 := est_step hq0 d1.out
            have D5 := Lib.hid d5
            clear d5 hgt p1
            have i7 : (1 : Int) ≤ (q' : Int) := by omega
            have ek : (q' : Int) - 1 = ((q' - 1 : Nat) : Int) := by omega
            by_cases hb : 4294967296 ≤ r' + yn1
            · have e2 := est_under (v := v) HY2.out hYp D5.out (est_break (by omega) b3 hb)
              rw [← HQ1.out] at e2
              have e3 : q' - 1 = Q1 := by omega
              rw [e3] at ek
              have tb : decide ((4294967296 : Int) ≤ (r' : Int) + (yn1 : Int)) = true := by simp; omega
              clear hb hq d2 d3 d4 hQh b2 b3 b4 e e2 e3
              go_wp2_with ((with_reducible refine Met.intro ?_); go_step; (repeat apply Exists.intro); refine ⟨?_, rfl⟩; exact ⟨by go_num, rfl⟩)
            · have tb : decide ((4294967296 : Int) ≤ (r' : Int) + (yn1 : Int)) = false := by simp; omega
              have D6 := Lib.hid (show Q1 ≤ q' - 1 ∧ q' - 1 ≤ 4294967297 ∧ r' + yn1 < 4294967296 from ⟨by omega, by omega, by omega⟩)
              clear hb hq d2 d3 d4 hQh b2 b3 b4 e
              go_wp2
              go_round
              case rel => exact ⟨q' - 1, r' + yn1, by go_num, by go_num, D5, D6⟩
              case measure => simp [intOf]; omega
          · have tp : decide (4294967296 * (r' : Int) + (v : Int) < (q' : Int) * (yn0 : Int)) = false := by rw [← Int.natCast_mul, decide_eq_false_iff_not]; omega
            have e := est_under (v := v) HY2.out hYp d1.out (Nat.le_of_not_lt hgt)
            rw [← HQ1.out] at e
            have e2 : q' = Q1 := by omega
            clear hgt p1 hq d2 d3 d4 hQh b2 b3 b4 e
            subst e2
            go_wp2_with ((with_reducible refine Met.intro ?_); go_step; (repeat apply Exists.intro); refine ⟨?_, rfl⟩; exact ⟨by go_num, rfl⟩)
    case rest =>
      obtain ⟨rfl, rfl⟩ := hcut
      clear f8 c1 c2 f9 Hqr Hd
      obtain ⟨b1, b5, hY⟩ := C.out
      obtain ⟨b2, b3, hQ1, b4⟩ := B.out
      have iQ1 : (Q1 : Int) < 4294967296 := by omega
      have f10 := wrap_rem HQ1.out hYp hY
      obtain ⟨R1, hR1⟩ : ∃ a, a = (U * 4294967296 + v) % Y := ⟨_, rfl⟩
      have hR : R1 < Y := by rw [hR1]; exact Nat.mod_lt _ hYp
      rw [← hR1] at f10
      have HR1 := Lib.hid hR1
      clear hR1
      obtain ⟨g1, g2, g3⟩ := est_start (v := t0) HY2.out b1 b3 hR b5
      obtain ⟨q, hq⟩ : ∃ a, a = R1 / yn1 := ⟨_, rfl⟩
      obtain ⟨r, hr⟩ : ∃ a, a = R1 % yn1 := ⟨_, rfl⟩
      have hqr : q * yn1 + r = R1 := by rw [hq, hr, Nat.mul_comm]; exact Nat.div_add_mod _ _
      have hr0 : r < 4294967296 := by have := Nat.mod_lt R1 (show 0 < yn1 by omega); omega
      rw [← hq] at g1 g2
      have f8 : (R1 : Int) / (yn1 : Int) = (q : Int) := by rw [hq]; exact (Int.natCast_ediv _ _).symm
      have c1 : 0 ≤ (q : Int) * (yn1 : Int) := by omega
      have c2 : (q : Int) * (yn1 : Int) ≤ (R1 : Int) := by rw [← Int.natCast_mul]; omega
      have f9 : (R1 : Int) - (q : Int) * (yn1 : Int) = (r : Int) := by rw [← Int.natCast_mul]; omega
      obtain ⟨Q0, hQ0⟩ : ∃ a, a = (R1 * 4294967296 + t0) / Y := ⟨_, rfl⟩
      have hQh : Q0 < 4294967296 := by rw [hQ0]; exact est_high hR b5
      rw [← hQ0] at g1
      have HQ0 := Lib.hid hQ0
      have Hqr := Lib.hid hqr
      have Hd := Lib.hid (show Q0 ≤ q ∧ q ≤ 4294967297 ∧ r < 4294967296 from ⟨g1, g2, hr0⟩)
      have iQ0 : (Q0 : Int) < 4294967296 := by omega
      have it0 : (t0 : Int) < 4294967296 := by omega
      have B' := Lib.hid (show yn1 < 4294967296 ∧ yn0 < 4294967296 ∧ Q0 < 4294967296 ∧ t0 < 4294967296 from ⟨b2, b3, hQh, b5⟩)
      have hR64 : (R1 : Int) ≤ 18446744073709551615 := by omega
      have iq : (q : Int) ≤ 4294967297 := by omega
      have f11 := wrap_rem HQ0.out hYp hY
      obtain ⟨R0, hR0⟩ : ∃ a, a = (R1 * 4294967296 + t0) % Y := ⟨_, rfl⟩
      rw [← hR0] at f11
      have HR0 := Lib.hid hR0
      have HF := Lib.hid f11
      clear B hR0 f11 g1 g2 g3 hq hr hqr hr0 hQ0 hQh b1 b2 b3 b4 b5 hY hQ1 hR i3
      go_upto_block 2 with (fail)
      clear f10 hR64
      go_cut [18, 16] (fun a b wx => a = .int .u64 Q0 ∧ wx = wc)
      case first =>
        go_wp2_with fail
        go_loop [18, 16] (fun a b => ∃ q r : Nat, a = .int .u64 q ∧ b = .int .u64 r ∧ Hid (q * yn1 + r = R1) ∧ Hid (Q0 ≤ q ∧ q ≤ 4294967297 ∧ r < 4294967296)) (fun a _ => (intOf a).toNat)
        case atStart => exact ⟨q, r, rfl, rfl, Hqr, Hd⟩
        case round =>
          clear f8 c1 c2 f9 Hqr Hd
          obtain ⟨q', r', rfl, rfl, d1, D⟩ := hrel
          obtain ⟨d2, d3, d4⟩ := D.out
          obtain ⟨b2, b3, hQh, b4⟩ := B'.out
          have i2 : (r' : Int) < 4294967296 := by omega
          have i5 : (q' : Int) ≤ 4294967297 := by omega
          by_cases hq : 4294967296 ≤ q'
          · obtain ⟨k, rfl⟩ : ∃ k, q' = k + 1 := ⟨q' - 1, by omega⟩
            have d5 := est_step (by omega) d1.out
            simp only [Nat.add_sub_cancel] at d5
            have D5 := Lib.hid d5
            clear d5
            have tq : decide ((4294967296 : Int) ≤ (k : Int) + 1) = true := by simp; omega
            by_cases hb : 4294967296 ≤ r' + yn1
            · have e := est_under (v := t0) HY2.out hYp D5.out (est_break (by omega) b3 hb)
              rw [← HQ0.out] at e
              have e2 : k = Q0 := by omega
              have tb : decide ((4294967296 : Int) ≤ (r' : Int) + (yn1 : Int)) = true := by simp; omega
              clear hb hq d2 d3 d4 hQh b2 b3 b4 e
              subst e2
              go_wp2_with ((with_reducible refine Met.intro ?_); go_step; (repeat apply Exists.intro); refine ⟨?_, rfl⟩; exact ⟨by go_num, rfl⟩)
            · have tb : decide ((4294967296 : Int) ≤ (r' : Int) + (yn1 : Int)) = false := by simp; omega
              have D6 := Lib.hid (show Q0 ≤ k ∧ k ≤ 4294967297 ∧ r' + yn1 < 4294967296 from ⟨by omega, by omega, by omega⟩)
              clear hb hq d2 d3 d4 hQh b2 b3 b4
              go_wp2
              go_round
              case rel => exact ⟨k, r' + yn1, by go_num, by go_num, D5, D6⟩
              case measure => simp [intOf]
          · have p1 := prod32 (Nat.lt_of_not_le hq) b3
            have p2 : (q' : Int) * (yn0 : Int) ≤ 18446744065119617025 := by rw [← Int.natCast_mul]; omega
            have p3 : 0 ≤ (q' : Int) * (yn0 : Int) := by rw [← Int.natCast_mul]; omega
            have tq : decide ((4294967296 : Int) ≤ (q' : Int)) = false := by simp; omega
            by_cases hgt : 4294967296 * r' + t0 < q' * yn0
            · have tp : decide (4294967296 * (r' : Int) + (t0 : Int) < (q' : Int) * (yn0 : Int)) = true := by rw [← Int.natCast_mul, decide_eq_true_iff]; omega
              have e := est_over HY2.out hYp d1.out hgt
              rw [← HQ0.out] at e
              have hq0 : 0 < q' := by
                rcases Nat.eq_zero_or_pos q' with h | h
                · subst h; omega
                · exact h
              have d5 := est_step hq0 d1.out
              have D5 := Lib.hid d5
              clear d5 hgt p1
              have i7 : (1 : Int) ≤ (q' : Int) := by omega
              have ek : (q' : Int) - 1 = ((q' - 1 : Nat) : Int) := by omega
              by_cases hb : 4294967296 ≤ r' + yn1
              · have e2 := est_under (v := t0) HY2.out hYp D5.out (est_break (by omega) b3 hb)
                rw [← HQ0.out] at e2
                have e3 : q' - 1 = Q0 := by omega
                rw [e3] at ek
                have tb : decide ((4294967296 : Int) ≤ (r' : Int) + (yn1 : Int)) = true := by simp; omega
                clear hb hq d2 d3 d4 hQh b2 b3 b4 e e2 e3
                go_wp2_with ((with_reducible refine Met.intro ?_); go_step; (repeat apply Exists.intro); refine ⟨?_, rfl⟩; exact ⟨by go_num, rfl⟩)
              · have tb : decide ((4294967296 : Int) ≤ (r' : Int) + (yn1 : Int)) = false := by simp; omega
                have D6 := Lib.hid (show Q0 ≤ q' - 1 ∧ q' - 1 ≤ 4294967297 ∧ r' + yn1 < 4294967296 from ⟨by omega, by omega, by omega⟩)
                clear hb hq d2 d3 d4 hQh b2 b3 b4 e
                go_wp2
                go_round
                case rel => exact ⟨q' - 1, r' + yn1, by go_num, by go_num, D5, D6⟩
                case measure => simp [intOf]; omega
            · have tp : decide (4294967296 * (r' : Int) + (t0 : Int) < (q' : Int) * (yn0 : Int)) = false := by rw [← Int.natCast_mul, decide_eq_false_iff_not]; omega
              have e := est_under (v := t0) HY2.out hYp d1.out (Nat.le_of_not_lt hgt)
              rw [← HQ0.out] at e
              have e2 : q' = Q0 := by omega
              clear hgt p1 hq d2 d3 d4 hQh b2 b3 b4 e
              subst e2
              go_wp2_with ((with_reducible refine Met.intro ?_); go_step; (repeat apply Exists.intro); refine ⟨?_, rfl⟩; exact ⟨by go_num, rfl⟩)
      case rest =>
        obtain ⟨rfl, rfl⟩ := hcut
        have f11 := HF.out
        go_wp2
        go_ret2
        have e := div_end HN.out HT2.out HY.out hYp HQ1.out HR1.out HQ0.out HR0.out
        exact ⟨ret_two e.1 e.2, 0, rfl⟩
end Go.Proofs.YtnlpkehllihllaaGreatDoor

/-
  The walk of nat.digit: one digit of a long division, in place.
-/
namespace Go.Proofs.YtnlpkehllihllaaGreatDoor
open Go.RowKit

set_option maxHeartbeats 3200000 in
set_option maxRecDepth 100000 in
/-- nat.digit: how often v goes into u, of which what is left stays in its place. -/
theorem digit_any (g off c cv m n l bb ob V : Nat) (us : List Nat) (w : World) (hu : OW w g us) (hok : okw us) (hrv : RW w (some ⟨bb, ob, none⟩) (wds V)) (hne : bb ≠ g)
    (hm : lw V = m + 1) (hn : n = m + 1) (hl : l = m + 2) (hL : off + l ≤ us.length) (hsz : us.length ≤ 17592186044416) (hlt : val us < V * bp (off + 1)) :
    Calls Tryz.prog 107 #[.slice (some ⟨g, off, none⟩) l c, .slice (some ⟨bb, ob, none⟩) n cv] w fun e w' =>
      ∃ us' : List Nat, e = .returned (U (val us / (V * bp off))) ∧ OW w' g us' ∧ us'.length = us.length ∧ okw us' ∧ val us' = val us % (V * bp off) ∧ w.grownBy w' (some g) := by
  have hV : V < bp n := by rw [hn, ← hm]; exact lw_lt V
  have hV0 : 0 < V := Nat.pos_of_ne_zero (fun h => by rw [h, lw_zero] at hm; omega)
  obtain ⟨D, hD⟩ : ∃ D, D = V * bp off := ⟨_, rfl⟩
  obtain ⟨V0, hV0'⟩ : ∃ x, x = val us := ⟨_, rfl⟩
  obtain ⟨Q, hQ⟩ : ∃ Q, Q = V0 / D := ⟨_, rfl⟩
  have hD0 : 0 < D := by rw [hD]; exact Nat.mul_pos hV0 (bp_pos _)
  have hltD : V0 < D * 18446744073709551616 := by rw [hV0', hD, Nat.mul_assoc, Nat.mul_comm (bp off), ← bp_succ]; exact hlt
  have hQ64 := guess_top hltD hQ hD0
  have hz : ∀ j, off + l ≤ j → us.getD j 0 = 0 := val_small us (off + l) (by
    refine Nat.lt_trans hlt ?_
    rw [show off + l = n + (off + 1) by omega, bp_add n]
    exact Nat.mul_lt_mul_of_pos_right hV (bp_pos _))
  have hus := val_lt_zero hok hz
  obtain ⟨htop, htop0⟩ := top_word hm
  have hguess := guess_first (V0 := V0) (V := V) (Q := Q) (m := m) (off := off) (by rw [← hD]; exact hQ) htop htop0
  rw [hV0', two_high hok (N := off + m) (Nat.lt_of_lt_of_le hus (bp_mono (by omega)))] at hguess
  have cu1 : w.cell? ⟨g, off + n, none⟩ = some (U (us.getD (off + n) 0)) := hu.cell (by omega)
  have cu0 : w.cell? ⟨g, off + m, none⟩ = some (U (us.getD (off + m) 0)) := hu.cell (by omega)
  have cv1 : w.cell? ⟨bb, ob + m, none⟩ = some (U ((wds V).getD m 0)) := by
    obtain ⟨b, o, e, _, hc⟩ := hrv.at_ (k := m) (by rw [wds_length]; omega)
    cases e
    exact hc m (by rw [wds_length]; omega)
  have hu1 := okw_get hok (off + n)
  have hu0 := okw_get hok (off + m)
  have hv1 := wds_get V m
  rw [show off + m + 1 = off + n by omega] at hguess
  rw [← hV0']
  rw [← hD, ← hQ]
  generalize us.getD (off + n) 0 = u1 at *
  generalize us.getD (off + m) 0 = u0 at *
  generalize (wds V).getD m 0 = v1 at *
  have hnm : (n : Int) - 1 = (m : Int) := by omega
  have hml : m < n := by omega
  have hnl : n < l := by omega
  have Hguess := Lib.hid hguess
  have Hlt := Lib.hid hltD
  have Hus := Lib.hid hus
  have Hok := Lib.hid hok
  have Hz := Lib.hid hz
  have HD := Lib.hid hD
  have HQ := Lib.hid hQ
  have HV := Lib.hid hV
  have HV0 := Lib.hid hV0'
  have Hm := Lib.hid hm
  have Hn := Lib.hid hn
  have Hl := Lib.hid hl
  clear hguess hltD hus hok hz hD hQ hV hV0' hm hn hl htop hlt
  go_enter Tryz.func107, Tryz.ntmps107
  go_wp2_with fail
  go_step3
  go_wp2_with fail
  go_quiet (fail)
  go_upto_if 25 with (fail)
  go_cut [6] from 26 to 43 (fun s wx => ∃ gs nq : Nat, s = .int .u64 gs ∧ Q ≤ gs ∧ gs < 18446744073709551616 ∧ wx = w.drewN nq)
  case first =>
    by_cases hlt : u1 < v1
    · have t1 : decide ((u1 : Int) < (v1 : Int)) = true := by simp; omega
      have t2 : decide (u1 < v1) = true := by simp; omega
      have hq := quoN_lt (hi := u1) (lo := u0) (y := v1) ⟨hlt, hu0⟩
      have hg : Q ≤ quoN u1 u0 v1 := Hguess.out
      have Hd := Lib.hid (fun W => div64_any u1 u0 v1 W hlt hu0 hv1)
      obtain ⟨G, hG⟩ : ∃ G, G = quoN u1 u0 v1 := ⟨_, rfl⟩
      rw [← hG] at hq hg Hd
      clear hG
      obtain ⟨w1, hw1⟩ : ∃ w1, w1 = w.drewN nq := ⟨_, rfl⟩
      have cu1' : w1.cell? ⟨g, off + n, none⟩ = some (U u1) := by rw [hw1]; exact cu1
      have cu0' : w1.cell? ⟨g, off + m, none⟩ = some (U u0) := by rw [hw1]; exact cu0
      have cv1' : w1.cell? ⟨bb, ob + m, none⟩ = some (U v1) := by rw [hw1]; exact cv1
      rw [← hw1]
      have Hw1 := Lib.hid hw1
      clear hw1 cu1 cu0 cv1
      go_wp2_with fail
      go_quiet ((go_at_call 80; exact Calls.quiet_of (Hd.out _)))
      go_wp2_with fail
      go_meet
      exact ⟨G, _, rfl, hg, hq, (congrArg (fun x => World.drewN x _) Hw1.out).trans (World.drewN_drewN _ _ _)⟩
    · have t1 : decide ((u1 : Int) < (v1 : Int)) = false := by simp; omega
      have t2 : decide (u1 < v1) = false := by simp; omega
      go_wp2_with fail
      go_meet
      exact ⟨18446744073709551615, _, rfl, hQ64, by omega, rfl⟩
  case rest =>
    obtain ⟨gs, nq', rfl, hgs, hgs64, hwx⟩ := hcut
    have hu' : OW wc g us := by rw [hwx]; exact hu
    have hrv' : RW wc (some ⟨bb, ob, none⟩) (wds V) := by rw [hwx]; exact hrv
    have hgr : w.grownBy wc (some g) := by rw [hwx]; exact grown_drewN (grown_refl _ _) _
    clear hwx hu hrv cu1 cu0 cv1 hu1 hu0 hv1 hnm hml
    have hVn := HV
    have HV := Lib.hid hrv'
    have HO := Lib.hid hu'
    have HG := Lib.hid hgr
    have HVal := Lib.hid (show val us + gs * val ((wds V).take 0) * bp off = V0 + (0 + 0) * bp (off + 0) by rw [HV0.out, List.take_zero, val_nil]; simp)
    clear hrv' hu' hgr
    go_wp2_with fail
    go_loopw [7, 8, 46] (fun b cr i wr => ∃ (k bn cn : Nat) (o : List Nat), k ≤ l ∧ i = .int .i64 k ∧ b = .int .u64 bn ∧ cr = .int .u64 cn ∧ bn ≤ 1 ∧ cn < 18446744073709551616 ∧ Hid (OW wr g o) ∧ Hid (o.length = us.length) ∧ Hid (okw o) ∧
        Hid (∀ j, off + l ≤ j → o.getD j 0 = 0) ∧ Hid (val o + gs * val ((wds V).take k) * bp off = V0 + (cn + bn) * bp (off + k)) ∧ Hid (cn * bp k ≤ gs * val ((wds V).take k)) ∧ Hid (RW wr (some ⟨bb, ob, none⟩) (wds V)) ∧ Hid (w.grownBy wr (some g)))
      (fun _ _ i _ => l - (intOf i).toNat)
    case atStart => exact ⟨0, 0, 0, us, Nat.zero_le _, rfl, rfl, rfl, by omega, by omega, HO, rfl, Hok, Hz, HVal, Lib.hid (by simp), HV, HG⟩
    case round =>
      obtain ⟨k, bn, cn, o, hk, rfl, rfl, rfl, hbn, hcn, ho1, ho2, ho3, ho4, ho5, ho6, ho7, ho8⟩ := hrel
      by_cases hlt : k < l
      · have hol : off + k < o.length := by have := ho2.out; omega
        have hco : wr.cell? ⟨g, off + k, none⟩ = some (U (o.getD (off + k) 0)) := ho1.out.cell hol
        have hfo : wr.frozen? ⟨g, off + k, none⟩ = false := ho1.out.frozen _
        have how := okw_get ho3.out (off + k)
        obtain ⟨oi, hoi⟩ : ∃ oi : Nat, oi = o.getD (off + k) 0 := ⟨_, rfl⟩
        rw [← hoi] at hco how
        have hvw := wds_get V k
        have hg := fun W (h : RW W (some ⟨bb, ob, none⟩) (wds V)) => at_any (some ⟨bb, ob, none⟩) n cv (wds V) (k : Int) W h (by rw [wds_length, Hm.out, Hn.out]) (by omega) (by omega)
        rw [Int.toNat_natCast] at hg
        obtain ⟨vi, hvi⟩ : ∃ vi : Nat, vi = (wds V).getD k 0 := ⟨_, rfl⟩
        rw [← hvi] at hvw hg
        obtain ⟨t, d, b, ht, hd, hb, e1, e2, et, ed, eb, b1, b2, b3⟩ := dig_word gs vi cn oi bn hgs64 hvw hcn how hbn
        have ha1 := fun W => run_add64' (mullI gs vi) cn 0 b1 (by omega) (by omega) (by omega) W
        have ha2 := fun W => run_sub64' oi (sumI (mullI gs vi) cn 0) bn (by omega) b2 (by omega) (by omega) b3 W
        rw [et, eb] at ha2
        have hval := dig_sub o off k gs cn bn t d b V0 (wds V) hol ho5.out (by rw [← hvi, ← hoi]; exact e1)
        have hcar := dig_carry (d := d) ho6.out (by rw [← hvi]; exact e2)
        have Hval := Lib.hid hval
        have Hcar := Lib.hid hcar
        have Hed := Lib.hid ed
        have Hg := Lib.hid hg
        have hol' := Lib.hid hol
        clear hval hcar ed hg hoi hvi e1 e2 et eb hol
        go_wp2_with (first
          | (go_at_call 28; refine (Hg.out _ ho7.out).mono ?_; rintro e w' ⟨rfl, rfl⟩)
          | (go_at_call 92; refine (mul64_any _ _ (by omega) (by omega) (by omega) (by omega) _).mono ?_; rintro e w' ⟨rfl, rfl⟩))
        go_roundw
        case rel =>
          refine ⟨k + 1, b, d, o.set (off + k) t, by omega, by go_num, rfl, ?_, hb, hd, ho1.out.set_ _ _, Lib.hid (by rw [List.length_set]; exact ho2.out), okw_set ho3.out _ _ ht, Lib.hid fun j hj => ?_, Hval, Hcar, Lib.hid ?_, Lib.hid ?_⟩
          · exact congrArg (Value.int .u64) ((congrArg IntKind.u64.wrap Hed.out).trans (Mul64.wrapN d hd))
          · rw [set_ne (by omega)]; exact ho4.out j hj
          · exact ho7.out.grown (grown_set (grown_refl _ _) _ _) hne
          · exact grown_set ho8.out _ _
        case measure => simp [intOf]; omega
      · obtain rfl : k = l := by omega
        have hval : val o + gs * D = V0 + bn * bp (off + k) := by
          have e1 : k = n + 1 := by have := Hn.out; have := Hl.out; omega
          have e2 : (wds V).take k = wds V := List.take_of_length_le (by rw [wds_length, Hm.out]; have := Hl.out; omega)
          have h5 := ho5.out
          have h6 := ho6.out
          rw [e2, val_wds] at h5 h6
          rw [HD.out, e1]
          rw [e1] at h5 h6
          exact dig_end h5 h6 hgs64 hVn.out
        have Hval := Lib.hid hval
        clear hval
        obtain ⟨P, hP⟩ : ∃ P, P = bp (off + k) := ⟨_, rfl⟩
        rw [← hP] at Hval
        have HP := Lib.hid hP
        clear hP ho5 ho6
        go_wp2_with fail
        go_step3
        go_wp2_with fail
        go_loopw [6, 7] (fun gv bv wr => ∃ (G b : Nat) (o : List Nat), gv = .int .u64 G ∧ bv = .int .u64 b ∧ b ≤ 1 ∧ Q ≤ G ∧ G < 18446744073709551616 ∧ Hid (OW wr g o) ∧ Hid (o.length = us.length) ∧ Hid (okw o) ∧
            Hid (∀ j, off + k ≤ j → o.getD j 0 = 0) ∧ Hid (val o + G * D = V0 + b * P) ∧ Hid (RW wr (some ⟨bb, ob, none⟩) (wds V)) ∧ Hid (w.grownBy wr (some g)))
          (fun gv _ _ => (intOf gv).toNat)
        case atStart => exact ⟨gs, bn, o, rfl, rfl, hbn, hgs, hgs64, ho1, ho2, ho3, ho4, Hval, ho7, ho8⟩
        case round =>
          clear Hval ho1 ho2 ho3 ho4 ho7 ho8 hgs hgs64 hbn hcn hlt
          rename_i wr0 gv bv wr
          obtain ⟨G, b, o, rfl, rfl, hb, hQG, hG64, ho1, ho2, ho3, ho4, ho5, ho7, ho8⟩ := hrel
          by_cases hb0 : b = 0
          · subst hb0
            have h5 := ho5.out
            rw [Nat.zero_mul, Nat.add_zero] at h5
            obtain ⟨e1, e2⟩ := guess_right h5 HQ.out hD0 hQG
            have e3 : val o = V0 % D := by
              have h3 := Nat.div_add_mod V0 D
              rw [← HQ.out, ← e1, Nat.mul_comm D] at h3
              omega
            have E1 := Lib.hid e1
            have E3 := Lib.hid e3
            clear e1 e2 e3 h5
            go_wp2_with fail
            rw [Exit.noGoto_ret]
            go_ret
            rw [E1.out]
            exact ⟨o, rfl, ho1.out, ho2.out, ho3.out, E3.out, ho8.out⟩
          · obtain rfl : b = 1 := by omega
            have ub := val_lt_zero ho3.out ho4.out
            rw [← HP.out] at ub
            have h5 := ho5.out
            rw [Nat.one_mul] at h5
            have hover := guess_over h5 ub HQ.out hD0
            obtain ⟨G1, hG1⟩ : ∃ G1, G1 = G - 1 := ⟨_, rfl⟩
            have eG : (G : Int) - 1 = (G1 : Int) := by omega
            have iG : (1 : Int) ≤ (G : Int) := by omega
            have hQ1 : Q ≤ G1 := by omega
            have hG1l : G1 < G := by omega
            have HG1 := Lib.hid hG1
            have H5 := Lib.hid h5
            clear h5 ub hover hG1
            obtain ⟨wo, rfl⟩ : ∃ wo : World, wo = wr := ⟨_, rfl⟩
            go_wp2_with fail
            go_loopw [8, 86] (fun cr i wr => ∃ (j cn : Nat) (o' : List Nat), j ≤ k ∧ i = .int .i64 j ∧ cr = .int .u64 cn ∧ cn ≤ 1 ∧ Hid (OW wr g o') ∧ Hid (o'.length = us.length) ∧ Hid (okw o') ∧
                Hid (∀ j, off + k ≤ j → o'.getD j 0 = 0) ∧ Hid (val o' + cn * bp (off + j) = val o + val ((wds V).take j) * bp off) ∧ Hid (RW wr (some ⟨bb, ob, none⟩) (wds V)) ∧ Hid (w.grownBy wr (some g)))
              (fun _ i _ => k - (intOf i).toNat)
            case atStart => exact ⟨0, 0, o, Nat.zero_le _, rfl, rfl, by omega, ho1, ho2, ho3, ho4, Lib.hid (by simp [val]), ho7, ho8⟩
            case round =>
              obtain ⟨j, cn, o', hj, rfl, rfl, hcn, hp1, hp2, hp3, hp4, hp5, hp7, hp8⟩ := hrel
              rename_i wr
              by_cases hlt : j < k
              · have hol : off + j < o'.length := by have := hp2.out; omega
                have hco : wr.cell? ⟨g, off + j, none⟩ = some (U (o'.getD (off + j) 0)) := hp1.out.cell hol
                have hfo : wr.frozen? ⟨g, off + j, none⟩ = false := hp1.out.frozen _
                have how := okw_get hp3.out (off + j)
                obtain ⟨oi, hoi⟩ : ∃ oi : Nat, oi = o'.getD (off + j) 0 := ⟨_, rfl⟩
                rw [← hoi] at hco how
                have hvw := wds_get V j
                have hg := fun W (h : RW W (some ⟨bb, ob, none⟩) (wds V)) => at_any (some ⟨bb, ob, none⟩) n cv (wds V) (j : Int) W h (by rw [wds_length, Hm.out, Hn.out]) (by omega) (by omega)
                rw [Int.toNat_natCast] at hg
                obtain ⟨vi, hvi⟩ : ∃ vi : Nat, vi = (wds V).getD j 0 := ⟨_, rfl⟩
                rw [← hvi] at hvw hg
                obtain ⟨t, d, ht, hd, e1, et, ed⟩ := back_word oi vi cn how hvw hcn
                have ha1 := fun W => run_add64' oi vi cn (by omega) (by omega) (by omega) (by omega) W
                rw [et, ed] at ha1
                have hval := back_add o' off j cn t d (val o) (wds V) hol hp5.out (by rw [← hvi, ← hoi]; exact e1)
                have Hval := Lib.hid hval
                have Hg := Lib.hid hg
                clear hval hg hoi hvi e1 et ed hol
                go_upto_block 5 with (fail)
                go_cut [8, 13] from 88 to 103 (fun c i wx => c = .int .u64 d ∧ i = .int .i64 j ∧ wx = (wr.setCell ⟨g, off + j, none⟩ (U t)).drew)
                case first =>
                  go_wp2_with fail
                  go_region_with ((go_at_call 28; refine (Hg.out _ (by exact hp7.out)).mono ?_; rintro e w3 ⟨rfl, rfl⟩))
                  all_goals
                    go_wp2_with fail
                    go_meet
                    exact ⟨rfl, rfl, rfl⟩
                case rest =>
                  obtain ⟨rfl, rfl, rfl⟩ := hcut
                  go_wp2_with fail
                  refine ⟨⟨j + 1, d, o'.set (off + j) t, by omega, rfl, rfl, hd, Lib.hid ?_, Lib.hid (by rw [List.length_set]; exact hp2.out), okw_set hp3.out _ _ ht, Lib.hid fun i hi => ?_, Hval, Lib.hid ?_, Lib.hid ?_⟩, by simp [intOf]; omega⟩
                  · exact hp1.out.set_ _ _
                  · rw [set_ne (by omega)]; exact hp4.out i hi
                  · exact hp7.out.grown (grown_drew (grown_set (grown_refl _ _) _ _)) hne
                  · exact grown_drew (grown_set hp8.out _ _)
              · have h1 : val o' + cn * P = val o + D := by
                  have h2 := hp5.out
                  have e2 : (wds V).take j = wds V := List.take_of_length_le (by rw [wds_length, Hm.out]; have := Hl.out; omega)
                  rw [e2, val_wds, show j = k by omega, ← HP.out, ← HD.out] at h2
                  exact h2
                have h3 := back_end (by omega) H5.out h1 hcn
                rw [← HG1.out] at h3
                have H3 := Lib.hid h3
                obtain ⟨b1, hb1⟩ : ∃ b1, b1 = 1 - cn := ⟨_, rfl⟩
                have ec : (1 : Int) - (cn : Int) = (b1 : Int) := by omega
                have ic : (cn : Int) ≤ 1 := by omega
                have hb1l : b1 ≤ 1 := by omega
                rw [← hb1] at H3
                clear h1 h3 hb1
                go_wp2_with fail
                refine ⟨⟨G1, b1, o', rfl, rfl, hb1l, hQ1, by omega, hp1, hp2, hp3, hp4, H3, hp7, hp8⟩, by simp [intOf]; omega⟩
end Go.Proofs.YtnlpkehllihllaaGreatDoor
