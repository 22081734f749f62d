/-
  The walk of math/bits.Div64.
-/
import Derived.Test.YtfciahfdmnnejaaDoorDivP
import Derived.Test.YtfciahfdmnnejaaDoorShlP
import Derived.Deep.DeepCutAuto
import Derived.Deep.CutBlock
import Derived.Deep.QuietTactic
import Derived.BigQuiet
namespace Go.Proofs.YtfciahfdmnnejaaDoor
open Go.RowKit

theorem lz64_any (x : Nat) (w : World) (hx : x < 18446744073709551616) : Calls Tryd.prog 68 #[.int .u64 x] w fun e w' => e = .returned (.int .i64 ((64 - blen x : Nat) : Int)) ∧ w = w' :=
  (Tryd.bits_LeadingZeros64 x w (by omega) (by omega)).mono fun e w' ⟨h1, h2⟩ => ⟨by
    have := blen_le64 hx
    rw [h1, Int.toNat_natCast, lib_bitLen x hx]
    exact ret_int (by omega), h2.symm⟩

/-- The two words shifted, so that the divisor's highest bit stands at its place. -/
theorem div_norm (hi lo y s Y : Nat) (hh : hi < y) (hl : lo < 18446744073709551616) (hs : s < 64) (eY : Y = y * 2 ^ s) (hY : Y < 18446744073709551616) :
    ∃ U T : Nat, U < Y ∧ T < 18446744073709551616 ∧ bits .or .u64 (IntKind.u64.wrap ((hi : Int) * 2 ^ s)) ((lo : Int) / 2 ^ (64 - s)) = (U : Int) ∧ IntKind.u64.wrap ((lo : Int) * 2 ^ s) = (T : Int) ∧
      U * 18446744073709551616 + T = (hi * 18446744073709551616 + lo) * 2 ^ s := by
  have hp := pow_split (r := s) (by omega)
  have hp0 : 0 < 2 ^ s := Nat.two_pow_pos s
  have hq0 : 0 < 2 ^ (64 - s) := Nat.two_pow_pos _
  have hl2 : lo / 2 ^ (64 - s) < 2 ^ s := by rw [Nat.div_lt_iff_lt_mul hq0, hp]; exact hl
  have hs64 := pow_lt64 hs
  have h1 : (hi + 1) * 2 ^ s ≤ y * 2 ^ s := Nat.mul_le_mul_right _ hh
  rw [← eY, Nat.add_mul, Nat.one_mul] at h1
  have e0 : (hi : Int) * 2 ^ s = ((hi * 2 ^ s : Nat) : Int) := by rw [Int.natCast_mul, Int.natCast_pow]; rfl
  have e1 : (lo : Int) * 2 ^ s = ((lo * 2 ^ s : Nat) : Int) := by rw [Int.natCast_mul, Int.natCast_pow]; rfl
  have e2 : (lo : Int) / 2 ^ (64 - s) = ((lo / 2 ^ (64 - s) : Nat) : Int) := by
    rw [show ((2 : Int) ^ (64 - s)) = ((2 ^ (64 - s) : Nat) : Int) from by rw [Int.natCast_pow]; rfl]; exact (Int.natCast_ediv _ _).symm
  have e3 : lo * 2 ^ s = 18446744073709551616 * (lo / 2 ^ (64 - s)) + 2 ^ s * (lo % 2 ^ (64 - s)) := by
    have := Nat.div_add_mod lo (2 ^ (64 - s))
    rw [← hp, Nat.mul_assoc, ← Nat.mul_add, this, Nat.mul_comm]
  have hm : 2 ^ s * (lo % 2 ^ (64 - s)) < 18446744073709551616 := by
    rw [← hp]; exact Nat.mul_lt_mul_of_pos_left (Nat.mod_lt _ hq0) hp0
  refine ⟨hi * 2 ^ s + lo / 2 ^ (64 - s), 2 ^ s * (lo % 2 ^ (64 - s)), by omega, hm, ?_, ?_, ?_⟩
  · rw [e0, e2, Mul64.wrapN _ (by omega), u64_or_nat _ _ (by omega) (by omega), Nat.mul_comm hi, ← Nat.two_pow_add_eq_or_of_lt hl2]
  · rw [e1, e3, Mul64.wrapM]; omega
  · rw [Nat.add_mul, Nat.add_mul, e3, Nat.mul_right_comm]; omega

theorem wrap_rem {U v Y Q : Nat} (hQ : Q = (U * 4294967296 + v) / Y) (hYp : 0 < Y) (hY : Y < 18446744073709551616) :
    IntKind.u64.wrap (IntKind.u64.wrap (IntKind.u64.wrap ((U : Int) * 4294967296) + (v : Int)) - IntKind.u64.wrap ((Q : Int) * (Y : Int))) = (((U * 4294967296 + v) % Y : Nat) : Int) := by
  have hd := Nat.div_add_mod (U * 4294967296 + v) Y
  have hm := Nat.mod_lt (U * 4294967296 + v) hYp
  rw [← hQ] at hd
  rw [← Int.natCast_mul Q Y, Nat.mul_comm Q Y]
  generalize Y * Q = P at *
  generalize (U * 4294967296 + v) % Y = R at *
  simp only [IntKind.wrap_u64]
  omega
theorem div_shift (N y s : Nat) : N * 2 ^ s / (y * 2 ^ s) = N / y ∧ N * 2 ^ s % (y * 2 ^ s) = N % y * 2 ^ s :=
  ⟨Nat.mul_div_mul_right _ _ (Nat.two_pow_pos s), Nat.mul_mod_mul_right _ _ _⟩
theorem ret_two {a a' b b' : Int} {k : IntKind} (h1 : a = a') (h2 : b = b') : Ending.returned (.tuple #[.int k a, .int k b]) = .returned (.tuple #[.int k a', .int k b']) := by rw [h1, h2]
/-- How often a word goes into two; what is left. -/
def quoN (hi lo y : Nat) : Nat := (hi * 18446744073709551616 + lo) / y
def remN (hi lo y : Nat) : Nat := (hi * 18446744073709551616 + lo) % y

theorem quoN_lt {hi lo y : Nat} (h : hi < y ∧ lo < 18446744073709551616) : quoN hi lo y < 18446744073709551616 := by
  unfold quoN
  rw [Nat.div_lt_iff_lt_mul (by omega)]
  have : (hi + 1) * 18446744073709551616 ≤ y * 18446744073709551616 := Nat.mul_le_mul_right _ h.1
  omega
theorem remN_lt {hi lo y : Nat} (h : hi < y) : remN hi lo y < y := Nat.mod_lt _ (by omega)

theorem div_end {hi lo y s Y U T v t0 Q1 R1 Q0 R0 : Nat} (hN : U * 18446744073709551616 + T = (hi * 18446744073709551616 + lo) * 2 ^ s) (hT : T = v * 4294967296 + t0) (hY : Y = y * 2 ^ s) (hYp : 0 < Y)
    (hQ1 : Q1 = (U * 4294967296 + v) / Y) (hR1 : R1 = (U * 4294967296 + v) % Y) (hQ0 : Q0 = (R1 * 4294967296 + t0) / Y) (hR0 : R0 = (R1 * 4294967296 + t0) % Y) :
    (Q1 : Int) * 4294967296 + (Q0 : Int) = (quoN hi lo y : Int) ∧ (R0 : Int) / 2 ^ s = (remN hi lo y : Int) := by
  obtain ⟨e1, e2⟩ := div_two ((hi * 18446744073709551616 + lo) * 2 ^ s) Y hYp U v t0 (by rw [← hN, hT]; omega)
  rw [← hQ1, ← hR1, ← hQ0, hY, (div_shift _ y s).1] at e1
  rw [← hR1, ← hR0, hY, (div_shift _ y s).2] at e2
  refine ⟨?_, ?_⟩
  · unfold quoN; rw [e1]; omega
  · rw [show ((2 : Int) ^ s) = ((2 ^ s : Nat) : Int) from by rw [Int.natCast_pow]; rfl]
    rw [← Int.natCast_ediv, ← e2, Nat.mul_div_cancel _ (Nat.two_pow_pos s)]
    rfl

set_option maxHeartbeats 1600000 in
set_option maxRecDepth 100000 in
/-- math/bits.Div64: how often, and what is left. -/
theorem div64_any (hi lo y : Nat) (w : World) (hh : hi < y) (hl : lo < 18446744073709551616) (hy : y < 18446744073709551616) :
    Calls Tryd.prog 72 #[.int .u64 hi, .int .u64 lo, .int .u64 y] w fun e w' => e = .returned (.tuple #[.int .u64 (quoN hi lo y : Int), .int .u64 (remN hi lo y : Int)]) ∧ ∃ n, w' = w.drewN n := by
  have ty : ((y : Int) == 0) = false := by rw [beq_eq_false_iff_ne]; omega
  have tl : decide ((y : Int) ≤ (hi : Int)) = false := by simp; omega
  by_cases h0 : hi = 0
  · subst h0
    have h9 := And.intro hh hl
    have e1 : (lo : Int) / (y : Int) = (quoN 0 lo y : Int) := by unfold quoN; rw [Nat.zero_mul, Nat.zero_add]; exact (Int.natCast_ediv _ _).symm
    have e2 : (lo : Int) % (y : Int) = (remN 0 lo y : Int) := by unfold remN; rw [Nat.zero_mul, Nat.zero_add]; exact (Int.natCast_emod _ _).symm
    have E1 := Lib.hid e1
    have E2 := Lib.hid e2
    clear e1 e2
    go_enter Tryd.func72, Tryd.ntmps72
    go_wp2
    go_quiet (fail)
    go_wp2
    go_ret2
    exact ⟨ret_two (by rw [E1.out]; exact Mul64.wrapN _ (quoN_lt h9)) E2.out, _, rfl⟩
  · have th : ((hi : Int) == 0) = false := by rw [beq_eq_false_iff_ne]; omega
    obtain ⟨hb, hY, hY'⟩ := norm_shift (y := y) (by omega) hy
    obtain ⟨s, hs⟩ : ∃ s, s = 64 - blen y := ⟨_, rfl⟩
    rw [← hs] at hY hY'
    have hs64 : s < 64 := by
      have : 0 < blen y := by rw [blen_pos (by omega)]; omega
      omega
    obtain ⟨Y, eY⟩ : ∃ Y, Y = y * 2 ^ s := ⟨_, rfl⟩
    rw [← eY] at hY hY'
    have f1 : IntKind.u64.wrap ((y : Int) * 2 ^ s) = (Y : Int) := by
      rw [show (y : Int) * 2 ^ s = ((y * 2 ^ s : Nat) : Int) from by rw [Int.natCast_mul, Int.natCast_pow]; rfl, ← eY]
      exact Mul64.wrapN Y hY
    have Hs := Lib.hid hs
    have HY := Lib.hid eY
    clear hs eY
    obtain ⟨U, T, hU, hT, f2, f3, hN⟩ := div_norm hi lo y s Y hh hl hs64 HY.out hY
    obtain ⟨yn1, hyn1⟩ : ∃ a, a = Y / 4294967296 := ⟨_, rfl⟩
    obtain ⟨yn0, hyn0⟩ : ∃ a, a = Y % 4294967296 := ⟨_, rfl⟩
    obtain ⟨v, hv⟩ : ∃ a, a = T / 4294967296 := ⟨_, rfl⟩
    obtain ⟨t0, ht0⟩ : ∃ a, a = T % 4294967296 := ⟨_, rfl⟩
    have f4 : (Y : Int) / 4294967296 = (yn1 : Int) := by omega
    have f5 : bits .and .u64 (Y : Int) 4294967295 = (yn0 : Int) := by rw [Mul64.maskN Y hY, ← hyn0]
    have f6 : (T : Int) / 4294967296 = (v : Int) := by omega
    have f7 : bits .and .u64 (T : Int) 4294967295 = (t0 : Int) := by rw [Mul64.maskN T hT, ← ht0]
    have b1 : 2147483648 ≤ yn1 := by omega
    have b2 : yn1 < 4294967296 := by omega
    have b3 : yn0 < 4294967296 := by omega
    have b4 : v < 4294967296 := by omega
    have b5 : t0 < 4294967296 := by omega
    have eY2 : Y = yn1 * 4294967296 + yn0 := by omega
    have eT2 : T = v * 4294967296 + t0 := by omega
    have HY2 := Lib.hid eY2
    have HT2 := Lib.hid eT2
    have HN := Lib.hid hN
    clear hyn1 hyn0 hv ht0 eY2 eT2 hN
    -- the first digit
    obtain ⟨g1, g2, g3⟩ := est_start (v := v) HY2.out b1 b3 hU b4
    obtain ⟨q, hq⟩ : ∃ a, a = U / yn1 := ⟨_, rfl⟩
    obtain ⟨r, hr⟩ : ∃ a, a = U % yn1 := ⟨_, rfl⟩
    have hqr : q * yn1 + r = U := by rw [hq, hr, Nat.mul_comm]; exact Nat.div_add_mod _ _
    have hr0 : r < 4294967296 := by have := Nat.mod_lt U (show 0 < yn1 by omega); omega
    rw [← hq] at g1 g2
    have f8 : (U : Int) / (yn1 : Int) = (q : Int) := by rw [hq]; exact (Int.natCast_ediv _ _).symm
    have c1 : 0 ≤ (q : Int) * (yn1 : Int) := by omega
    have c2 : (q : Int) * (yn1 : Int) ≤ (U : Int) := by have : (((q * yn1 : Nat)) : Int) ≤ (U : Int) := by omega
                                                        rwa [Int.natCast_mul] at this
    have f9 : (U : Int) - (q : Int) * (yn1 : Int) = (r : Int) := by have : (U : Int) - ((q * yn1 : Nat) : Int) = (r : Int) := by omega
                                                                    rwa [Int.natCast_mul] at this
    obtain ⟨Q1, hQ1⟩ : ∃ a, a = (U * 4294967296 + v) / Y := ⟨_, rfl⟩
    have hQh : Q1 < 4294967296 := by rw [hQ1]; exact est_high hU b4
    rw [← hQ1] at g1
    have HQ1 := Lib.hid hQ1
    have Hqr := Lib.hid hqr
    clear hq hr g3 hqr hQ1
    go_enter Tryd.func72, Tryd.ntmps72
    go_upto_block 0 with (go_at_call 68; refine (lz64_any y _ hy).mono ?_; rintro e w' ⟨rfl, rfl⟩; rw [← Hs.out])
    have i3 : (v : Int) < 4294967296 := by omega
    have i4 : (yn1 : Int) < 4294967296 := by omega
    have i8 : (1 : Int) ≤ (yn1 : Int) := by omega
    have hYp : 0 < Y := by omega
    have Hd := Lib.hid (show Q1 ≤ q ∧ q ≤ 4294967297 ∧ r < 4294967296 from ⟨g1, g2, hr0⟩)
    have B := Lib.hid (show yn1 < 4294967296 ∧ yn0 < 4294967296 ∧ Q1 < 4294967296 ∧ v < 4294967296 from ⟨b2, b3, hQh, b4⟩)
    have C := Lib.hid (show 2147483648 ≤ yn1 ∧ t0 < 4294967296 ∧ Y < 18446744073709551616 from ⟨b1, b5, hY⟩)
    clear f1 f2 f3 f4 f5 f6 f7 ty tl th hQh b1 b2 b3 b4 b5 hU hT hY hY' hl hy g1 g2 hr0
    go_cut [15, 16] (fun a b wx => a = .int .u64 Q1 ∧ wx = w)
    case first =>
      go_wp2_with fail
      go_loop [15, 16] (fun a b => ∃ q r : Nat, a = .int .u64 q ∧ b = .int .u64 r ∧ Hid (q * yn1 + r = U) ∧ Hid (Q1 ≤ q ∧ q ≤ 4294967297 ∧ r < 4294967296)) (fun a _ => (intOf a).toNat)
      case atStart => exact ⟨q, r, rfl, rfl, Hqr, Hd⟩
      case round =>
        clear f8 c1 c2 f9 Hqr Hd
        obtain ⟨q', r', rfl, rfl, d1, D⟩ := hrel
        obtain ⟨d2, d3, d4⟩ := D.out
        obtain ⟨b2, b3, hQh, b4⟩ := B.out
        have i2 : (r' : Int) < 4294967296 := by omega
        have i5 : (q' : Int) ≤ 4294967297 := by omega
        by_cases hq : 4294967296 ≤ q'
        · obtain ⟨k, rfl⟩ : ∃ k, q' = k + 1 := ⟨q' - 1, by omega⟩
          have d5 := est_step (by omega) d1.out
          simp only [Nat.add_sub_cancel] at d5
          have D5 := Lib.hid d5
          clear d5
          have tq : decide ((4294967296 : Int) ≤ (k : Int) + 1) = true := by simp; omega
          by_cases hb : 4294967296 ≤ r' + yn1
          · have e := est_under (v := v) HY2.out hYp D5.out (est_break (by omega) b3 hb)
            rw [← HQ1.out] at e
            have e2 : k = Q1 := by omega
            have tb : decide ((4294967296 : Int) ≤ (r' : Int) + (yn1 : Int)) = true := by simp; omega
            clear hb hq d2 d3 d4 hQh b2 b3 b4 e
            subst e2
            go_wp2_with ((with_reducible refine Met.intro ?_); go_step; (repeat apply Exists.intro); refine ⟨?_, rfl⟩; exact ⟨by go_num, rfl⟩)
          · have tb : decide ((4294967296 : Int) ≤ (r' : Int) + (yn1 : Int)) = false := by simp; omega
            have D6 := Lib.hid (show Q1 ≤ k ∧ k ≤ 4294967297 ∧ r' + yn1 < 4294967296 from ⟨by omega, by omega, by omega⟩)
            clear hb hq d2 d3 d4 hQh b2 b3 b4
            go_wp2
            go_round
            case rel => exact ⟨k, r' + yn1, by go_num, by go_num, D5, D6⟩
            case measure => simp [intOf]
        · have p1 := prod32 (Nat.lt_of_not_le hq) b3
          have p2 : (q' : Int) * (yn0 : Int) ≤ 18446744065119617025 := by rw [← Int.natCast_mul]; omega
          have p3 : 0 ≤ (q' : Int) * (yn0 : Int) := by rw [← Int.natCast_mul]; omega
          have tq : decide ((4294967296 : Int) ≤ (q' : Int)) = false := by simp; omega
          by_cases hgt : 4294967296 * r' + v < q' * yn0
          · have tp : decide (4294967296 * (r' : Int) + (v : Int) < (q' : Int) * (yn0 : Int)) = true := by rw [← Int.natCast_mul, decide_eq_true_iff]; omega
            have e := est_over HY2.out hYp d1.out hgt
            rw [← HQ1.out] at e
            have hq0 : 0 < q' := by
              rcases Nat.eq_zero_or_pos q' with h | h
              · subst h; omega
              · exact h
            have d5 := est_step hq0 d1.out
            have D5 := Lib.hid d5
            clear d5 hgt p1
            have i7 : (1 : Int) ≤ (q' : Int) := by omega
            have ek : (q' : Int) - 1 = ((q' - 1 : Nat) : Int) := by omega
            by_cases hb : 4294967296 ≤ r' + yn1
            · have e2 := est_under (v := v) HY2.out hYp D5.out (est_break (by omega) b3 hb)
              rw [← HQ1.out] at e2
              have e3 : q' - 1 = Q1 := by omega
              rw [e3] at ek
              have tb : decide ((4294967296 : Int) ≤ (r' : Int) + (yn1 : Int)) = true := by simp; omega
              clear hb hq d2 d3 d4 hQh b2 b3 b4 e e2 e3
              go_wp2_with ((with_reducible refine Met.intro ?_); go_step; (repeat apply Exists.intro); refine ⟨?_, rfl⟩; exact ⟨by go_num, rfl⟩)
            · have tb : decide ((4294967296 : Int) ≤ (r' : Int) + (yn1 : Int)) = false := by simp; omega
              have D6 := Lib.hid (show Q1 ≤ q' - 1 ∧ q' - 1 ≤ 4294967297 ∧ r' + yn1 < 4294967296 from ⟨by omega, by omega, by omega⟩)
              clear hb hq d2 d3 d4 hQh b2 b3 b4 e
              go_wp2
              go_round
              case rel => exact ⟨q' - 1, r' + yn1, by go_num, by go_num, D5, D6⟩
              case measure => simp [intOf]; omega
          · have tp : decide (4294967296 * (r' : Int) + (v : Int) < (q' : Int) * (yn0 : Int)) = false := by rw [← Int.natCast_mul, decide_eq_false_iff_not]; omega
            have e := est_under (v := v) HY2.out hYp d1.out (Nat.le_of_not_lt hgt)
            rw [← HQ1.out] at e
            have e2 : q' = Q1 := by omega
            clear hgt p1 hq d2 d3 d4 hQh b2 b3 b4 e
            subst e2
            go_wp2_with ((with_reducible refine Met.intro ?_); go_step; (repeat apply Exists.intro); refine ⟨?_, rfl⟩; exact ⟨by go_num, rfl⟩)
    case rest =>
      obtain ⟨rfl, rfl⟩ := hcut
      clear f8 c1 c2 f9 Hqr Hd
      obtain ⟨b1, b5, hY⟩ := C.out
      obtain ⟨b2, b3, hQ1, b4⟩ := B.out
      have iQ1 : (Q1 : Int) < 4294967296 := by omega
      have f10 := wrap_rem HQ1.out hYp hY
      obtain ⟨R1, hR1⟩ : ∃ a, a = (U * 4294967296 + v) % Y := ⟨_, rfl⟩
      have hR : R1 < Y := by rw [hR1]; exact Nat.mod_lt _ hYp
      rw [← hR1] at f10
      have HR1 := Lib.hid hR1
      clear hR1
      obtain ⟨g1, g2, g3⟩ := est_start (v := t0) HY2.out b1 b3 hR b5
      obtain ⟨q, hq⟩ : ∃ a, a = R1 / yn1 := ⟨_, rfl⟩
      obtain ⟨r, hr⟩ : ∃ a, a = R1 % yn1 := ⟨_, rfl⟩
      have hqr : q * yn1 + r = R1 := by rw [hq, hr, Nat.mul_comm]; exact Nat.div_add_mod _ _
      have hr0 : r < 4294967296 := by have := Nat.mod_lt R1 (show 0 < yn1 by omega); omega
      rw [← hq] at g1 g2
      have f8 : (R1 : Int) / (yn1 : Int) = (q : Int) := by rw [hq]; exact (Int.natCast_ediv _ _).symm
      have c1 : 0 ≤ (q : Int) * (yn1 : Int) := by omega
      have c2 : (q : Int) * (yn1 : Int) ≤ (R1 : Int) := by rw [← Int.natCast_mul]; omega
      have f9 : (R1 : Int) - (q : Int) * (yn1 : Int) = (r : Int) := by rw [← Int.natCast_mul]; omega
      obtain ⟨Q0, hQ0⟩ : ∃ a, a = (R1 * 4294967296 + t0) / Y := ⟨_, rfl⟩
      have hQh : Q0 < 4294967296 := by rw [hQ0]; exact est_high hR b5
      rw [← hQ0] at g1
      have HQ0 := Lib.hid hQ0
      have Hqr := Lib.hid hqr
      have Hd := Lib.hid (show Q0 ≤ q ∧ q ≤ 4294967297 ∧ r < 4294967296 from ⟨g1, g2, hr0⟩)
      have iQ0 : (Q0 : Int) < 4294967296 := by omega
      have it0 : (t0 : Int) < 4294967296 := by omega
      have B' := Lib.hid (show yn1 < 4294967296 ∧ yn0 < 4294967296 ∧ Q0 < 4294967296 ∧ t0 < 4294967296 from ⟨b2, b3, hQh, b5⟩)
      have hR64 : (R1 : Int) ≤ 18446744073709551615 := by omega
      have iq : (q : Int) ≤ 4294967297 := by omega
      have f11 := wrap_rem HQ0.out hYp hY
      obtain ⟨R0, hR0⟩ : ∃ a, a = (R1 * 4294967296 + t0) % Y := ⟨_, rfl⟩
      rw [← hR0] at f11
      have HR0 := Lib.hid hR0
      have HF := Lib.hid f11
      clear B hR0 f11 g1 g2 g3 hq hr hqr hr0 hQ0 hQh b1 b2 b3 b4 b5 hY hQ1 hR i3
      go_upto_block 2 with (fail)
      clear f10 hR64
      go_cut [18, 16] (fun a b wx => a = .int .u64 Q0 ∧ wx = wc)
      case first =>
        go_wp2_with fail
        go_loop [18, 16] (fun a b => ∃ q r : Nat, a = .int .u64 q ∧ b = .int .u64 r ∧ Hid (q * yn1 + r = R1) ∧ Hid (Q0 ≤ q ∧ q ≤ 4294967297 ∧ r < 4294967296)) (fun a _ => (intOf a).toNat)
        case atStart => exact ⟨q, r, rfl, rfl, Hqr, Hd⟩
        case round =>
          clear f8 c1 c2 f9 Hqr Hd
          obtain ⟨q', r', rfl, rfl, d1, D⟩ := hrel
          obtain ⟨d2, d3, d4⟩ := D.out
          obtain ⟨b2, b3, hQh, b4⟩ := B'.out
          have i2 : (r' : Int) < 4294967296 := by omega
          have i5 : (q' : Int) ≤ 4294967297 := by omega
          by_cases hq : 4294967296 ≤ q'
          · obtain ⟨k, rfl⟩ : ∃ k, q' = k + 1 := ⟨q' - 1, by omega⟩
            have d5 := est_step (by omega) d1.out
            simp only [Nat.add_sub_cancel] at d5
            have D5 := Lib.hid d5
            clear d5
            have tq : decide ((4294967296 : Int) ≤ (k : Int) + 1) = true := by simp; omega
            by_cases hb : 4294967296 ≤ r' + yn1
            · have e := est_under (v := t0) HY2.out hYp D5.out (est_break (by omega) b3 hb)
              rw [← HQ0.out] at e
              have e2 : k = Q0 := by omega
              have tb : decide ((4294967296 : Int) ≤ (r' : Int) + (yn1 : Int)) = true := by simp; omega
              clear hb hq d2 d3 d4 hQh b2 b3 b4 e
              subst e2
              go_wp2_with ((with_reducible refine Met.intro ?_); go_step; (repeat apply Exists.intro); refine ⟨?_, rfl⟩; exact ⟨by go_num, rfl⟩)
            · have tb : decide ((4294967296 : Int) ≤ (r' : Int) + (yn1 : Int)) = false := by simp; omega
              have D6 := Lib.hid (show Q0 ≤ k ∧ k ≤ 4294967297 ∧ r' + yn1 < 4294967296 from ⟨by omega, by omega, by omega⟩)
              clear hb hq d2 d3 d4 hQh b2 b3 b4
              go_wp2
              go_round
              case rel => exact ⟨k, r' + yn1, by go_num, by go_num, D5, D6⟩
              case measure => simp [intOf]
          · have p1 := prod32 (Nat.lt_of_not_le hq) b3
            have p2 : (q' : Int) * (yn0 : Int) ≤ 18446744065119617025 := by rw [← Int.natCast_mul]; omega
            have p3 : 0 ≤ (q' : Int) * (yn0 : Int) := by rw [← Int.natCast_mul]; omega
            have tq : decide ((4294967296 : Int) ≤ (q' : Int)) = false := by simp; omega
            by_cases hgt : 4294967296 * r' + t0 < q' * yn0
            · have tp : decide (4294967296 * (r' : Int) + (t0 : Int) < (q' : Int) * (yn0 : Int)) = true := by rw [← Int.natCast_mul, decide_eq_true_iff]; omega
              have e := est_over HY2.out hYp d1.out hgt
              rw [← HQ0.out] at e
              have hq0 : 0 < q' := by
                rcases Nat.eq_zero_or_pos q' with h | h
                · subst h; omega
                · exact h
              have d5 := est_step hq0 d1.out
              have D5 := Lib.hid d5
              clear d5 hgt p1
              have i7 : (1 : Int) ≤ (q' : Int) := by omega
              have ek : (q' : Int) - 1 = ((q' - 1 : Nat) : Int) := by omega
              by_cases hb : 4294967296 ≤ r' + yn1
              · have e2 := est_under (v := t0) HY2.out hYp D5.out (est_break (by omega) b3 hb)
                rw [← HQ0.out] at e2
                have e3 : q' - 1 = Q0 := by omega
                rw [e3] at ek
                have tb : decide ((4294967296 : Int) ≤ (r' : Int) + (yn1 : Int)) = true := by simp; omega
                clear hb hq d2 d3 d4 hQh b2 b3 b4 e e2 e3
                go_wp2_with ((with_reducible refine Met.intro ?_); go_step; (repeat apply Exists.intro); refine ⟨?_, rfl⟩; exact ⟨by go_num, rfl⟩)
              · have tb : decide ((4294967296 : Int) ≤ (r' : Int) + (yn1 : Int)) = false := by simp; omega
                have D6 := Lib.hid (show Q0 ≤ q' - 1 ∧ q' - 1 ≤ 4294967297 ∧ r' + yn1 < 4294967296 from ⟨by omega, by omega, by omega⟩)
                clear hb hq d2 d3 d4 hQh b2 b3 b4 e
                go_wp2
                go_round
                case rel => exact ⟨q' - 1, r' + yn1, by go_num, by go_num, D5, D6⟩
                case measure => simp [intOf]; omega
            · have tp : decide (4294967296 * (r' : Int) + (t0 : Int) < (q' : Int) * (yn0 : Int)) = false := by rw [← Int.natCast_mul, decide_eq_false_iff_not]; omega
              have e := est_under (v := t0) HY2.out hYp d1.out (Nat.le_of_not_lt hgt)
              rw [← HQ0.out] at e
              have e2 : q' = Q0 := by omega
              clear hgt p1 hq d2 d3 d4 hQh b2 b3 b4 e
              subst e2
              go_wp2_with ((with_reducible refine Met.intro ?_); go_step; (repeat apply Exists.intro); refine ⟨?_, rfl⟩; exact ⟨by go_num, rfl⟩)
      case rest =>
        obtain ⟨rfl, rfl⟩ := hcut
        have f11 := HF.out
        go_wp2
        go_ret2
        have e := div_end HN.out HT2.out HY.out hYp HQ1.out HR1.out HQ0.out HR0.out
        exact ⟨ret_two e.1 e.2, 0, rfl⟩
end Go.Proofs.YtfciahfdmnnejaaDoor
