/-
  A part of the proofs that calipertop.TopBack, TopFloats and TopNearest return true for every input and leave it as it was: part 2 of 47.
-/
import Derived.Test.YtnlpkehllihllaaGreatDoorGt01
import Derived.Deep.DeepCutAuto
/-
  The walk of nat.Shl.
-/
namespace Go.Proofs.YtnlpkehllihllaaGreatDoor
open Go.RowKit

/-- trim of a number's words: all of them. -/
theorem trim_num (A : Option Addr) (x c : Nat) (w : World) (hr : RW w A (wds x)) (hc : lw x ≤ c) (hm : c ≤ maxLen) :
    Calls Tryz.prog 29 #[.slice A (lw x) c] w fun e w' => e = .returned (.slice A (lw x) (lw x)) ∧ w = w' := by
  have h := trim_any A (lw x) c (wds x) w hr rfl hc hm
  have e : tl (wds x) (lw x) = lw x := tl_wds x
  rwa [e] at h

/-- How far a shift goes. -/
def shN (n : Int) : Nat := (min (max n 0) 131072).toNat
theorem shN_le (n : Int) : shN n ≤ 131072 := by unfold shN; omega

/-- A slice that reads as a number and has no room behind it. -/
def NumC (w : World) (v : Value) (x : Nat) : Prop := ∃ A, v = .slice A (lw x) (lw x) ∧ lw x ≤ maxLen ∧ RW w A (wds x)
theorem NumC.num {w : World} {v : Value} {x : Nat} (h : NumC w v x) : Num w v x := by
  obtain ⟨A, e, h1, h2⟩ := h
  exact ⟨A, lw x, e, Nat.le_refl _, h1, h2⟩
theorem numC_of_wb {w : World} {g n : Nat} {o : List Nat} (h : WB w g o) (hl : o.length = n) (ho : okw o) (hn : n ≤ maxLen) : NumC w (.slice (some ⟨g, 0, none⟩) (tl o n) (tl o n)) (val o) := by
  subst hl
  have e := tl_len ho
  refine ⟨some ⟨g, 0, none⟩, by rw [e]; rfl, ?_, ?_⟩
  · have := tl_le o o.length
    rw [e] at this
    exact Nat.le_trans this hn
  · rw [← take_tl ho]; exact h.rw_.take _

set_option maxHeartbeats 1600000 in
set_option maxRecDepth 100000 in
/-- nat.Shl: times a power of 2. -/
theorem shl_c (va : Value) (x : Nat) (n : Int) (w : World) (ha : Num w va x) (hs : lw x ≤ 8796093022208) :
    Calls Tryz.prog 11 #[va, .int .i64 n] w fun e w' => ∃ v, e = .returned v ∧ NumC w' v (x * 2 ^ shN n) ∧ Below w.heap.size w w' := by
  obtain ⟨A, ca, rfl, hca, hma, hra⟩ := ha
  go_enter Tryz.func11, Tryz.ntmps11
  go_upto_region 1 with (fail)
  go_cut [1] (fun s wx => s = .int .i64 (shN n) ∧ wx = w)
  case first =>
    go_wp2_with fail
    all_goals
      go_meet
      exact ⟨congrArg (Value.int .i64) (by unfold shN; omega), rfl⟩
  case rest =>
    obtain ⟨rfl, rfl⟩ := hcut
    have hsl := shN_le n
    obtain ⟨s, hs'⟩ : ∃ s, s = shN n := ⟨_, rfl⟩
    rw [← hs'] at hsl ⊢
    have Hs' := Lib.hid hs'
    clear hs'
    obtain ⟨q, hq⟩ : ∃ q, q = s / 64 := ⟨_, rfl⟩
    obtain ⟨r, hr⟩ : ∃ r, r = s % 64 := ⟨_, rfl⟩
    have eq1 : (s : Int) / 64 = (q : Int) := by omega
    have er1 : (s : Int) % 64 = (r : Int) := by omega
    have hr64 : r < 64 := by omega
    have hq1 : q ≤ 2048 := by omega
    have hmk := fun W => make_nat (lw x + q + 1) (by omega) W
    have ec : ((lw x + q + 1 : Nat) : Int) = (lw x : Int) + (q : Int) + 1 := by omega
    rw [ec] at hmk
    clear ec
    have Hq := Lib.hid hq
    have Hr := Lib.hid hr
    clear hq hr
    go_wp2_with (go_at_call 29; refine (trim_num _ _ _ _ hra hca hma).mono ?_; rintro e w' ⟨rfl, rfl⟩)
    have hw0 : WB (wc.alloc (.cells (madeCells #[.int .u64 0] (lw x + q + 1)) 26)) wc.heap.size (List.replicate (lw x + q + 1) 0) := WB.made wc _
    have hb0 : Below wc.heap.size wc (wc.alloc (.cells (madeCells #[.int .u64 0] (lw x + q + 1)) 26)) := (Below.refl _ _).alloc (Nat.le_refl _) _
    clear hmk
    go_loopw [23] (fun i wr => ∃ (k : Nat) (o : List Nat), k ≤ lw x ∧ i = .int .i64 k ∧ Hid (WB wr wc.heap.size o) ∧ Hid (o.length = lw x + q + 1) ∧ Hid (okw o) ∧ Hid (val o = val ((wds x).take k) * 2 ^ r * bp q) ∧
        Hid (o.getD (k + q) 0 < 2 ^ r) ∧ Hid (∀ j, k + q < j → o.getD j 0 = 0) ∧ Below wc.heap.size wc wr)
      (fun i _ => lw x - (intOf i).toNat)
    case atStart => exact ⟨0, _, Nat.zero_le _, rfl, hw0, List.length_replicate, okw_replicate _, Lib.hid (by rw [val_replicate]; simp [val]), Lib.hid (by rw [rep_getD]; exact Nat.two_pow_pos r), Lib.hid (fun j _ => rep_getD _ j), hb0⟩
    case round =>
      obtain ⟨k, o, hk, rfl, ho1, ho2, ho3, ho4, ho5, ho6, hbe⟩ := hrel
      by_cases hlt : k < lw x
      · obtain ⟨ba, oa, rfl, hba, hcella⟩ := hra.at_ (k := k) hlt
        have hcx : wr.cell? ⟨ba, oa + k, none⟩ = some (U ((wds x).getD k 0)) := (hbe.cell (p := ⟨ba, oa + k, none⟩) hba).trans (hcella k hlt)
        have hxw := wds_get x k
        obtain ⟨xi, hxi⟩ : ∃ xi : Nat, xi = (wds x).getD k 0 := ⟨_, rfl⟩
        rw [← hxi] at hcx hxw
        have Hxi := Lib.hid hxi
        have hco : wr.cell? ⟨wc.heap.size, k + q, none⟩ = some (U (o.getD (k + q) 0)) := ho1.out.cell (by rw [ho2.out]; omega)
        have hfo : wr.frozen? ⟨wc.heap.size, k + q, none⟩ = false := ho1.out.frozen _
        have hco1 : wr.cell? ⟨wc.heap.size, k + q + 1, none⟩ = some (U (o.getD (k + q + 1) 0)) := ho1.out.cell (by rw [ho2.out]; omega)
        rw [ho6.out (k + q + 1) (by omega)] at hco1
        have hfo1 : wr.frozen? ⟨wc.heap.size, k + q + 1, none⟩ = false := ho1.out.frozen _
        have how := okw_get ho3.out (k + q)
        obtain ⟨oi, hoi⟩ : ∃ oi : Nat, oi = o.getD (k + q) 0 := ⟨_, rfl⟩
        rw [← hoi] at hco how
        have ho5' := ho5.out
        rw [← hoi] at ho5'
        obtain ⟨t, h, ht, hh, et, eh, eth⟩ := shl_word xi r oi hxw hr64 ho5'
        have Hoi := Lib.hid hoi
        have Het := Lib.hid et
        have Heh := Lib.hid eh
        have Hhh := Lib.hid hh
        clear hoi hcella hxi et eh ho5' hh
        go_wp2
        go_region
        go_wp2
        go_roundw
        case rel =>
          rw [Het.out, Heh.out]
          have hp := pow_lt64 hr64
          have hhh := Hhh.out
          refine ⟨k + 1, (o.set (k + q) t).set (k + q + 1) h, by omega, by go_num, (WB.set_ (WB.set_ ho1.out _ _) _ _), Lib.hid (by rw [List.length_set, List.length_set]; exact ho2.out), okw_set (okw_set ho3.out _ _ ht) _ _ (by omega), Lib.hid ?_, Lib.hid ?_, Lib.hid ?_,
            ((hbe.setCell (Nat.le_refl _) _).setCell (Nat.le_refl _) _).drew⟩
          · exact shl_round o (wds x) k q r t h xi hlt (by rw [ho2.out]; omega) Hxi.out (ho6.out _ (by omega)) ho4.out (by rw [← Hoi.out]; exact eth)
          · rw [show k + 1 + q = k + q + 1 by omega, List.getD_eq_getElem?_getD, List.getElem?_set_self (by rw [List.length_set, ho2.out]; omega)]; exact Hhh.out
          · intro j hj
            rw [List.getD_eq_getElem?_getD, List.getElem?_set_ne (by omega), List.getElem?_set_ne (by omega), ← List.getD_eq_getElem?_getD]; exact ho6.out j (by omega)
        case measure => simp [intOf]; omega
      · go_wp2_with (go_at_call 29; refine (trim_any _ _ _ o _ ho1.out.rw_ ho2.out (Nat.le_refl _) (by unfold maxLen; omega)).mono ?_; rintro e w' ⟨rfl, rfl⟩)
        go_ret
        refine ⟨_, rfl, ?_, hbe⟩
        have hkk : k = lw x := by omega
        have e := ho4.out
        rw [hkk, take_wds, val_wds] at e
        have e2 : x * 2 ^ shN n = x * 2 ^ r * bp q := by
          rw [← Hs'.out, bp_two, Nat.mul_assoc, ← Nat.pow_add]
          have h1 := Hq.out
          have h2 := Hr.out
          rw [show r + 64 * q = s by omega]
        rw [e2, ← e]
        exact numC_of_wb ho1.out ho2.out ho3.out (by unfold maxLen; omega)
theorem shl_any (va : Value) (x : Nat) (n : Int) (w : World) (ha : Num w va x) (hs : lw x ≤ 8796093022208) :
    Calls Tryz.prog 11 #[va, .int .i64 n] w fun e w' => ∃ v, e = .returned v ∧ Num w' v (x * 2 ^ shN n) ∧ Below w.heap.size w w' :=
  (shl_c va x n w ha hs).mono fun _ _ ⟨v, h1, h2, h3⟩ => ⟨v, h1, h2.num, h3⟩
end Go.Proofs.YtnlpkehllihllaaGreatDoor

/-
  The walk of nat.Pow.
-/
namespace Go.Proofs.YtnlpkehllihllaaGreatDoor
open Go.RowKit

/-- Which power. -/
def powN (n : Int) : Nat := (min (max n 0) 10000).toNat
theorem powN_le (n : Int) : powN n ≤ 10000 := by unfold powN; omega

theorem pow_lt_bp {b N : Nat} (hb1 : 1 ≤ b) (hb : b < 18446744073709551616) : b ^ N < bp (N + 1) := by
  have h1 : b ^ (N + 1) < bp (N + 1) := Nat.pow_lt_pow_left hb (by omega)
  have h2 : b ^ N ≤ b ^ (N + 1) := Nat.pow_le_pow_right hb1 (by omega)
  omega
theorem pow_sizes {b N xo xs m : Nat} (hb1 : 1 ≤ b) (hb : b < 18446744073709551616) (ho : 1 ≤ xo) (hs : 1 ≤ xs) (h : xo * xs ^ m = b ^ N) (hm : 1 ≤ m) : lw xo ≤ N + 1 ∧ lw xs ≤ N + 1 := by
  have hp := pow_lt_bp (N := N) hb1 hb
  have h1 : xs ≤ xs ^ m := by
    have := Nat.pow_le_pow_right hs hm
    rwa [Nat.pow_one] at this
  have h0 : 1 ≤ xs ^ m := Nat.pow_pos hs
  have h2 : xo ≤ xo * xs ^ m := Nat.le_mul_of_pos_right _ h0
  have h3 : xs ^ m ≤ xo * xs ^ m := Nat.le_mul_of_pos_left _ ho
  exact ⟨lw_le (by omega), lw_le (by omega)⟩
/-- A round of the loop of Pow. -/
theorem pow_odd {b N xo xs m : Nat} (h : xo * xs ^ (2 * m + 1) = b ^ N) : xo * xs * (xs * xs) ^ m = b ^ N := by
  rw [← h, Nat.pow_succ, Nat.pow_mul, Nat.pow_two, Nat.mul_assoc, Nat.mul_comm xs]
theorem pow_even {b N xo xs m : Nat} (h : xo * xs ^ (2 * m) = b ^ N) : xo * (xs * xs) ^ m = b ^ N := by
  rw [← h, Nat.pow_mul, Nat.pow_two]

theorem of_one (w : World) : Calls Tryz.prog 12 #[.int .u64 1] w fun e w' => ∃ v, e = .returned v ∧ Num w' v 1 ∧ Below w.heap.size w w' := of_any 1 w (by omega)

set_option maxHeartbeats 1600000 in
set_option maxRecDepth 100000 in
theorem pow_any (b : Nat) (n : Int) (w : World) (hb1 : 1 ≤ b) (hb : b < 18446744073709551616) :
    Calls Tryz.prog 60 #[.int .u64 b, .int .i64 n] w fun e w' => ∃ v, e = .returned v ∧ Num w' v (b ^ powN n) ∧ Below w.heap.size w w' := by
  go_enter Tryz.func60, Tryz.ntmps60
  go_wp2_with fail
  refine (of_one _).mono ?_
  rintro e w1 ⟨vo, rfl, ho, hbe1⟩
  go_wp2_with fail
  refine (of_any b _ hb).mono ?_
  rintro e w2 ⟨vs, rfl, hs, hbe2⟩
  have hbe : Below w.heap.size w w2 := hbe1.trans (hbe2.mono hbe1.size)
  replace ho := ho.below hbe2
  clear hbe1 hbe2
  go_upto_region 2 with (fail)
  go_cut [1] (fun s wx => s = .int .i64 (powN n) ∧ wx = w2)
  case first =>
    go_wp2_with fail
    all_goals
      go_meet
      exact ⟨congrArg (Value.int .i64) (by unfold powN; omega), rfl⟩
  case rest =>
    obtain ⟨rfl, rfl⟩ := hcut
    have hN := powN_le n
    obtain ⟨N, hN'⟩ : ∃ N, N = powN n := ⟨_, rfl⟩
    rw [← hN'] at hN ⊢
    have HN := Lib.hid hN'
    clear hN'
    go_wp2_with fail
    go_loopw [1, 5, 6] (fun n vo vs wr => ∃ m xo xs : Nat, m ≤ N ∧ n = .int .i64 m ∧ Num wr vo xo ∧ Num wr vs xs ∧ 1 ≤ xo ∧ 1 ≤ xs ∧ Hid (xo * xs ^ m = b ^ N) ∧ Below w.heap.size w wr) (fun n _ _ _ => (intOf n).toNat)
    case atStart => exact ⟨N, 1, b, Nat.le_refl _, rfl, ho, hs, Nat.le_refl _, hb1, Lib.hid (Nat.one_mul _), hbe⟩
    case round =>
      rename_i vo' vs' wr
      obtain ⟨m, xo, xs, hm, rfl, h1, h2, h3, h4, h5, h6⟩ := hrel
      by_cases h0 : m = 0
      · subst h0
        have e := h5.out
        rw [Nat.pow_zero, Nat.mul_one] at e
        subst e
        go_wp2
        go_ret
        exact ⟨_, rfl, by rw [← HN.out]; exact h1, h6⟩
      · obtain ⟨l1, l2⟩ := pow_sizes hb1 hb h3 h4 h5.out (by omega)
        by_cases hodd : m % 2 = 1
        · obtain ⟨k, rfl⟩ : ∃ k, m = 2 * k + 1 := ⟨m / 2, by omega⟩
          have t1 : (((2 * k + 1 : Nat) : Int) % 2 == 1) = true := by rw [beq_iff_eq]; omega
          by_cases hk : k = 0
          · subst hk
            go_wp2_with fail
            refine (mul_any _ _ xo xs _ h1 h2 (by omega)).mono ?_
            rintro e w3 ⟨v3, rfl, g1, g2⟩
            replace h2 := h2.below g2
            have h7 := h6.trans (g2.mono h6.size)
            clear h6 g2 h1
            go_wp2_with fail
            go_roundw
            case rel => exact ⟨0, xo * xs, xs, by omega, by go_num, g1, h2, Nat.mul_pos h3 h4, h4, Lib.hid (by rw [← h5.out]; simp), h7⟩
            case measure => simp [intOf]
          · go_wp2_with fail
            refine (mul_any _ _ xo xs _ h1 h2 (by omega)).mono ?_
            rintro e w3 ⟨v3, rfl, g1, g2⟩
            replace h2 := h2.below g2
            have h7 := h6.trans (g2.mono h6.size)
            clear h6 g2 h1
            go_wp2_with fail
            refine (mul_any _ _ xs xs _ h2 h2 (by omega)).mono ?_
            rintro e w4 ⟨v4, rfl, g3, g4⟩
            replace g1 := g1.below g4
            have h8 := h7.trans (g4.mono h7.size)
            clear h7 g4 h2
            go_wp2_with fail
            go_roundw
            case rel => exact ⟨k, xo * xs, xs * xs, by omega, by go_num, g1, g3, Nat.mul_pos h3 h4, Nat.mul_pos h4 h4, Lib.hid (pow_odd h5.out), h8⟩
            case measure => simp [intOf]; omega
        · obtain ⟨k, rfl⟩ : ∃ k, m = 2 * k := ⟨m / 2, by omega⟩
          have t1 : (((2 * k : Nat) : Int) % 2 == 1) = false := by rw [beq_eq_false_iff_ne]; omega
          go_wp2_with fail
          refine (mul_any _ _ xs xs _ h2 h2 (by omega)).mono ?_
          rintro e w4 ⟨v4, rfl, g3, g4⟩
          replace h1 := h1.below g4
          have h8 := h6.trans (g4.mono h6.size)
          clear h6 g4 h2
          go_wp2_with fail
          go_roundw
          case rel => exact ⟨k, xo, xs * xs, by omega, by go_num, h1, g3, h3, Nat.mul_pos h4 h4, Lib.hid (pow_even h5.out), h8⟩
          case measure => simp [intOf]; omega
end Go.Proofs.YtnlpkehllihllaaGreatDoor
