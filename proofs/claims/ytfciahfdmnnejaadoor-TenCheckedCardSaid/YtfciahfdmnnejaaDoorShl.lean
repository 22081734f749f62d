/-
  The walk of nat.Shl.
-/
import Derived.Test.YtfciahfdmnnejaaDoorNorm
import Derived.Test.YtfciahfdmnnejaaDoorShlP
import Derived.Deep.DeepCutAuto
namespace Go.Proofs.YtfciahfdmnnejaaDoor
open Go.RowKit

/-- trim of a number's words: all of them. -/
theorem trim_num (A : Option Addr) (x c : Nat) (w : World) (hr : RW w A (wds x)) (hc : lw x ≤ c) (hm : c ≤ maxLen) :
    Calls Tryd.prog 35 #[.slice A (lw x) c] w fun e w' => e = .returned (.slice A (lw x) (lw x)) ∧ w = w' := by
  have h := trim_any A (lw x) c (wds x) w hr rfl hc hm
  have e : tl (wds x) (lw x) = lw x := tl_wds x
  rwa [e] at h

/-- How far a shift goes. -/
def shN (n : Int) : Nat := (min (max n 0) 131072).toNat
theorem shN_le (n : Int) : shN n ≤ 131072 := by unfold shN; omega

/-- A slice that reads as a number and has no room behind it. -/
def NumC (w : World) (v : Value) (x : Nat) : Prop := ∃ A, v = .slice A (lw x) (lw x) ∧ lw x ≤ maxLen ∧ RW w A (wds x)
theorem NumC.num {w : World} {v : Value} {x : Nat} (h : NumC w v x) : Num w v x := by
  obtain ⟨A, e, h1, h2⟩ := h
  exact ⟨A, lw x, e, Nat.le_refl _, h1, h2⟩
theorem numC_of_wb {w : World} {g n : Nat} {o : List Nat} (h : WB w g o) (hl : o.length = n) (ho : okw o) (hn : n ≤ maxLen) : NumC w (.slice (some ⟨g, 0, none⟩) (tl o n) (tl o n)) (val o) := by
  subst hl
  have e := tl_len ho
  refine ⟨some ⟨g, 0, none⟩, by rw [e]; rfl, ?_, ?_⟩
  · have := tl_le o o.length
    rw [e] at this
    exact Nat.le_trans this hn
  · rw [← take_tl ho]; exact h.rw_.take _

set_option maxHeartbeats 1600000 in
set_option maxRecDepth 100000 in
/-- nat.Shl: times a power of 2. -/
theorem shl_c (va : Value) (x : Nat) (n : Int) (w : World) (ha : Num w va x) (hs : lw x ≤ 8796093022208) :
    Calls Tryd.prog 25 #[va, .int .i64 n] w fun e w' => ∃ v, e = .returned v ∧ NumC w' v (x * 2 ^ shN n) ∧ Below w.heap.size w w' := by
  obtain ⟨A, ca, rfl, hca, hma, hra⟩ := ha
  go_enter Tryd.func25, Tryd.ntmps25
  go_upto_region 1 with (fail)
  go_cut [1] (fun s wx => s = .int .i64 (shN n) ∧ wx = w)
  case first =>
    go_wp2_with fail
    all_goals
      go_meet
      exact ⟨congrArg (Value.int .i64) (by unfold shN; omega), rfl⟩
  case rest =>
    obtain ⟨rfl, rfl⟩ := hcut
    have hsl := shN_le n
    obtain ⟨s, hs'⟩ : ∃ s, s = shN n := ⟨_, rfl⟩
    rw [← hs'] at hsl ⊢
    have Hs' := Lib.hid hs'
    clear hs'
    obtain ⟨q, hq⟩ : ∃ q, q = s / 64 := ⟨_, rfl⟩
    obtain ⟨r, hr⟩ : ∃ r, r = s % 64 := ⟨_, rfl⟩
    have eq1 : (s : Int) / 64 = (q : Int) := by omega
    have er1 : (s : Int) % 64 = (r : Int) := by omega
    have hr64 : r < 64 := by omega
    have hq1 : q ≤ 2048 := by omega
    have hmk := fun W => make_nat (lw x + q + 1) (by omega) W
    have ec : ((lw x + q + 1 : Nat) : Int) = (lw x : Int) + (q : Int) + 1 := by omega
    rw [ec] at hmk
    clear ec
    have Hq := Lib.hid hq
    have Hr := Lib.hid hr
    clear hq hr
    go_wp2_with (go_at_call 35; refine (trim_num _ _ _ _ hra hca hma).mono ?_; rintro e w' ⟨rfl, rfl⟩)
    have hw0 : WB (wc.alloc (.cells (madeCells #[.int .u64 0] (lw x + q + 1)) 30)) wc.heap.size (List.replicate (lw x + q + 1) 0) := WB.made wc _
    have hb0 : Below wc.heap.size wc (wc.alloc (.cells (madeCells #[.int .u64 0] (lw x + q + 1)) 30)) := (Below.refl _ _).alloc (Nat.le_refl _) _
    clear hmk
    go_loopw [23] (fun i wr => ∃ (k : Nat) (o : List Nat), k ≤ lw x ∧ i = .int .i64 k ∧ Hid (WB wr wc.heap.size o) ∧ Hid (o.length = lw x + q + 1) ∧ Hid (okw o) ∧ Hid (val o = val ((wds x).take k) * 2 ^ r * bp q) ∧
        Hid (o.getD (k + q) 0 < 2 ^ r) ∧ Hid (∀ j, k + q < j → o.getD j 0 = 0) ∧ Below wc.heap.size wc wr)
      (fun i _ => lw x - (intOf i).toNat)
    case atStart => exact ⟨0, _, Nat.zero_le _, rfl, hw0, List.length_replicate, okw_replicate _, Lib.hid (by rw [val_replicate]; simp [val]), Lib.hid (by rw [rep_getD]; exact Nat.two_pow_pos r), Lib.hid (fun j _ => rep_getD _ j), hb0⟩
    case round =>
      obtain ⟨k, o, hk, rfl, ho1, ho2, ho3, ho4, ho5, ho6, hbe⟩ := hrel
      by_cases hlt : k < lw x
      · obtain ⟨ba, oa, rfl, hba, hcella⟩ := hra.at_ (k := k) hlt
        have hcx : wr.cell? ⟨ba, oa + k, none⟩ = some (U ((wds x).getD k 0)) := (hbe.cell (p := ⟨ba, oa + k, none⟩) hba).trans (hcella k hlt)
        have hxw := wds_get x k
        obtain ⟨xi, hxi⟩ : ∃ xi : Nat, xi = (wds x).getD k 0 := ⟨_, rfl⟩
        rw [← hxi] at hcx hxw
        have Hxi := Lib.hid hxi
        have hco : wr.cell? ⟨wc.heap.size, k + q, none⟩ = some (U (o.getD (k + q) 0)) := ho1.out.cell (by rw [ho2.out]; omega)
        have hfo : wr.frozen? ⟨wc.heap.size, k + q, none⟩ = false := ho1.out.frozen _
        have hco1 : wr.cell? ⟨wc.heap.size, k + q + 1, none⟩ = some (U (o.getD (k + q + 1) 0)) := ho1.out.cell (by rw [ho2.out]; omega)
        rw [ho6.out (k + q + 1) (by omega)] at hco1
        have hfo1 : wr.frozen? ⟨wc.heap.size, k + q + 1, none⟩ = false := ho1.out.frozen _
        have how := okw_get ho3.out (k + q)
        obtain ⟨oi, hoi⟩ : ∃ oi : Nat, oi = o.getD (k + q) 0 := ⟨_, rfl⟩
        rw [← hoi] at hco how
        have ho5' := ho5.out
        rw [← hoi] at ho5'
        obtain ⟨t, h, ht, hh, et, eh, eth⟩ := shl_word xi r oi hxw hr64 ho5'
        have Hoi := Lib.hid hoi
        have Het := Lib.hid et
        have Heh := Lib.hid eh
        have Hhh := Lib.hid hh
        clear hoi hcella hxi et eh ho5' hh
        go_wp2
        go_region
        go_wp2
        go_roundw
        case rel =>
          rw [Het.out, Heh.out]
          have hp := pow_lt64 hr64
          have hhh := Hhh.out
          refine ⟨k + 1, (o.set (k + q) t).set (k + q + 1) h, by omega, by go_num, (WB.set_ (WB.set_ ho1.out _ _) _ _), Lib.hid (by rw [List.length_set, List.length_set]; exact ho2.out), okw_set (okw_set ho3.out _ _ ht) _ _ (by omega), Lib.hid ?_, Lib.hid ?_, Lib.hid ?_,
            ((hbe.setCell (Nat.le_refl _) _).setCell (Nat.le_refl _) _).drew⟩
          · exact shl_round o (wds x) k q r t h xi hlt (by rw [ho2.out]; omega) Hxi.out (ho6.out _ (by omega)) ho4.out (by rw [← Hoi.out]; exact eth)
          · rw [show k + 1 + q = k + q + 1 by omega, List.getD_eq_getElem?_getD, List.getElem?_set_self (by rw [List.length_set, ho2.out]; omega)]; exact Hhh.out
          · intro j hj
            rw [List.getD_eq_getElem?_getD, List.getElem?_set_ne (by omega), List.getElem?_set_ne (by omega), ← List.getD_eq_getElem?_getD]; exact ho6.out j (by omega)
        case measure => simp [intOf]; omega
      · go_wp2_with (go_at_call 35; refine (trim_any _ _ _ o _ ho1.out.rw_ ho2.out (Nat.le_refl _) (by unfold maxLen; omega)).mono ?_; rintro e w' ⟨rfl, rfl⟩)
        go_ret
        refine ⟨_, rfl, ?_, hbe⟩
        have hkk : k = lw x := by omega
        have e := ho4.out
        rw [hkk, take_wds, val_wds] at e
        have e2 : x * 2 ^ shN n = x * 2 ^ r * bp q := by
          rw [← Hs'.out, bp_two, Nat.mul_assoc, ← Nat.pow_add]
          have h1 := Hq.out
          have h2 := Hr.out
          rw [show r + 64 * q = s by omega]
        rw [e2, ← e]
        exact numC_of_wb ho1.out ho2.out ho3.out (by unfold maxLen; omega)
theorem shl_any (va : Value) (x : Nat) (n : Int) (w : World) (ha : Num w va x) (hs : lw x ≤ 8796093022208) :
    Calls Tryd.prog 25 #[va, .int .i64 n] w fun e w' => ∃ v, e = .returned v ∧ Num w' v (x * 2 ^ shN n) ∧ Below w.heap.size w w' :=
  (shl_c va x n w ha hs).mono fun _ _ ⟨v, h1, h2, h3⟩ => ⟨v, h1, h2.num, h3⟩
end Go.Proofs.YtfciahfdmnnejaaDoor
