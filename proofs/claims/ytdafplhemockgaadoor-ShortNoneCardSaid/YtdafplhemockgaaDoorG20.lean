/-
  caliperlaw11.ShortNone returns true for every form and pattern, with no condition: part 20 of 21.
-/
import Derived.Test.YtdafplhemockgaaDoorG10
import Derived.Test.YtdafplhemockgaaDoorG19
import Derived.RegionTactic
import Derived.Test.YtdafplhemockgaaDoorG05
/-
  Plain law: how many digits a text of a number has.
-/
namespace Go.Proofs.YtdafplhemockgaaDoor
open Go.RowKit

theorem nDigits_ge : ∀ (u : Nat), u ≠ 0 → 10 ^ (Lib.nDigits u - 1) ≤ u := by
  intro u
  induction u using Nat.strongRecOn with
  | ind u ih =>
    intro h
    by_cases h0 : u < 10
    · rw [Lib.nDigits_small h0]; simp; omega
    · rw [Lib.nDigits_big h0]
      have h1 := ih (u / 10) (by omega) (by omega)
      have h2 := Lib.nDigits_pos (u / 10)
      obtain ⟨k, hk⟩ : ∃ k, Lib.nDigits (u / 10) = k + 1 := ⟨Lib.nDigits (u / 10) - 1, by omega⟩
      rw [hk] at h1 ⊢
      rw [show k + 1 - 1 = k by omega] at h1
      rw [show k + 1 + 1 - 1 = k + 1 by omega, Nat.pow_succ]
      omega
theorem textL_len : ∀ (x : Nat), x ≠ 0 → 1 ≤ (textL x).length ∧ 10 ^ ((textL x).length - 1) ≤ x := by
  intro x
  induction x using Nat.strongRecOn with
  | ind x ih =>
    intro h
    by_cases h0 : x < 10000000000000000000
    · rw [textL_small h0, Lib.decDigits_length]
      exact ⟨Lib.nDigits_pos x, nDigits_ge x h⟩
    · rw [textL_big h0]
      have hq : x / 10000000000000000000 ≠ 0 := by omega
      obtain ⟨h1, h2⟩ := ih (x / 10000000000000000000) (by omega) hq
      have h3 : (padL (x % 10000000000000000000)).length = 19 := by
        have h4 := decDigits_le (show x % 10000000000000000000 < 10000000000000000000 by omega)
        rw [Lib.decDigits_length] at h4
        unfold padL
        rw [List.length_append, List.length_replicate, Lib.decDigits_length]
        omega
      rw [List.length_append, h3]
      refine ⟨by omega, ?_⟩
      obtain ⟨k, hk⟩ : ∃ k, (textL (x / 10000000000000000000)).length = k + 1 := ⟨(textL (x / 10000000000000000000)).length - 1, by omega⟩
      rw [hk] at h2 ⊢
      rw [show k + 1 - 1 = k by omega] at h2
      rw [show k + 1 + 19 - 1 = k + 19 by omega, Nat.pow_add, show (10 : Nat) ^ 19 = 10000000000000000000 from rfl]
      omega
theorem S_len (l : List UInt8) : (⟨l.toArray⟩ : ByteArray).size = l.length := by
  show l.toArray.size = l.length
  simp
end Go.Proofs.YtdafplhemockgaaDoor

/-
  Plain laws: where the search for shortest digits ends; what it finds for two patterns.
-/
namespace Go.Proofs.YtdafplhemockgaaDoor
open Go.RowKit Go.Sort

/-- One round of the search: what nearer tells. -/
structure NearR (lo hi : Nat) (ev : Bool) (X T : Nat) (d : Nat) (ok : Bool) : Prop where
  is : ok = (oneB lo hi ev X T || twoB lo hi ev X T)
  dig : ok = true → (d = X / T ∨ d = X / T + 1) ∧ inI lo hi (d * T) ev = true
theorem nearR_of {lo hi X T : Nat} {ev : Bool} {a b ok : Bool} {d : Nat} (ha : a = oneB lo hi ev X T) (hb : b = twoB lo hi ev X T) (hd : (d = X / T + 1 ∧ b = true ∧ ok = true) ∨ (d = X / T ∧ b = false ∧ ok = a) ∨ (d = X / T ∧ a = true ∧ ok = true)) : NearR lo hi ev X T d ok := by
  subst ha hb
  rcases hd with ⟨h1, h2, rfl⟩ | ⟨h1, h2, rfl⟩ | ⟨h1, h2, rfl⟩
  · refine ⟨by rw [h2, Bool.or_true], fun _ => ⟨.inr h1, ?_⟩⟩
    unfold twoB at h2
    rw [Bool.and_eq_true] at h2
    rw [h1]; exact h2.2
  · refine ⟨by rw [h2, Bool.or_false], fun q => ⟨.inl h1, ?_⟩⟩
    rw [h1]; exact q
  · refine ⟨by rw [h2, Bool.true_or], fun _ => ⟨.inl h1, ?_⟩⟩
    rw [h1]; exact h2

/-- The search under way. -/
structure Seeks (lo hi : Nat) (ev : Bool) (X : Nat) (L k : Int) : Prop where
  top : k ≤ L
  bot : L - 20 ≤ k
  none : ∀ j : Int, k < j → j ≤ L → oneB lo hi ev X (TT j) = false ∧ twoB lo hi ev X (TT j) = false
theorem seeks_first {lo hi X : Nat} {ev : Bool} {L : Int} : Seeks lo hi ev X L L := ⟨by omega, by omega, fun j a b => by omega⟩
theorem seeks_next {lo hi X d : Nat} {ev : Bool} {L k : Int} (hX : Holds3 lo hi X) (hL : IsLg X L) (h : Seeks lo hi ev X L k) (hn : NearR lo hi ev X (TT k) d false) : L - 20 < k ∧ Seeks lo hi ev X L (k - 1) := by
  have h1 := hn.is
  have h2 := (Bool.or_eq_false_iff.1 h1.symm)
  have hk : L - 20 < k := by
    rcases Int.lt_or_le (L - 20) k with q | q
    · exact q
    · have h3 := one_far ev hX hL q (by have := h.bot; have := hL.2.2.1; omega)
      rw [h2.1] at h3
      cases h3
  refine ⟨hk, by have := h.top; omega, by omega, fun j a b => ?_⟩
  rcases Int.lt_or_le k j with q | q
  · exact h.none j q b
  · obtain rfl : j = k := by omega
    exact h2
theorem seeks_found {lo hi X d : Nat} {ev : Bool} {L k : Int} (h : Seeks lo hi ev X L k) (hn : NearR lo hi ev X (TT k) d true) : Found lo hi ev X L k d :=
  ⟨h.top, h.bot, (hn.dig rfl).1, (hn.dig rfl).2, h.none⟩

/-- What Short tells, but for the sign. -/
def ShortIs (lo hi : Nat) (ev : Bool) (X D : Nat) (K : Int) : Prop := ∃ (L k : Int) (d j : Nat), IsLg X L ∧ Found lo hi ev X L k d ∧ D * 10 ^ j = d ∧ D % 10 ≠ 0 ∧ K = k + j

theorem found_at {lo hi X d d0 d1 : Nat} {ev : Bool} {L L0 k k0 : Int} (h0 : IsLg X L0) (hL : IsLg X L) (h : Found lo hi ev X L k d) (hk0 : k0 ≤ L0) (h1 : oneB lo hi ev X (TT k0) = true)
    (hn : ∀ j : Int, k0 < j → j ≤ L0 → inI lo hi (X / TT j * TT j) ev = false ∧ inI lo hi ((X / TT j + 1) * TT j) ev = false) (hd : X / TT k0 = d0) (hd1 : d1 = d0 + 1) (h2 : inI lo hi (d1 * TT k0) ev = false) : k = k0 ∧ d = d0 := by
  obtain rfl := h0.one hL
  have ht := h.top
  rcases Int.lt_or_le k k0 with q | q
  · have := (h.none k0 q hk0).1
    rw [h1] at this; cases this
  · rcases Int.lt_or_le k0 k with r | r
    · obtain ⟨n1, n2⟩ := hn k r ht
      have h3 := h.has
      rcases h.dig with e | e
      · rw [e, n1] at h3; cases h3
      · rw [e, n2] at h3; cases h3
    · obtain rfl : k = k0 := by omega
      refine ⟨rfl, ?_⟩
      rcases h.dig with e | e
      · rw [e, hd]
      · have h3 := h.has
        rw [e, hd, ← hd1, h2] at h3; cases h3
theorem ten_none {D j d : Nat} (h : D * 10 ^ j = d) (hd : d % 10 ≠ 0) : j = 0 ∧ D = d := by
  rcases j with _ | j
  · exact ⟨rfl, by rw [← h, Nat.pow_zero, Nat.mul_one]⟩
  · rw [Nat.pow_succ, ← Nat.mul_assoc] at h
    omega
def lgB (X : Nat) (k : Int) : Bool := decide (ex 1 k k ≤ X) && decide (X < ex 1 (k + 1) (k + 1)) && decide (-430 ≤ k) && decide (k ≤ 421)
theorem lgB_is {X : Nat} {k : Int} (h : lgB X k = true) : IsLg X k := by
  unfold lgB at h
  simp only [Bool.and_eq_true, decide_eq_true_eq] at h
  exact ⟨h.1.1.1, h.1.1.2, h.1.2, h.2⟩

/-- The interval, and the number, of a pattern that is a number. -/
def pLo (n p : Nat) : Nat := lowB (formAt n) (pKey (formAt n) p)
def pHi (n p : Nat) : Nat := highB (formAt n) (mostN (formAt n) (pNeg (formAt n) p)) (pKey (formAt n) p)
def pEv (n p : Nat) : Bool := evenB (pKey (formAt n) p)
def pX (n p : Nat) : Nat := VV (formAt n) (pKey (formAt n) p)
theorem holds_p {n p : Nat} (h1 : 1 ≤ n) (h2 : n < 15) (hp : p < 2 ^ (formAt n).width) (hc : clsI (formAt n) p (pKey (formAt n) p) = 2) : Holds3 (pLo n p) (pHi n p) (pX n p) := by
  have hf := form_is h1 h2
  obtain ⟨q1, q2, q3, q4⟩ := cls_fin hf hp hc
  have hk : pKey (formAt n) p ≤ (formAt n).most := Nat.le_trans q1 (mostN_le _)
  have h0 : 1 ≤ pKey (formAt n) p ∨ (formAt n).kind = 4 := by rcases q2 with q | q; exact .inl (by omega); exact .inr q
  have a := gap_low hf hk h0
  exact ⟨a.1, a.2, gap_high hf hk h0⟩

def tenth : Bool := lgB (pX 14 4591870180066957722) (-1) && oneB (pLo 14 4591870180066957722) (pHi 14 4591870180066957722) (pEv 14 4591870180066957722) (pX 14 4591870180066957722) (TT (-1)) && decide (pX 14 4591870180066957722 / TT (-1) = 1) && !inI (pLo 14 4591870180066957722) (pHi 14 4591870180066957722) (2 * TT (-1)) (pEv 14 4591870180066957722)
set_option maxRecDepth 100000 in
theorem tenth_is : tenth = true := by decide +kernel
theorem short_tenth {D : Nat} {K : Int} (h : ShortIs (pLo 14 4591870180066957722) (pHi 14 4591870180066957722) (pEv 14 4591870180066957722) (pX 14 4591870180066957722) D K) : D = 1 ∧ K = -1 := by
  obtain ⟨L, k, d, j, hL, hF, e, m, rfl⟩ := h
  have t := tenth_is
  unfold tenth at t
  simp only [Bool.and_eq_true, decide_eq_true_eq, Bool.not_eq_true'] at t
  obtain ⟨⟨⟨t1, t2⟩, t3⟩, t4⟩ := t
  obtain ⟨rfl, rfl⟩ := found_at (d0 := 1) (d1 := 2) (lgB_is t1) hL hF (Int.le_refl _) t2 (fun j a b => by omega) t3 rfl t4
  obtain ⟨rfl, rfl⟩ := ten_none e (by decide)
  exact ⟨rfl, rfl⟩
def elev : Bool := lgB (pX 1 191) 0 && oneB (pLo 1 191) (pHi 1 191) (pEv 1 191) (pX 1 191) (TT (-1)) && decide (pX 1 191 / TT (-1) = 11) && !inI (pLo 1 191) (pHi 1 191) (12 * TT (-1)) (pEv 1 191) &&
  !inI (pLo 1 191) (pHi 1 191) (pX 1 191 / TT 0 * TT 0) (pEv 1 191) && !inI (pLo 1 191) (pHi 1 191) ((pX 1 191 / TT 0 + 1) * TT 0) (pEv 1 191)
set_option maxRecDepth 100000 in
theorem elev_is : elev = true := by decide +kernel
theorem short_elev {D : Nat} {K : Int} (h : ShortIs (pLo 1 191) (pHi 1 191) (pEv 1 191) (pX 1 191) D K) : D = 11 ∧ K = -1 := by
  obtain ⟨L, k, d, j, hL, hF, e, m, rfl⟩ := h
  have t := elev_is
  unfold elev at t
  simp only [Bool.and_eq_true, decide_eq_true_eq, Bool.not_eq_true'] at t
  obtain ⟨⟨⟨⟨⟨t1, t2⟩, t3⟩, t4⟩, t5⟩, t6⟩ := t
  have hz : ∀ j : Int, -1 < j → j ≤ 0 → inI (pLo 1 191) (pHi 1 191) (pX 1 191 / TT j * TT j) (pEv 1 191) = false ∧ inI (pLo 1 191) (pHi 1 191) ((pX 1 191 / TT j + 1) * TT j) (pEv 1 191) = false := by
    intro j a b
    obtain rfl : j = 0 := by omega
    exact ⟨t5, t6⟩
  obtain ⟨rfl, rfl⟩ := found_at (d0 := 11) (d1 := 12) (lgB_is t1) hL hF (by decide) t2 hz t3 rfl t4
  obtain ⟨rfl, rfl⟩ := ten_none e (by decide)
  exact ⟨rfl, rfl⟩
/-- One digit less has another pattern. -/
theorem none_law {n p D : Nat} {K : Int} (h1 : 1 ≤ n) (h2 : n < 15) (hp : p < 2 ^ (formAt n).width) (hc : clsI (formAt n) p (pKey (formAt n) p) = 2) (h : ShortIs (pLo n p) (pHi n p) (pEv n p) (pX n p) D K) :
    D ≠ 0 ∧ 1 ≤ (textL D).length ∧ (textL D).length ≤ 22 ∧ (2 ≤ (textL D).length → ∀ L, IsLg (pX n p) L → ∃ d k, d = pX n p / TT k ∧ k = L + 2 - (textL D).length ∧ 1 ≤ d ∧ d < 10 ^ 22 ∧ -500 ≤ k ∧ k ≤ 500 ∧
      (∀ q, RoundIs (formAt n) 2 (pNeg (formAt n) p) (ex d k k) q → q ≠ p) ∧ (∀ q, RoundIs (formAt n) 2 (pNeg (formAt n) p) (ex (d + 1) k k) q → q ≠ p)) := by
  have hf := form_is h1 h2
  have hW := form_w h1 h2
  have hX := holds_p h1 h2 hp hc
  obtain ⟨L, k, d, j, hL, hF, e, m, rfl⟩ := h
  have hD : D ≠ 0 := fun q => by rw [q] at m; exact m rfl
  obtain ⟨t1, t2⟩ := textL_len D hD
  obtain ⟨t3, t4⟩ := less_not hX hL hF e m t2
  refine ⟨hD, t1, t3, fun t5 L' hL' => ?_⟩
  obtain rfl := hL'.one hL
  obtain ⟨d2, r1, r2, r3, r4, r5, r6, r7⟩ := t4 t5
  have hl1 := hL'.2.2.1
  have hl2 := hL'.2.2.2
  have hpos : ∀ d : Nat, 1 ≤ d → ∀ k : Int, 0 < ex d k k := fun d hd k => ex_pos (by omega) _ _
  refine ⟨d2, L' + 2 - (textL D).length, r1, rfl, r2, r3, by omega, by omega, fun q hq => ?_, fun q hq => ?_⟩
  · exact round_not hf hW hp hc (hpos _ r2 _) (by rw [ex_TT]; exact r6) hq
  · exact round_not hf hW hp hc (hpos _ (by omega) _) (by rw [ex_TT]; exact r7) hq
theorem full_one {D j : Nat} (h : D * 10 ^ j = 1125) : j = 0 ∧ D = 1125 := ten_none h (by decide)
end Go.Proofs.YtdafplhemockgaaDoor

/-
  The walk of short.finite.
-/
namespace Go.Proofs.YtdafplhemockgaaDoor
open Go.RowKit Go.Sort

/-- No cell is a word but a nought. -/
def noU0 (cs : Array Value) : Bool := cs.all fun v => match v with | .int .u64 k => k == 0 | _ => true
/-- A number that is not 0 keeps its words where a block is written to that holds no word but noughts. -/
theorem Num.off0 {w w' : World} {g : Nat} {v : Value} {x : Nat} {t : TypeId} {cs : Array Value} (h : Num w v x) (hx : x ≠ 0) (hk : Blk w g t cs) (hn : noU0 cs = true) (ho : Off g w w') : Num w' v x := by
  obtain ⟨A, c, e, h1, h2, h3⟩ := h
  refine ⟨A, c, e, h1, h2, ?_⟩
  rcases h3 with h3 | ⟨b, off, e, hb, hc⟩
  · exact .inl h3
  · by_cases hg : b = g
    · subst hg
      exfalso
      have hl := lw_pos hx
      have hw := last_word hx
      have h0 := hc (lw x - 1) (by rw [wds_length]; omega)
      rw [Blk.cell hk] at h0
      have h4 := Array.all_eq_true.1 hn (off + (lw x - 1)) (Array.getElem?_eq_some_iff.1 h0).1
      have h5 := (Array.getElem?_eq_some_iff.1 h0).2
      rw [h5] at h4
      simp at h4
      rw [List.getD_eq_getElem?_getD] at hw
      exact hw h4
    · exact .inr ⟨b, off, e, by rw [ho.size]; exact hb, fun j hj => (ho.cell (p := ⟨b, off + j, none⟩) hg).trans (hc j hj)⟩

/-- The size that a pattern means. -/
def pMan (n p : Nat) : Nat := oM (formAt n) 0 (pKey (formAt n) p)
def pExp (n p : Nat) : Int := oE (formAt n) 0 (pKey (formAt n) p)
/-- What is known of it. -/
structure PNum (n p : Nat) : Prop where
  lt : pMan n p < 18446744073709551616
  pos : pMan n p ≠ 0
  e1 : -1100 ≤ pExp n p
  e2 : pExp n p ≤ 1170
  is : ex (pMan n p) (pExp n p) 0 = pX n p
theorem pnum {n p : Nat} (h1 : 1 ≤ n) (h2 : n < 15) (hp : p < 2 ^ (formAt n).width) (hc : clsI (formAt n) p (pKey (formAt n) p) = 2) : PNum n p := by
  have hf := form_is h1 h2
  obtain ⟨q1, q2, q3, q4⟩ := cls_fin hf hp hc
  have hok := keyOk_at (f := formAt n) (Nat.le_trans q1 (mostN_le _)) q2
  exact ⟨oM_lt hf hok, oM_pos hf hok, (oE_bd hf hok).1, (oE_bd hf hok).2, o_ex hf hok⟩
theorem dec_is {n p : Nat} (hc : clsI (formAt n) p (pKey (formAt n) p) = 2) : decNeg (formAt n) p = pNeg (formAt n) p ∧ decM (formAt n) p = pMan n p ∧ decE (formAt n) p = pExp n p := by
  unfold decNeg decM decE pMan pExp
  rw [hc]
  exact ⟨if_neg (by decide), if_pos rfl, if_pos rfl⟩

set_option maxHeartbeats 3200000 in
set_option maxRecDepth 100000 in
/-- short.finite of what is Finite. -/
theorem finite_any (n p : Nat) (w : World) (h1 : 1 ≤ n) (h2 : n < 15) (hp : p < 2 ^ (formAt n).width) (hc : clsI (formAt n) p (pKey (formAt n) p) = 2) (hE : Env w) :
    Calls Tryd.prog 17 #[.int .i64 n, U p] w fun r w' => ∃ A c, r = .returned (.tuple #[.agg #[.int .i64 2, .bool (pNeg (formAt n) p), U (pMan n p), .int .i64 (pExp n p)], .agg #[.bool false, .slice A (lw (pMan n p)) c, .int .i64 (pExp n p), .int .i64 0], .int .i64 0]) ∧ Num w' (.slice A (lw (pMan n p)) c) (pMan n p) ∧ Below w.heap.size w w' := by
  have hpn := pnum h1 h2 hp hc
  obtain ⟨d1, d2, d3⟩ := dec_is hc
  obtain ⟨wz, hwz, hz0, hz1, hzb⟩ := two_blks w 32 36 #[.int .i64 0, .bool false, .int .u64 0, .int .i64 0] #[.bool false, .slice none 0 0, .int .i64 0, .int .i64 0]
  have De := Lib.hid (decode_any n p wz h1 h2 hp (hE.below hzb))
  rw [hc, d1, d2, d3] at De
  have b1 := hpn.lt
  have b2 := hpn.e1
  have hm0 := hpn.pos
  have b3 := hpn.e2
  obtain ⟨M, hM⟩ : ∃ M, M = pMan n p := ⟨_, rfl⟩
  obtain ⟨E, hEE⟩ : ∃ E, E = pExp n p := ⟨_, rfl⟩
  obtain ⟨ng, hng⟩ : ∃ ng, ng = pNeg (formAt n) p := ⟨_, rfl⟩
  rw [← hM, ← hEE, ← hng] at De
  rw [← hM] at b1 hm0
  have HM0 := Lib.hid hm0
  rw [← hEE] at b2 b3
  rw [← hM, ← hEE, ← hng]
  have Of := Lib.hid fun W => xof_fin false M E W b1 (by omega) (by omega)
  have HZ0 := Lib.hid hz0
  have HZ1 := Lib.hid hz1
  have HZB := Lib.hid hzb
  clear hm0 hM hEE hng hpn d1 d2 d3 hz0 hz1 hzb hE hc hp
  go_enter Tryd.func17, Tryd.ntmps17
  go_upto_region 1 with (fail)
  rw [← hwz]
  clear hwz
  go_wp2_with fail
  ((with_reducible refine (De.out).mono ?_); rintro r w1 ⟨rfl, g1⟩)
  have HZ01 := Lib.hid (Blk.below HZ0.out g1 HZ0.out.lt)
  have HZ11 := Lib.hid (Blk.below HZ1.out g1 HZ1.out.lt)
  obtain ⟨hka, b5⟩ := new4 w1 32 (.int .i64 2) (.bool ng) (U M) (.int .i64 E)
  obtain ⟨wa, hwa⟩ : ∃ wa, wa = w1.alloc (.cells #[.int .i64 2, .bool ng, U M, .int .i64 E] 32) := ⟨_, rfl⟩
  rw [← hwa] at hka b5
  have HZ02 := Lib.hid (Blk.below HZ01.out b5 HZ01.out.lt)
  have HZ12 := Lib.hid (Blk.below HZ11.out b5 HZ11.out.lt)
  have HKA := Lib.hid hka
  have HB1 := Lib.hid (HZB.out.trans ((g1.trans (b5.mono g1.size)).mono HZB.out.size))
  have hlt1 := HZ11.out.lt
  clear g1 b5 hka HZ0 HZ1 HZ01 HZ11 HZB De
  obtain ⟨k0, k1, k2, k3⟩ := rest4 HKA.out
  go_upto_region 2 with (fail)
  rw [← hwa]
  clear hwa
  go_wp2_with fail
  ((with_reducible refine (Of.out _).mono ?_); rintro r w2 ⟨v, rfl, n2, g2⟩)
  have HZ03 := Lib.hid (Blk.below HZ02.out g2 HZ02.out.lt)
  have HZ13 := Lib.hid (Blk.below HZ12.out g2 HZ12.out.lt)
  have HKA3 := Lib.hid (Blk.below HKA.out g2 HKA.out.lt)
  have n2c := n2
  obtain ⟨A, c, rfl, _, _, _⟩ := n2c
  obtain ⟨hkb, b6⟩ := new4 w2 36 (.bool false) (.slice A (lw M) c) (.int .i64 E) (.int .i64 0)
  obtain ⟨wb, hwb⟩ : ∃ wb, wb = w2.alloc (.cells #[.bool false, .slice A (lw M) c, .int .i64 E, .int .i64 0] 36) := ⟨_, rfl⟩
  rw [← hwb] at hkb b6
  have HZ04 := Lib.hid (Blk.below HZ03.out b6 HZ03.out.lt)
  have HZ14 := Lib.hid (Blk.below HZ13.out b6 HZ13.out.lt)
  have HKA4 := Lib.hid (Blk.below HKA3.out b6 HKA3.out.lt)
  have HKB := Lib.hid hkb
  have HN := Lib.hid (n2.below b6)
  have HB2 := Lib.hid (HB1.out.trans ((g2.trans (b6.mono g2.size)).mono HB1.out.size))
  have hlt2 := HKA3.out.lt
  clear g2 b6 hkb n2 HZ02 HZ12 HZ03 HZ13 HKA HKA3 HB1 k0 k1 k2 k3 Of
  obtain ⟨k0, k1, k2, k3⟩ := rest4 HKA4.out
  obtain ⟨j0, j1, j2, j3⟩ := rest4 HKB.out
  have q0 : ∀ o, wb.frozen? ⟨w.heap.size, o, none⟩ = false := fun o => Blk.frozen HZ04.out o
  have q1 : ∀ o, wb.frozen? ⟨w.heap.size + 1, o, none⟩ = false := fun o => Blk.frozen HZ14.out o
  obtain ⟨y0, y1, y2, y3⟩ := rest4 HZ04.out
  obtain ⟨z0, z1, z2, z3⟩ := rest4 HZ14.out
  go_upto_region 7 with (fail)
  rw [← hwb]
  clear hwb
  go_region
  obtain ⟨w5, hw5, hk5, hb5, ho5⟩ := stored4 HZ04.out (Nat.le_refl _) HB2.out (.int .i64 2) (.bool ng) (U M) (.int .i64 E)
  have hk15 : Blk w5 (w.heap.size + 1) 36 #[.bool false, .slice none 0 0, .int .i64 0, .int .i64 0] := (ho5.block (w.heap.size + 1) (by omega)).trans HZ14.out
  have hn5 := HN.out.off0 HM0.out HZ04.out (by simp [noU0]) ho5
  obtain ⟨w6, hw6, hk6, hb6, ho6⟩ := stored4 hk15 (Nat.le_succ _) hb5 (.bool false) (.slice A (lw M) c) (.int .i64 E) (.int .i64 0)
  have hk06 : Blk w6 w.heap.size 32 #[.int .i64 2, .bool ng, U M, .int .i64 E] := (ho6.block w.heap.size (by omega)).trans hk5
  have hn6 := hn5.off hk15 (by simp [noU]) ho6
  rw [hw5, hw6]
  have HF := Lib.hid (And.intro hn6 hb6)
  clear k0 k1 k2 k3 j0 j1 j2 j3 y0 y1 y2 y3 z0 z1 z2 z3 q0 q1 hw5 hw6 hn5 hn6 hb5 hb6 hk15 hk5 ho5 ho6
  obtain ⟨r0, r1, r2, r3⟩ := rest4 hk06
  obtain ⟨s0, s1, s2, s3⟩ := rest4 hk6
  go_wp2_with fail
  exact bodyPost_ret (v := .tuple #[.agg #[.int .i64 2, .bool ng, U M, .int .i64 E], .agg #[.bool false, .slice A (lw M) c, .int .i64 E, .int .i64 0], .int .i64 0]) (by simp [results, Tryd.results17, go_sem, r0, r1, r2, r3, s0, s1, s2, s3]) rfl
    ⟨A, c, rfl, HF.out.1.drew, HF.out.2.drew⟩
end Go.Proofs.YtdafplhemockgaaDoor

/-
  The walks of short.finite, Short, Full of what is not Finite.
-/
namespace Go.Proofs.YtdafplhemockgaaDoor
open Go.RowKit Go.Sort

/-- What Decode tells of what is not Finite, and the error that is told. -/
def NotFin (n : Int) (p : Nat) (c : Int) (g : Bool) (m t e : Int) : Prop := ∃ e0, ((e0 ≠ 0 ∧ e = e0) ∨ (e0 = 0 ∧ c ≠ 2 ∧ e = 5)) ∧
  ∀ W, Env W → Calls Tryd.prog 6 #[.int .i64 n, U p] W fun r w' => r = .returned (.tuple #[.agg #[.int .i64 c, .bool g, .int .u64 m, .int .i64 t], .int .i64 e0]) ∧ Below W.heap.size W w'
theorem NotFin.ne {n : Int} {p : Nat} {c : Int} {g : Bool} {m t e : Int} (h : NotFin n p c g m t e) : e ≠ 0 := by
  obtain ⟨e0, h | h, _⟩ := h
  · omega
  · omega

set_option maxHeartbeats 3200000 in
set_option maxRecDepth 100000 in
/-- short.finite of what is not Finite. -/
theorem finite_bad (n : Int) (p : Nat) (c : Int) (g : Bool) (m t e : Int) (w : World) (h : NotFin n p c g m t e) (hE : Env w) :
    Calls Tryd.prog 17 #[.int .i64 n, U p] w fun r w' => r = .returned (.tuple #[.agg #[.int .i64 c, .bool g, .int .u64 m, .int .i64 t], .agg #[.bool false, .slice none 0 0, .int .i64 0, .int .i64 0], .int .i64 e]) ∧ Below w.heap.size w w' := by
  obtain ⟨e0, hcase, De⟩ := h
  obtain ⟨wz, hwz, hz0, hz1, hzb⟩ := two_blks w 32 36 #[.int .i64 0, .bool false, .int .u64 0, .int .i64 0] #[.bool false, .slice none 0 0, .int .i64 0, .int .i64 0]
  have De2 := Lib.hid (De wz (hE.below hzb))
  have HZ0 := Lib.hid hz0
  have HZ1 := Lib.hid hz1
  have HZB := Lib.hid hzb
  clear hz0 hz1 hzb hE De
  go_enter Tryd.func17, Tryd.ntmps17
  go_upto_region 1 with (fail)
  rw [← hwz]
  clear hwz
  go_wp2_with fail
  ((with_reducible refine (De2.out).mono ?_); rintro r w1 ⟨rfl, g1⟩)
  have HZ01 := Lib.hid (Blk.below HZ0.out g1 HZ0.out.lt)
  have HZ11 := Lib.hid (Blk.below HZ1.out g1 HZ1.out.lt)
  obtain ⟨hka, b5⟩ := new4 w1 32 (.int .i64 c) (.bool g) (.int .u64 m) (.int .i64 t)
  obtain ⟨wa, hwa⟩ : ∃ wa, wa = w1.alloc (.cells #[.int .i64 c, .bool g, .int .u64 m, .int .i64 t] 32) := ⟨_, rfl⟩
  rw [← hwa] at hka b5
  have HZ02 := Lib.hid (Blk.below HZ01.out b5 HZ01.out.lt)
  have HZ12 := Lib.hid (Blk.below HZ11.out b5 HZ11.out.lt)
  have HKA := Lib.hid hka
  have HB1 := Lib.hid (HZB.out.trans ((g1.trans (b5.mono g1.size)).mono HZB.out.size))
  have hlt1 := HZ11.out.lt
  clear g1 b5 hka HZ0 HZ1 HZ01 HZ11 HZB De2
  obtain ⟨k0, k1, k2, k3⟩ := rest4 HKA.out
  have q0 : ∀ o, wa.frozen? ⟨w.heap.size, o, none⟩ = false := fun o => Blk.frozen HZ02.out o
  have q1 : ∀ o, wa.frozen? ⟨w.heap.size + 1, o, none⟩ = false := fun o => Blk.frozen HZ12.out o
  obtain ⟨y0, y1, y2, y3⟩ := rest4 HZ02.out
  obtain ⟨z0, z1, z2, z3⟩ := rest4 HZ12.out
  go_upto_region 2 with (fail)
  rw [← hwa]
  clear hwa
  rcases hcase with ⟨h0, rfl⟩ | ⟨rfl, h0, rfl⟩
  · have te : (e != 0) = true := by simpa using h0
    clear h0
    go_wp2_with fail
    obtain ⟨w5, hw5, hk5, hb5, ho5⟩ := stored4 HZ02.out (Nat.le_refl _) HB1.out (.int .i64 c) (.bool g) (.int .u64 m) (.int .i64 t)
    have hk15 : Blk w5 (w.heap.size + 1) 36 #[.bool false, .slice none 0 0, .int .i64 0, .int .i64 0] := (ho5.block (w.heap.size + 1) (by omega)).trans HZ12.out
    obtain ⟨w6, hw6, hk6, hb6, ho6⟩ := stored4 hk15 (Nat.le_succ _) hb5 (.bool false) (.slice none 0 0) (.int .i64 0) (.int .i64 0)
    have hk06 : Blk w6 w.heap.size 32 #[.int .i64 c, .bool g, .int .u64 m, .int .i64 t] := (ho6.block w.heap.size (by omega)).trans hk5
    rw [hw5, hw6]
    obtain ⟨r0, r1, r2, r3⟩ := rest4 hk06
    obtain ⟨s0, s1, s2, s3⟩ := rest4 hk6
    exact bodyPost_ret (v := .tuple #[.agg #[.int .i64 c, .bool g, .int .u64 m, .int .i64 t], .agg #[.bool false, .slice none 0 0, .int .i64 0, .int .i64 0], .int .i64 e]) (by simp [results, Tryd.results17, go_sem, r0, r1, r2, r3, s0, s1, s2, s3]) rfl ⟨rfl, hb6⟩
  · have te : (c != 2) = true := by simpa using h0
    clear h0
    go_wp2_with fail
    obtain ⟨w5, hw5, hk5, hb5, ho5⟩ := stored4 HZ02.out (Nat.le_refl _) HB1.out (.int .i64 c) (.bool g) (.int .u64 m) (.int .i64 t)
    have hk15 : Blk w5 (w.heap.size + 1) 36 #[.bool false, .slice none 0 0, .int .i64 0, .int .i64 0] := (ho5.block (w.heap.size + 1) (by omega)).trans HZ12.out
    obtain ⟨w6, hw6, hk6, hb6, ho6⟩ := stored4 hk15 (Nat.le_succ _) hb5 (.bool false) (.slice none 0 0) (.int .i64 0) (.int .i64 0)
    have hk06 : Blk w6 w.heap.size 32 #[.int .i64 c, .bool g, .int .u64 m, .int .i64 t] := (ho6.block w.heap.size (by omega)).trans hk5
    rw [hw5, hw6]
    obtain ⟨r0, r1, r2, r3⟩ := rest4 hk06
    obtain ⟨s0, s1, s2, s3⟩ := rest4 hk6
    exact bodyPost_ret (v := .tuple #[.agg #[.int .i64 c, .bool g, .int .u64 m, .int .i64 t], .agg #[.bool false, .slice none 0 0, .int .i64 0, .int .i64 0], .int .i64 5]) (by simp [results, Tryd.results17, go_sem, r0, r1, r2, r3, s0, s1, s2, s3]) rfl ⟨rfl, hb6⟩

set_option maxHeartbeats 3200000 in
set_option maxRecDepth 100000 in
/-- short.Short of what is not Finite. -/
theorem short_bad (n : Int) (p : Nat) (c : Int) (g : Bool) (m t e : Int) (w : World) (h : NotFin n p c g m t e) (hE : Env w) :
    Calls Tryd.prog 5 #[.int .i64 n, U p] w fun r w' => r = .returned (.tuple #[.agg #[.bool false, .slice none 0 0, .int .i64 0], .int .i64 e]) ∧ Below w.heap.size w w' := by
  have te : (e != 0) = true := by simpa using h.ne
  obtain ⟨hk0, hb0⟩ := new3 w 27 (.bool false) (.slice none 0 0) (.int .i64 0)
  obtain ⟨w0, hw0⟩ : ∃ w0, w0 = w.alloc (.cells #[.bool false, .slice none 0 0, .int .i64 0] 27) := ⟨_, rfl⟩
  rw [← hw0] at hk0 hb0
  have Fi := Lib.hid (finite_bad n p c g m t e w0 h (hE.below hb0))
  have HK0 := Lib.hid hk0
  have HB0 := Lib.hid hb0
  clear hk0 hb0 hE h
  go_enter Tryd.func5, Tryd.ntmps5
  go_upto_region 1 with (fail)
  rw [← hw0]
  clear hw0
  go_wp2_with fail
  ((with_reducible refine (Fi.out).mono ?_); rintro r w1 ⟨rfl, g1⟩)
  obtain ⟨wz, hwz, hz0, hz1, hzb⟩ := two_blks w1 32 36 #[.int .i64 c, .bool g, .int .u64 m, .int .i64 t] #[.bool false, .slice none 0 0, .int .i64 0, .int .i64 0]
  have HKR := Lib.hid (Blk.below (Blk.below HK0.out g1 HK0.out.lt) hzb (Nat.lt_of_lt_of_le HK0.out.lt g1.size))
  have HB1 := Lib.hid (HB0.out.trans ((g1.trans (hzb.mono g1.size)).mono HB0.out.size))
  clear g1 hz0 hz1 hzb HK0 HB0 Fi
  go_upto_region 2 with (fail)
  rw [← hwz]
  clear hwz
  obtain ⟨x0, x1, x2⟩ := rest3 HKR.out
  have q0 : ∀ o, wz.frozen? ⟨w.heap.size, o, none⟩ = false := fun o => Blk.frozen HKR.out o
  go_wp2_with fail
  obtain ⟨w8, hw8, hk8, hb8, ho8⟩ := stored3 HKR.out (Nat.le_refl _) HB1.out (.bool false) (.slice none 0 0) (.int .i64 0)
  obtain ⟨r0, r1, r2⟩ := rest3 hk8
  rw [hw8]
  exact bodyPost_ret (v := .tuple #[.agg #[.bool false, .slice none 0 0, .int .i64 0], .int .i64 e]) (by simp [results, Tryd.results5, go_sem, r0, r1, r2]) rfl ⟨rfl, hb8⟩

set_option maxHeartbeats 3200000 in
set_option maxRecDepth 100000 in
/-- short.Full of what is not Finite. -/
theorem full_bad (n : Int) (p : Nat) (c : Int) (g : Bool) (m t e : Int) (w : World) (h : NotFin n p c g m t e) (hE : Env w) :
    Calls Tryd.prog 15 #[.int .i64 n, U p] w fun r w' => r = .returned (.tuple #[.agg #[.bool false, .slice none 0 0, .int .i64 0], .int .i64 e]) ∧ Below w.heap.size w w' := by
  have te : (e != 0) = true := by simpa using h.ne
  obtain ⟨hk0, hb0⟩ := new3 w 27 (.bool false) (.slice none 0 0) (.int .i64 0)
  obtain ⟨w0, hw0⟩ : ∃ w0, w0 = w.alloc (.cells #[.bool false, .slice none 0 0, .int .i64 0] 27) := ⟨_, rfl⟩
  rw [← hw0] at hk0 hb0
  have Fi := Lib.hid (finite_bad n p c g m t e w0 h (hE.below hb0))
  have HK0 := Lib.hid hk0
  have HB0 := Lib.hid hb0
  clear hk0 hb0 hE h
  go_enter Tryd.func15, Tryd.ntmps15
  go_upto_region 1 with (fail)
  rw [← hw0]
  clear hw0
  go_wp2_with fail
  ((with_reducible refine (Fi.out).mono ?_); rintro r w1 ⟨rfl, g1⟩)
  obtain ⟨wz, hwz, hz0, hz1, hzb⟩ := two_blks w1 32 36 #[.int .i64 c, .bool g, .int .u64 m, .int .i64 t] #[.bool false, .slice none 0 0, .int .i64 0, .int .i64 0]
  have HKR := Lib.hid (Blk.below (Blk.below HK0.out g1 HK0.out.lt) hzb (Nat.lt_of_lt_of_le HK0.out.lt g1.size))
  have HB1 := Lib.hid (HB0.out.trans ((g1.trans (hzb.mono g1.size)).mono HB0.out.size))
  clear g1 hz0 hz1 hzb HK0 HB0 Fi
  go_upto_region 2 with (fail)
  rw [← hwz]
  clear hwz
  obtain ⟨x0, x1, x2⟩ := rest3 HKR.out
  have q0 : ∀ o, wz.frozen? ⟨w.heap.size, o, none⟩ = false := fun o => Blk.frozen HKR.out o
  go_wp2_with fail
  obtain ⟨w8, hw8, hk8, hb8, ho8⟩ := stored3 HKR.out (Nat.le_refl _) HB1.out (.bool false) (.slice none 0 0) (.int .i64 0)
  obtain ⟨r0, r1, r2⟩ := rest3 hk8
  rw [hw8]
  exact bodyPost_ret (v := .tuple #[.agg #[.bool false, .slice none 0 0, .int .i64 0], .int .i64 e]) (by simp [results, Tryd.results15, go_sem, r0, r1, r2]) rfl ⟨rfl, hb8⟩

/-- What is not Finite: no form, no pattern of it, or no number. -/
theorem not_fin (n : Int) (p : Nat) (hp : p < 18446744073709551616) : (∃ k : Nat, n = k ∧ 1 ≤ k ∧ k < 15 ∧ p < 2 ^ (formAt k).width ∧ clsI (formAt k) p (pKey (formAt k) p) = 2) ∨ ∃ c g m t e, NotFin n p c g m t e := by
  by_cases he : fitE n p = 0
  · have hn : ¬ (n < 1 ∨ 15 ≤ n) := by
      intro q
      unfold fitE at he
      rw [if_pos q] at he
      cases he
    obtain ⟨k, rfl⟩ : ∃ k : Nat, n = k := ⟨n.toNat, by omega⟩
    have hp2 : p < 2 ^ (formAt k).width := by
      unfold fitE at he
      rw [if_neg hn] at he
      split at he
      · next q => exact q
      · cases he
    by_cases hc : clsI (formAt k) p (pKey (formAt k) p) = 2
    · exact .inl ⟨k, rfl, by omega, by omega, hp2, hc⟩
    · exact .inr ⟨_, _, _, _, 5, 0, .inr ⟨rfl, hc, rfl⟩, fun W hE => decode_any k p W (by omega) (by omega) hp2 hE⟩
  · exact .inr ⟨_, _, _, _, _, fitE n p, .inl ⟨he, rfl⟩, fun W hE => decode_bad n p W hp he hE⟩
end Go.Proofs.YtdafplhemockgaaDoor

/-
  The walk of caliperlaw11.is.
-/
namespace Go.Proofs.YtdafplhemockgaaDoor
open Go.RowKit Go.Sort

theorem num_one {w : World} {A : Option Addr} {c n : Nat} (h : Num w (.slice A (lw n) c) n) (h0 : n ≠ 0) (hn : n < 18446744073709551616) : ∃ b off, A = some ⟨b, off, none⟩ ∧ w.cell? ⟨b, off, none⟩ = some (U n) ∧ lw n = 1 ∧ 1 ≤ c ∧ c ≤ maxLen := by
  obtain ⟨A', c', e, h1, h2, h3⟩ := h
  cases e
  have hl := lw_word hn h0
  rcases h3 with h3 | ⟨b, off, e, hb, hc⟩
  · rw [wds_word hn h0] at h3; cases h3
  · have hc0 := hc 0 (by rw [wds_word hn h0]; simp)
    rw [wds_word hn h0] at hc0
    exact ⟨b, off, e, by simpa using hc0, hl, by omega, h2⟩

set_option maxHeartbeats 3200000 in
set_option maxRecDepth 100000 in
/-- caliperlaw11.is. -/
theorem is_true (g : Bool) (A : Option Addr) (c n : Nat) (k : Int) (w : World) (h : Num w (.slice A (lw n) c) n) (h0 : n ≠ 0) (hn : n < 18446744073709551616) :
    Calls Tryd.prog 16 #[.agg #[.bool g, .slice A (lw n) c, .int .i64 k], .bool g, U n, .int .i64 k] w fun r w' => r = .returned (.bool true) ∧ Below w.heap.size w w' := by
  obtain ⟨b, off, rfl, hc, hl, hc1, hcm⟩ := num_one h h0 hn
  obtain ⟨hk, hb⟩ := new3 w 27 (.bool g) (.slice (some ⟨b, off, none⟩) (lw n) c) (.int .i64 k)
  obtain ⟨w0, hw0⟩ : ∃ w0, w0 = w.alloc (.cells #[.bool g, .slice (some ⟨b, off, none⟩) (lw n) c, .int .i64 k] 27) := ⟨_, rfl⟩
  rw [← hw0] at hk hb
  have hc0 : w0.cell? ⟨b, off, none⟩ = some (U n) := (hb.cell (World.block_lt_of_cell? _ _ hc)).trans hc
  have HB := Lib.hid hb
  rw [hl] at hk hw0 ⊢
  obtain ⟨x0, x1, x2⟩ := rest3 hk
  have t1 : ((g : Bool) == g) = true := by simp
  have t2 : ((n : Int) == (n : Int)) = true := by simp
  have t3 : (k == k) = true := by simp
  clear hk hb h h0 hn hc
  go_enter Tryd.func16, Tryd.ntmps16
  go_upto_region 1 with (fail)
  rw [← hw0]
  clear hw0
  go_wp2_with fail
  go_ret
  exact ⟨rfl, HB.out⟩

end Go.Proofs.YtdafplhemockgaaDoor

/-
  The walk of short.Full of a number below 1 in its last bit.
-/
namespace Go.Proofs.YtdafplhemockgaaDoor
open Go.RowKit Go.Sort

/-- A cell of another block stays where three cells of a block are written. -/
theorem far3 {w : World} {b g x : Nat} {a0 a1 a2 : Value} {o : Option Value} (h : w.cell? ⟨g, x, none⟩ = o) (hne : b ≠ g) : (((w.setCell ⟨b, 0, none⟩ a0).setCell ⟨b, 1, none⟩ a1).setCell ⟨b, 2, none⟩ a2).cell? ⟨g, x, none⟩ = o := by
  rw [World.cell?_setCell_far _ ⟨b, 2, none⟩ ⟨g, x, none⟩ _ hne, World.cell?_setCell_far _ ⟨b, 1, none⟩ ⟨g, x, none⟩ _ hne, World.cell?_setCell_far _ ⟨b, 0, none⟩ ⟨g, x, none⟩ _ hne]
  exact h

set_option maxHeartbeats 1600000 in
set_option maxRecDepth 100000 in
/-- short.Full. -/
theorem full_neg (n p : Nat) (w : World) (h1 : 1 ≤ n) (h2 : n < 15) (hp : p < 2 ^ (formAt n).width) (hc : clsI (formAt n) p (pKey (formAt n) p) = 2) (hE : Env w) (J Q : Nat) (hneg : pExp n p < 0) (hQ : Q = pMan n p * 5 ^ powN (-pExp n p)) (hJ : Q < 10 ^ J) (hJ2 : J ≤ 1000) (hl : lw Q ≤ 128) :
    Calls Tryd.prog 15 #[.int .i64 n, U p] w fun r w' => ∃ A c D j, r = .returned (.tuple #[.agg #[.bool (pNeg (formAt n) p), .slice A (lw D) c, .int .i64 (pExp n p + (j : Nat))], .int .i64 0]) ∧ Num w' (.slice A (lw D) c) D ∧ Hid (D * 10 ^ j = Q) ∧ Below w.heap.size w w' := by
  have hpn := pnum h1 h2 hp hc
  obtain ⟨hk0, hb0⟩ := new3 w 27 (.bool false) (.slice none 0 0) (.int .i64 0)
  obtain ⟨w0, hw0⟩ : ∃ w0, w0 = w.alloc (.cells #[.bool false, .slice none 0 0, .int .i64 0] 27) := ⟨_, rfl⟩
  rw [← hw0] at hk0 hb0
  have Fi := Lib.hid (finite_any n p w0 h1 h2 hp hc (hE.below hb0))
  have hM1 : lw (pMan n p) ≤ 1 := lw_le (k := 1) hpn.lt
  have hl5 : lw (5 ^ powN (-pExp n p)) ≤ 20001 := Nat.le_trans (lw_pow (by omega) (by omega)) (by have := powN_le (-pExp n p); omega)
  have Q0 : Q ≠ 0 := by rw [hQ]; exact Nat.mul_ne_zero hpn.pos (by have := Nat.pow_pos (n := powN (-pExp n p)) (show 0 < 5 by omega); omega)
  have Pw := Lib.hid fun W => show Calls Tryd.prog 49 #[.int .u64 5, .int .i64 (-pExp n p)] W _ from pow_any 5 (-pExp n p) W (by omega) (by omega)
  have Ml := Lib.hid fun (va vb : Value) W (ha : Num W va (pMan n p)) (hb : Num W vb (5 ^ powN (-pExp n p))) => mul_any va vb _ _ W ha hb (by omega)
  rw [← hQ] at Ml
  have Dg := Lib.hid fun (vn : Value) W (h : Num W vn Q) => digits_any (pNeg (formAt n) p) vn Q (pExp n p) J W h hl Q0 hJ hJ2 (by have := hpn.e1; omega) (by have := hpn.e2; omega)
  have e1 := hpn.e1
  obtain ⟨M, hM⟩ : ∃ M, M = pMan n p := ⟨_, rfl⟩
  obtain ⟨E, hEE⟩ : ∃ E, E = pExp n p := ⟨_, rfl⟩
  obtain ⟨ng, hng⟩ : ∃ ng, ng = pNeg (formAt n) p := ⟨_, rfl⟩
  rw [← hM, ← hEE, ← hng] at Fi
  rw [← hEE] at Pw hneg e1
  rw [← hM, ← hEE] at Ml
  rw [← hEE, ← hng] at Dg
  rw [← hEE, ← hng]
  obtain ⟨F5, hF5⟩ : ∃ F5, F5 = 5 ^ powN (-E) := ⟨_, rfl⟩
  rw [← hF5] at Pw Ml
  have HK0 := Lib.hid hk0
  have HB0 := Lib.hid hb0
  clear hM hEE hng hF5 hpn hk0 hb0 hE hc hp hM1 hl5 hQ Q0 hJ hl
  go_enter Tryd.func15, Tryd.ntmps15
  go_upto_region 1 with (fail)
  rw [← hw0]
  clear hw0
  go_wp2_with fail
  ((with_reducible refine (Fi.out).mono ?_); rintro r w1 ⟨A1, c1, rfl, n1, g1⟩)
  obtain ⟨wz, hwz, hz0, hz1, hzb⟩ := two_blks w1 32 36 #[.int .i64 2, .bool ng, U M, .int .i64 E] #[.bool false, .slice A1 (lw M) c1, .int .i64 E, .int .i64 0]
  have HKR := Lib.hid (Blk.below (Blk.below HK0.out g1 HK0.out.lt) hzb (Nat.lt_of_lt_of_le HK0.out.lt g1.size))
  have HZ0 := Lib.hid hz0
  have HZ1 := Lib.hid hz1
  have HB1 := Lib.hid (HB0.out.trans ((g1.trans (hzb.mono g1.size)).mono HB0.out.size))
  have HN1 := Lib.hid (n1.below hzb)
  have hlw : w.heap.size < w1.heap.size := Nat.lt_of_lt_of_le HK0.out.lt g1.size
  clear n1 g1 hz0 hz1 hzb HK0 HB0 Fi
  go_upto_region 2 with (fail)
  rw [← hwz]
  clear hwz
  have tE : decide (0 ≤ E) = false := by simp; omega
  have eN : IntKind.i64.wrap (-E) = -E := by rw [IntKind.wrap_i64]; omega
  obtain ⟨k0, k1, k2, k3⟩ := rest4 HZ0.out
  obtain ⟨j0, j1, j2, j3⟩ := rest4 HZ1.out
  obtain ⟨x0, x1, x2⟩ := rest3 HKR.out
  have q0 : ∀ o, wz.frozen? ⟨w.heap.size, o, none⟩ = false := fun o => Blk.frozen HKR.out o
  have hlz : w1.heap.size + 1 < wz.heap.size := HZ1.out.lt
  go_upto_region 6 with (fail)
  go_region_held3 (fun w' => w'.cell? ⟨w1.heap.size, 1, none⟩ = some (.bool ng) ∧ w'.cell? ⟨w1.heap.size + 1, 1, none⟩ = some (.slice A1 (lw M) c1) ∧ w'.cell? ⟨w1.heap.size + 1, 2, none⟩ = some (.int .i64 E))
    (first
      | go_keep
      | (go_split_ands
         refine ⟨?_, ?_, ?_⟩ <;> (rw [gg.cell (World.block_lt_of_cell? _ _ (by assumption))]; assumption))
      | (go_split_ands
         exact ⟨far3 (by assumption) (by omega), far3 (by assumption) (by omega), far3 (by assumption) (by omega)⟩))
    ((first
      | (go_at_call 49; (with_reducible refine (Pw.out _).mono ?_); rintro r ws ⟨u1, rfl, m1, gg⟩; have ga := gg)
      | (go_at_call 48; (with_reducible refine (Ml.out _ _ _ (by exact HN1.out.drew.below ga) (by exact m1)).mono ?_); rintro r ws ⟨u2, rfl, m2, gg⟩; have gb := ga.trans (gg.mono ga.size))
      | (go_at_call 20; (with_reducible refine (Dg.out _ _ (by exact m2)).mono ?_); rintro r ws ⟨A, c, D, j, rfl, m3, hD, gg⟩; have gc := gb.trans (gg.mono gb.size); have HKd := Lib.hid (Blk.below (w' := ws) (show Blk wz.drew w.heap.size 27 _ from HKR.out) gc HKR.out.lt); obtain ⟨x0, x1, x2⟩ := rest3 HKd.out; have q0 : ∀ o, ws.frozen? ⟨w.heap.size, o, none⟩ = false := fun o => Blk.frozen HKd.out o)))
  have HBw := Lib.hid (HB1.out.trans ((below_of_drew gc).mono HB1.out.size))
  obtain ⟨w8, hw8, hk8, hb8, ho8⟩ := stored3 HKd.out (Nat.le_refl _) HBw.out (.bool ng) (.slice A (lw D) c) (.int .i64 (E + (j : Nat)))
  have hn8 := m3.off HKd.out (by simp [noU]) ho8
  obtain ⟨r0, r1, r2⟩ := rest3 hk8
  rw [hw8]
  clear x0 x1 x2 q0 k0 k1 k2 k3 j0 j1 j2 j3 ga gb gc gg m1 m2
  go_wp2_with fail
  exact bodyPost_ret (v := .tuple #[.agg #[.bool ng, .slice A (lw D) c, .int .i64 (E + (j : Nat))], .int .i64 0]) (by simp [results, Tryd.results15, go_sem, r0, r1, r2]) rfl ⟨A, c, D, j, rfl, hn8, Lib.hid hD.out.1, hb8⟩
end Go.Proofs.YtdafplhemockgaaDoor

/-
  The walk of short.interval.nearer.
-/
namespace Go.Proofs.YtdafplhemockgaaDoor
open Go.RowKit Go.Sort

set_option maxHeartbeats 1600000 in
set_option maxRecDepth 100000 in
/-- nat.Even. -/
theorem even_any (va : Value) (x : Nat) (w : World) (ha : Num w va x) : Calls Tryd.prog 55 #[va] w fun r w' => ∃ b, r = .returned (.bool b) ∧ Below w.heap.size w w' := by
  have Bi := Lib.hid (bit_any va x 0 w ha (by omega) (by omega))
  clear ha
  go_enter Tryd.func55, Tryd.ntmps55
  go_wp2_with fail
  refine (Bi.out).mono ?_
  rintro r w1 ⟨rfl, rfl⟩
  go_wp2_with fail
  go_ret
  exact ⟨_, rfl, Below.refl _ _⟩

theorem flR_zero {X T : Nat} : (0 < flR X T) ↔ X % T ≠ 0 := by
  unfold flR cmpI
  split
  · next h => simp [h]
  · next h =>
    refine ⟨fun _ => h, fun _ => ?_⟩
    split
    · omega
    · split <;> omega
theorem flR_rng (X T : Nat) : 0 ≤ flR X T ∧ flR X T ≤ 3 := by
  unfold flR cmpI
  split
  · omega
  · split
    · omega
    · split <;> omega

/-- What nearer gives. -/
def NearPost (lo hi : Nat) (ev : Bool) (X T : Nat) (w : World) (r : Ending) (w' : World) : Prop :=
  ∃ A c d ok, r = .returned (.tuple #[.slice A (lw d) c, .bool ok]) ∧ Num w' (.slice A (lw d) c) d ∧ Hid (NearR lo hi ev X T d ok) ∧ Below w.heap.size w w'

set_option maxHeartbeats 6400000 in
set_option maxRecDepth 100000 in
/-- short.interval.nearer. -/
theorem nearer_any (vl : Value) (nl : Nat) (tl : Int) (vh : Value) (nh : Nat) (th : Int) (ev : Bool) (vn : Value) (x : Nat) (t k : Int) (w : World) (hI : Iv w vl nl tl vh nh th) (hN : Num w vn x) (hx : lw x ≤ 128) (t1 : -2500 ≤ t) (t2 : t ≤ 2500) (k1 : -500 ≤ k) (k2 : k ≤ 500) (hd : ex x t 0 / TT k < 10 ^ 22) :
    Calls Tryd.prog 19 #[.agg (ivc vl tl vh th ev), .agg #[.bool false, vn, .int .i64 t, .int .i64 0], .int .i64 k] w fun r w' => NearPost (ex nl tl 0) (ex nh th 0) ev (ex x t 0) (TT k) w r w' := by
  have hFl : ex x t 0 / TT k = ex x t 0 / ex 1 k k := rfl
  have Fl := Lib.hid fun W (h : Num W vn x) => floor_any false vn x t 0 k W h (by omega) t1 t2 (by omega) (by omega) (by omega) (by omega)
  rw [show ex 1 k k = TT k from rfl] at Fl
  obtain ⟨D, hD⟩ : ∃ D, D = ex x t 0 / TT k := ⟨_, rfl⟩
  rw [← hD] at Fl hd
  have hl1 : lw D ≤ 2 := lw_le (Nat.lt_trans hd (by decide))
  have hl2 : lw (D + 1) ≤ 2 := lw_le (Nat.lt_of_le_of_lt (show D + 1 ≤ 10 ^ 22 by omega) (by decide))
  have Te1 := Lib.hid fun (va : Value) W (h : Num W va D) => ten_any va D k W h (by omega) (by omega) (by omega)
  have Te2 := Lib.hid fun (va : Value) W (h : Num W va (D + 1)) => ten_any va (D + 1) k W h (by omega) (by omega) (by omega)
  have Ad := Lib.hid fun (va vb : Value) W (ha : Num W va D) (hb : Num W vb 1) => add_any va vb D 1 W ha hb (by have : lw 1 ≤ 1 := lw_le (by decide); omega)
  have Ha1 := Lib.hid fun (va : Value) W (hI : Iv W vl nl tl vh nh th) (h : Num W va D) => has_any vl nl tl vh nh th ev false va D k k W hI h ⟨by omega, by omega, by omega, by omega, by omega⟩
  have Ha2 := Lib.hid fun (va : Value) W (hI : Iv W vl nl tl vh nh th) (h : Num W va (D + 1)) => has_any vl nl tl vh nh th ev false va (D + 1) k k W hI h ⟨by omega, by omega, by omega, by omega, by omega⟩
  rw [ex_TT] at Ha1 Ha2
  have HR0 := Lib.hid (flR_zero (X := ex x t 0) (T := TT k))
  have hR3 := flR_rng (ex x t 0) (TT k)
  obtain ⟨lo, hlo⟩ : ∃ lo, lo = ex nl tl 0 := ⟨_, rfl⟩
  obtain ⟨hi, hhi⟩ : ∃ hi, hi = ex nh th 0 := ⟨_, rfl⟩
  rw [← hlo, ← hhi] at Ha1 Ha2
  rw [← hlo, ← hhi]
  obtain ⟨F, hF⟩ : ∃ F, F = flR (ex x t 0) (TT k) := ⟨_, rfl⟩
  rw [← hF] at Fl HR0 hR3
  have hone : oneB lo hi ev (ex x t 0) (TT k) = inI lo hi (D * TT k) ev := by rw [hD]; rfl
  have htwo : twoB lo hi ev (ex x t 0) (TT k) = (decide (0 < F) && inI lo hi ((D + 1) * TT k) ev) := by rw [hD]; unfold twoB; rw [decide_eq_decide.2 HR0.out.symm]
  obtain ⟨a1, ha1⟩ : ∃ a1, a1 = inI lo hi (D * TT k) ev := ⟨_, rfl⟩
  obtain ⟨a2, ha2⟩ : ∃ a2, a2 = inI lo hi ((D + 1) * TT k) ev := ⟨_, rfl⟩
  rw [← ha1] at Ha1 hone
  rw [← ha2] at Ha2 htwo
  have NRo := Lib.hid fun (ok : Bool) (d : Nat) hd => nearR_of (ok := ok) (d := d) hone.symm htwo.symm hd
  rw [← hD] at NRo
  obtain ⟨wz, hwz, hz0, hz1, hzb⟩ := two_blks w 53 36 (ivc vl tl vh th ev) #[.bool false, vn, .int .i64 t, .int .i64 0]
  obtain ⟨Ix1, Ix2, Ix3, Ix4⟩ := id hI
  obtain ⟨Al, cl, rfl, _, _, _⟩ := Ix1
  obtain ⟨Ah, ch, rfl, _, _, _⟩ := Ix2
  have HI := Lib.hid (hI.below hzb)
  have HN := Lib.hid (hN.below hzb)
  have HZ0 := Lib.hid hz0
  have HZ1 := Lib.hid hz1
  have HZB := Lib.hid hzb
  obtain ⟨f1, f2⟩ := hR3
  clear hlo hhi hF hD hone htwo ha1 ha2 hz0 hz1 hzb hI hN hFl Ix3 Ix4 hd HR0 hx t1 t2
  obtain ⟨X, hX⟩ : ∃ X, X = ex x t 0 := ⟨_, rfl⟩
  obtain ⟨T, hT⟩ : ∃ T, T = TT k := ⟨_, rfl⟩
  rw [← hX, ← hT] at NRo
  rw [← hX, ← hT]
  clear hX hT
  obtain ⟨k0, k1', k2', k3, k4, k5, k6, k7, k8⟩ := rest9 HZ0.out
  obtain ⟨j0, j1, j2, j3⟩ := rest4 HZ1.out
  go_enter Tryd.func19, Tryd.ntmps19
  go_upto_region 1 with (fail)
  rw [← hwz]
  clear hwz
  go_wp2_with fail
  ((with_reducible refine (Fl.out _ HN.out).mono ?_); rintro r w1 ⟨vd, rfl, n1, g1⟩)
  have ND := Lib.hid n1
  have HZ01 := Lib.hid (Blk.below HZ0.out g1 HZ0.out.lt)
  have HI1 := Lib.hid (HI.out.below g1)
  have HB1 := Lib.hid (HZB.out.trans (g1.mono HZB.out.size))
  clear n1 g1 HZ0 HZ1 HI HN HZB k0 k1' k2' k3 k4 k5 k6 k7 k8 j0 j1 j2 j3
  go_wp2_with fail
  refine (of_any 1 _ (by omega)).mono ?_
  rintro r w2 ⟨v1, rfl, n2, g2⟩
  have N1 := Lib.hid n2
  have ND2 := Lib.hid (ND.out.below g2)
  have HZ02 := Lib.hid (Blk.below HZ01.out g2 HZ01.out.lt)
  have HI2 := Lib.hid (HI1.out.below g2)
  have HB2 := Lib.hid (HB1.out.trans (g2.mono HB1.out.size))
  clear n2 g2 HZ01 HI1 HB1 ND
  go_wp2_with fail
  ((with_reducible refine (Ad.out _ _ _ ND2.out N1.out).mono ?_); rintro r w3 ⟨vm, rfl, n3, g3⟩)
  have NM := Lib.hid n3
  have ND3 := Lib.hid (ND2.out.below g3)
  have HZ03 := Lib.hid (Blk.below HZ02.out g3 HZ02.out.lt)
  have HI3 := Lib.hid (HI2.out.below g3)
  have HB3 := Lib.hid (HB2.out.trans (g3.mono HB2.out.size))
  clear n3 g3 HZ02 HI2 HB2 ND2 N1
  obtain ⟨wx, rfl⟩ : ∃ wx, wx = w3 := ⟨_, rfl⟩
  obtain ⟨Ad, cd, rfl, _, _, _⟩ := id ND3.out
  obtain ⟨Am, cm, rfl, _, _, _⟩ := id NM.out
  have Ev := Lib.hid fun (va : Value) W (h : Num W va D) => even_any va D W h
  obtain ⟨k0, k1', k2', k3, k4, k5, k6, k7, k8⟩ := rest9 HZ03.out
  have hlt3 := HZ03.out.lt
  have hgo : (0 < F) ∨ ¬ (0 < F) := by omega
  rcases hgo with hF0 | hF0
  · have tF : decide (0 < F) = true := by simpa using hF0
    have e2 : (decide (0 < F) && a2) = a2 := by rw [tF]; rfl
    rw [e2] at NRo
    clear e2 hF0
    go_upto_region 3 with (fail)
    go_region_held3 (fun w' => w'.cell? ⟨w.heap.size, 0, none⟩ = some (.bool false) ∧ w'.cell? ⟨w.heap.size, 1, none⟩ = some (.slice Al (lw nl) cl) ∧ w'.cell? ⟨w.heap.size, 2, none⟩ = some (.int .i64 tl) ∧ w'.cell? ⟨w.heap.size, 3, none⟩ = some (.int .i64 0) ∧
        w'.cell? ⟨w.heap.size, 4, none⟩ = some (.bool false) ∧ w'.cell? ⟨w.heap.size, 5, none⟩ = some (.slice Ah (lw nh) ch) ∧ w'.cell? ⟨w.heap.size, 6, none⟩ = some (.int .i64 th) ∧ w'.cell? ⟨w.heap.size, 7, none⟩ = some (.int .i64 0) ∧ w'.cell? ⟨w.heap.size, 8, none⟩ = some (.bool ev))
      (first
        | go_keep
        | (go_split_ands
           refine ⟨?_, ?_, ?_, ?_, ?_, ?_, ?_, ?_, ?_⟩ <;> (rw [gg.cell (World.block_lt_of_cell? _ _ (by assumption))]; assumption)))
      ((first
        | (go_at_call 54; (with_reducible refine (Te1.out _ _ (by exact ND3.out.drew)).mono ?_); rintro r ws ⟨u1, rfl, m1, gg⟩; have ga := gg)
        | (go_at_call 53; (with_reducible refine (Ha1.out _ _ (by exact HI3.out.drew.below ga) (by exact m1)).mono ?_); rintro r ws ⟨rfl, gg⟩; have gb := gg)
        | (go_at_call 54; (with_reducible refine (Te2.out _ _ (by exact (NM.out.drew.below ga).below gb)).mono ?_); rintro r ws ⟨u2, rfl, m2, gg⟩; have gc := gg)
        | (go_at_call 53; (with_reducible refine (Ha2.out _ _ (by exact ((HI3.out.drew.below ga).below gb).below gc) (by exact m2)).mono ?_); rintro r ws ⟨rfl, gg⟩; have gd := gg)))
    have g4 := ga.trans (gb.mono ga.size)
    have g5 := g4.trans (gc.mono g4.size)
    have g6 := g5.trans (gd.mono g5.size)
    have B4 := Lib.hid (HB3.out.trans ((below_of_drew g6).mono HB3.out.size))
    have NDx := Lib.hid (ND3.out.drew.below g6)
    have NMx := Lib.hid (NM.out.drew.below g6)
    clear ga gb gc gd gg g4 g5 g6 m1 m2 k0 k1' k2' k3 k4 k5 k6 k7 k8 Te1 Te2 Ha1 Ha2 HZ03 HI3 HB3 ND3 NM
    cases a1
    · cases a2
      · go_wp2_with fail
        exact bodyPost_ret (v := .tuple #[.slice Ad (lw (D)) cd, .bool false]) (by simp [results, Tryd.results19, go_sem]) rfl ⟨Ad, cd, D, false, rfl, NDx.out, Lib.hid (NRo.out false (D) (by simp)), B4.out⟩
      · go_wp2_with fail
        exact bodyPost_ret (v := .tuple #[.slice Am (lw (D + 1)) cm, .bool true]) (by simp [results, Tryd.results19, go_sem]) rfl ⟨Am, cm, D + 1, true, rfl, NMx.out, Lib.hid (NRo.out true (D + 1) (by simp)), B4.out⟩
    · cases a2
      · go_wp2_with fail
        exact bodyPost_ret (v := .tuple #[.slice Ad (lw (D)) cd, .bool true]) (by simp [results, Tryd.results19, go_sem]) rfl ⟨Ad, cd, D, true, rfl, NDx.out, Lib.hid (NRo.out true (D) (by simp)), B4.out⟩
      · have hF3 : F = 1 ∨ F = 2 ∨ F = 3 := by have := of_decide_eq_true tF; omega
        clear tF f1 f2
        rcases hF3 with rfl | rfl | rfl
        · go_wp2_with fail
          exact bodyPost_ret (v := .tuple #[.slice Ad (lw (D)) cd, .bool true]) (by simp [results, Tryd.results19, go_sem]) rfl ⟨Ad, cd, D, true, rfl, NDx.out, Lib.hid (NRo.out true (D) (by simp)), B4.out⟩
        · go_wp2_with fail
          ((with_reducible refine (Ev.out _ _ NDx.out).mono ?_); rintro r w8 ⟨bb, rfl, g8⟩)
          cases bb
          · go_wp2_with fail
            exact bodyPost_ret (v := .tuple #[.slice Am (lw (D + 1)) cm, .bool true]) (by simp [results, Tryd.results19, go_sem]) rfl ⟨Am, cm, D + 1, true, rfl, NMx.out.below g8, Lib.hid (NRo.out true (D + 1) (by simp)), B4.out.trans (g8.mono B4.out.size)⟩
          · go_wp2_with fail
            exact bodyPost_ret (v := .tuple #[.slice Ad (lw (D)) cd, .bool true]) (by simp [results, Tryd.results19, go_sem]) rfl ⟨Ad, cd, D, true, rfl, NDx.out.below g8, Lib.hid (NRo.out true (D) (by simp)), B4.out.trans (g8.mono B4.out.size)⟩
        · go_wp2_with fail
          exact bodyPost_ret (v := .tuple #[.slice Am (lw (D + 1)) cm, .bool true]) (by simp [results, Tryd.results19, go_sem]) rfl ⟨Am, cm, D + 1, true, rfl, NMx.out, Lib.hid (NRo.out true (D + 1) (by simp)), B4.out⟩
  · obtain rfl : F = 0 := by omega
    have e2 : (decide ((0 : Int) < 0) && a2) = false := rfl
    rw [e2] at NRo
    clear e2 hF0 f1 f2
    go_upto_region 3 with (fail)
    go_cut [11, 12] from 22 to 35 (fun p q wz => p = .bool a1 ∧ q = .bool false ∧ Hid (Below wx.heap.size wx wz))
    case first =>
      have HZ03d := Lib.hid (show Blk wx.drew w.heap.size 53 (ivc (.slice Al (lw nl) cl) tl (.slice Ah (lw nh) ch) th ev) from HZ03.out)
      first
      | (go_region_with ((first
        | (go_at_call 54; (with_reducible refine (Te1.out _ _ (by first | exact ND3.out | exact ND3.out.drew)).mono ?_); rintro r ws ⟨u1, rfl, m1, gg⟩; have ga := gg; obtain ⟨k0, k1', k2', k3, k4, k5, k6, k7, k8⟩ := rest9 (Blk.below HZ03d.out gg HZ03d.out.lt))
        | (go_at_call 53; (with_reducible refine (Ha1.out _ _ (by first | exact HI3.out.drew.below ga | exact HI3.out.below ga) (by exact m1)).mono ?_); rintro r ws ⟨rfl, gg⟩; have gb := gg))))
      | fail
      all_goals
        have B := Lib.hid (below_of_drew (ga.trans (gb.mono ga.size)))
        clear ga gb k0 k1' k2' k3 k4 k5 k6 k7 k8 m1
        go_wp2_with fail
        go_meet
        exact ⟨rfl, rfl, B⟩
    case rest =>
      obtain ⟨rfl, rfl, hwc⟩ := hcut
      have B4 := Lib.hid (HB3.out.trans (hwc.out.mono HB3.out.size))
      have NDx := Lib.hid (ND3.out.below hwc.out)
      clear hwc k0 k1' k2' k3 k4 k5 k6 k7 k8 Te1 Te2 Ha1 Ha2 HZ03 HI3 HB3 ND3 NM
      cases a1
      · go_wp2_with fail
        exact bodyPost_ret (v := .tuple #[.slice Ad (lw (D)) cd, .bool false]) (by simp [results, Tryd.results19, go_sem]) rfl ⟨Ad, cd, D, false, rfl, NDx.out, Lib.hid (NRo.out false (D) (by simp)), B4.out⟩
      · go_wp2_with fail
        exact bodyPost_ret (v := .tuple #[.slice Ad (lw (D)) cd, .bool true]) (by simp [results, Tryd.results19, go_sem]) rfl ⟨Ad, cd, D, true, rfl, NDx.out, Lib.hid (NRo.out true (D) (by simp)), B4.out⟩
end Go.Proofs.YtdafplhemockgaaDoor
