/-
  A part of the proofs that calipertop.TopBack, TopFloats and TopNearest return true for every input and leave it as it was: part 20 of 47.
-/
import Derived.Test.YtnlpkehllihllaaGreatDoorGt10
import Derived.Test.YtnlpkehllihllaaGreatDoorGt19
import Derived.Lib.AtoiAll
/-
  Plain law: how many digits a text of a number has.
-/
namespace Go.Proofs.YtnlpkehllihllaaGreatDoor
open Go.RowKit

theorem nDigits_ge : ∀ (u : Nat), u ≠ 0 → 10 ^ (Lib.nDigits u - 1) ≤ u := by
  intro u
  induction u using Nat.strongRecOn with
  | ind u ih =>
    intro h
    by_cases h0 : u < 10
    · rw [Lib.nDigits_small h0]; simp; omega
    · rw [Lib.nDigits_big h0]
      have h1 := ih (u / 10) (by omega) (by omega)
      have h2 := Lib.nDigits_pos (u / 10)
      obtain ⟨k, hk⟩ : ∃ k, Lib.nDigits (u / 10) = k + 1 := ⟨Lib.nDigits (u / 10) - 1, by omega⟩
      rw [hk] at h1 ⊢
      rw [show k + 1 - 1 = k by omega] at h1
      rw [show k + 1 + 1 - 1 = k + 1 by omega, Nat.pow_succ]
      omega
theorem textL_len : ∀ (x : Nat), x ≠ 0 → 1 ≤ (textL x).length ∧ 10 ^ ((textL x).length - 1) ≤ x := by
  intro x
  induction x using Nat.strongRecOn with
  | ind x ih =>
    intro h
    by_cases h0 : x < 10000000000000000000
    · rw [textL_small h0, Lib.decDigits_length]
      exact ⟨Lib.nDigits_pos x, nDigits_ge x h⟩
    · rw [textL_big h0]
      have hq : x / 10000000000000000000 ≠ 0 := by omega
      obtain ⟨h1, h2⟩ := ih (x / 10000000000000000000) (by omega) hq
      have h3 : (padL (x % 10000000000000000000)).length = 19 := by
        have h4 := decDigits_le (show x % 10000000000000000000 < 10000000000000000000 by omega)
        rw [Lib.decDigits_length] at h4
        unfold padL
        rw [List.length_append, List.length_replicate, Lib.decDigits_length]
        omega
      rw [List.length_append, h3]
      refine ⟨by omega, ?_⟩
      obtain ⟨k, hk⟩ : ∃ k, (textL (x / 10000000000000000000)).length = k + 1 := ⟨(textL (x / 10000000000000000000)).length - 1, by omega⟩
      rw [hk] at h2 ⊢
      rw [show k + 1 - 1 = k by omega] at h2
      rw [show k + 1 + 19 - 1 = k + 19 by omega, Nat.pow_add, show (10 : Nat) ^ 19 = 10000000000000000000 from rfl]
      omega
theorem S_len (l : List UInt8) : (⟨l.toArray⟩ : ByteArray).size = l.length := by
  show l.toArray.size = l.length
  simp
end Go.Proofs.YtnlpkehllihllaaGreatDoor

/-
  Plain laws: where the search for shortest digits ends; what it finds for two patterns.
-/
namespace Go.Proofs.YtnlpkehllihllaaGreatDoor
open Go.RowKit Go.Sort

/-- One round of the search: what nearer tells. -/
structure NearR (lo hi : Nat) (ev : Bool) (X T : Nat) (d : Nat) (ok : Bool) : Prop where
  is : ok = (oneB lo hi ev X T || twoB lo hi ev X T)
  dig : ok = true → (d = X / T ∨ d = X / T + 1) ∧ inI lo hi (d * T) ev = true
theorem nearR_of {lo hi X T : Nat} {ev : Bool} {a b ok : Bool} {d : Nat} (ha : a = oneB lo hi ev X T) (hb : b = twoB lo hi ev X T) (hd : (d = X / T + 1 ∧ b = true ∧ ok = true) ∨ (d = X / T ∧ b = false ∧ ok = a) ∨ (d = X / T ∧ a = true ∧ ok = true)) : NearR lo hi ev X T d ok := by
  subst ha hb
  rcases hd with ⟨h1, h2, rfl⟩ | ⟨h1, h2, rfl⟩ | ⟨h1, h2, rfl⟩
  · refine ⟨by rw [h2, Bool.or_true], fun _ => ⟨.inr h1, ?_⟩⟩
    unfold twoB at h2
    rw [Bool.and_eq_true] at h2
    rw [h1]; exact h2.2
  · refine ⟨by rw [h2, Bool.or_false], fun q => ⟨.inl h1, ?_⟩⟩
    rw [h1]; exact q
  · refine ⟨by rw [h2, Bool.true_or], fun _ => ⟨.inl h1, ?_⟩⟩
    rw [h1]; exact h2

/-- The search under way. -/
structure Seeks (lo hi : Nat) (ev : Bool) (X : Nat) (L k : Int) : Prop where
  top : k ≤ L
  bot : L - 20 ≤ k
  none : ∀ j : Int, k < j → j ≤ L → oneB lo hi ev X (TT j) = false ∧ twoB lo hi ev X (TT j) = false
theorem seeks_first {lo hi X : Nat} {ev : Bool} {L : Int} : Seeks lo hi ev X L L := ⟨by omega, by omega, fun j a b => by omega⟩
theorem seeks_next {lo hi X d : Nat} {ev : Bool} {L k : Int} (hX : Holds3 lo hi X) (hL : IsLg X L) (h : Seeks lo hi ev X L k) (hn : NearR lo hi ev X (TT k) d false) : L - 20 < k ∧ Seeks lo hi ev X L (k - 1) := by
  have h1 := hn.is
  have h2 := (Bool.or_eq_false_iff.1 h1.symm)
  have hk : L - 20 < k := by
    rcases Int.lt_or_le (L - 20) k with q | q
    · exact q
    · have h3 := one_far ev hX hL q (by have := h.bot; have := hL.2.2.1; omega)
      rw [h2.1] at h3
      cases h3
  refine ⟨hk, by have := h.top; omega, by omega, fun j a b => ?_⟩
  rcases Int.lt_or_le k j with q | q
  · exact h.none j q b
  · obtain rfl : j = k := by omega
    exact h2
theorem seeks_found {lo hi X d : Nat} {ev : Bool} {L k : Int} (h : Seeks lo hi ev X L k) (hn : NearR lo hi ev X (TT k) d true) : Found lo hi ev X L k d :=
  ⟨h.top, h.bot, (hn.dig rfl).1, (hn.dig rfl).2, h.none⟩

/-- What Short tells, but for the sign. -/
def ShortIs (lo hi : Nat) (ev : Bool) (X D : Nat) (K : Int) : Prop := ∃ (L k : Int) (d j : Nat), IsLg X L ∧ Found lo hi ev X L k d ∧ D * 10 ^ j = d ∧ D % 10 ≠ 0 ∧ K = k + j

theorem found_at {lo hi X d d0 d1 : Nat} {ev : Bool} {L L0 k k0 : Int} (h0 : IsLg X L0) (hL : IsLg X L) (h : Found lo hi ev X L k d) (hk0 : k0 ≤ L0) (h1 : oneB lo hi ev X (TT k0) = true)
    (hn : ∀ j : Int, k0 < j → j ≤ L0 → inI lo hi (X / TT j * TT j) ev = false ∧ inI lo hi ((X / TT j + 1) * TT j) ev = false) (hd : X / TT k0 = d0) (hd1 : d1 = d0 + 1) (h2 : inI lo hi (d1 * TT k0) ev = false) : k = k0 ∧ d = d0 := by
  obtain rfl := h0.one hL
  have ht := h.top
  rcases Int.lt_or_le k k0 with q | q
  · have := (h.none k0 q hk0).1
    rw [h1] at this; cases this
  · rcases Int.lt_or_le k0 k with r | r
    · obtain ⟨n1, n2⟩ := hn k r ht
      have h3 := h.has
      rcases h.dig with e | e
      · rw [e, n1] at h3; cases h3
      · rw [e, n2] at h3; cases h3
    · obtain rfl : k = k0 := by omega
      refine ⟨rfl, ?_⟩
      rcases h.dig with e | e
      · rw [e, hd]
      · have h3 := h.has
        rw [e, hd, ← hd1, h2] at h3; cases h3
theorem ten_none {D j d : Nat} (h : D * 10 ^ j = d) (hd : d % 10 ≠ 0) : j = 0 ∧ D = d := by
  rcases j with _ | j
  · exact ⟨rfl, by rw [← h, Nat.pow_zero, Nat.mul_one]⟩
  · rw [Nat.pow_succ, ← Nat.mul_assoc] at h
    omega
def lgB (X : Nat) (k : Int) : Bool := decide (ex 1 k k ≤ X) && decide (X < ex 1 (k + 1) (k + 1)) && decide (-430 ≤ k) && decide (k ≤ 421)
theorem lgB_is {X : Nat} {k : Int} (h : lgB X k = true) : IsLg X k := by
  unfold lgB at h
  simp only [Bool.and_eq_true, decide_eq_true_eq] at h
  exact ⟨h.1.1.1, h.1.1.2, h.1.2, h.2⟩

/-- The interval, and the number, of a pattern that is a number. -/
def pLo (n p : Nat) : Nat := lowB (formAt n) (pKey (formAt n) p)
def pHi (n p : Nat) : Nat := highB (formAt n) (mostN (formAt n) (pNeg (formAt n) p)) (pKey (formAt n) p)
def pEv (n p : Nat) : Bool := evenB (pKey (formAt n) p)
def pX (n p : Nat) : Nat := VV (formAt n) (pKey (formAt n) p)
theorem holds_p {n p : Nat} (h1 : 1 ≤ n) (h2 : n < 15) (hp : p < 2 ^ (formAt n).width) (hc : clsI (formAt n) p (pKey (formAt n) p) = 2) : Holds3 (pLo n p) (pHi n p) (pX n p) := by
  have hf := form_is h1 h2
  obtain ⟨q1, q2, q3, q4⟩ := cls_fin hf hp hc
  have hk : pKey (formAt n) p ≤ (formAt n).most := Nat.le_trans q1 (mostN_le _)
  have h0 : 1 ≤ pKey (formAt n) p ∨ (formAt n).kind = 4 := by rcases q2 with q | q; exact .inl (by omega); exact .inr q
  have a := gap_low hf hk h0
  exact ⟨a.1, a.2, gap_high hf hk h0⟩

def tenth : Bool := lgB (pX 14 4591870180066957722) (-1) && oneB (pLo 14 4591870180066957722) (pHi 14 4591870180066957722) (pEv 14 4591870180066957722) (pX 14 4591870180066957722) (TT (-1)) && decide (pX 14 4591870180066957722 / TT (-1) = 1) && !inI (pLo 14 4591870180066957722) (pHi 14 4591870180066957722) (2 * TT (-1)) (pEv 14 4591870180066957722)
set_option maxRecDepth 100000 in
theorem tenth_is : tenth = true := by decide +kernel
theorem short_tenth {D : Nat} {K : Int} (h : ShortIs (pLo 14 4591870180066957722) (pHi 14 4591870180066957722) (pEv 14 4591870180066957722) (pX 14 4591870180066957722) D K) : D = 1 ∧ K = -1 := by
  obtain ⟨L, k, d, j, hL, hF, e, m, rfl⟩ := h
  have t := tenth_is
  unfold tenth at t
  simp only [Bool.and_eq_true, decide_eq_true_eq, Bool.not_eq_true'] at t
  obtain ⟨⟨⟨t1, t2⟩, t3⟩, t4⟩ := t
  obtain ⟨rfl, rfl⟩ := found_at (d0 := 1) (d1 := 2) (lgB_is t1) hL hF (Int.le_refl _) t2 (fun j a b => by omega) t3 rfl t4
  obtain ⟨rfl, rfl⟩ := ten_none e (by decide)
  exact ⟨rfl, rfl⟩
def elev : Bool := lgB (pX 1 191) 0 && oneB (pLo 1 191) (pHi 1 191) (pEv 1 191) (pX 1 191) (TT (-1)) && decide (pX 1 191 / TT (-1) = 11) && !inI (pLo 1 191) (pHi 1 191) (12 * TT (-1)) (pEv 1 191) &&
  !inI (pLo 1 191) (pHi 1 191) (pX 1 191 / TT 0 * TT 0) (pEv 1 191) && !inI (pLo 1 191) (pHi 1 191) ((pX 1 191 / TT 0 + 1) * TT 0) (pEv 1 191)
set_option maxRecDepth 100000 in
theorem elev_is : elev = true := by decide +kernel
theorem short_elev {D : Nat} {K : Int} (h : ShortIs (pLo 1 191) (pHi 1 191) (pEv 1 191) (pX 1 191) D K) : D = 11 ∧ K = -1 := by
  obtain ⟨L, k, d, j, hL, hF, e, m, rfl⟩ := h
  have t := elev_is
  unfold elev at t
  simp only [Bool.and_eq_true, decide_eq_true_eq, Bool.not_eq_true'] at t
  obtain ⟨⟨⟨⟨⟨t1, t2⟩, t3⟩, t4⟩, t5⟩, t6⟩ := t
  have hz : ∀ j : Int, -1 < j → j ≤ 0 → inI (pLo 1 191) (pHi 1 191) (pX 1 191 / TT j * TT j) (pEv 1 191) = false ∧ inI (pLo 1 191) (pHi 1 191) ((pX 1 191 / TT j + 1) * TT j) (pEv 1 191) = false := by
    intro j a b
    obtain rfl : j = 0 := by omega
    exact ⟨t5, t6⟩
  obtain ⟨rfl, rfl⟩ := found_at (d0 := 11) (d1 := 12) (lgB_is t1) hL hF (by decide) t2 hz t3 rfl t4
  obtain ⟨rfl, rfl⟩ := ten_none e (by decide)
  exact ⟨rfl, rfl⟩
/-- One digit less has another pattern. -/
theorem none_law {n p D : Nat} {K : Int} (h1 : 1 ≤ n) (h2 : n < 15) (hp : p < 2 ^ (formAt n).width) (hc : clsI (formAt n) p (pKey (formAt n) p) = 2) (h : ShortIs (pLo n p) (pHi n p) (pEv n p) (pX n p) D K) :
    D ≠ 0 ∧ 1 ≤ (textL D).length ∧ (textL D).length ≤ 22 ∧ (2 ≤ (textL D).length → ∀ L, IsLg (pX n p) L → ∃ d k, d = pX n p / TT k ∧ k = L + 2 - (textL D).length ∧ 1 ≤ d ∧ d < 10 ^ 22 ∧ -500 ≤ k ∧ k ≤ 500 ∧
      (∀ q, RoundIs (formAt n) 2 (pNeg (formAt n) p) (ex d k k) q → q ≠ p) ∧ (∀ q, RoundIs (formAt n) 2 (pNeg (formAt n) p) (ex (d + 1) k k) q → q ≠ p)) := by
  have hf := form_is h1 h2
  have hW := form_w h1 h2
  have hX := holds_p h1 h2 hp hc
  obtain ⟨L, k, d, j, hL, hF, e, m, rfl⟩ := h
  have hD : D ≠ 0 := fun q => by rw [q] at m; exact m rfl
  obtain ⟨t1, t2⟩ := textL_len D hD
  obtain ⟨t3, t4⟩ := less_not hX hL hF e m t2
  refine ⟨hD, t1, t3, fun t5 L' hL' => ?_⟩
  obtain rfl := hL'.one hL
  obtain ⟨d2, r1, r2, r3, r4, r5, r6, r7⟩ := t4 t5
  have hl1 := hL'.2.2.1
  have hl2 := hL'.2.2.2
  have hpos : ∀ d : Nat, 1 ≤ d → ∀ k : Int, 0 < ex d k k := fun d hd k => ex_pos (by omega) _ _
  refine ⟨d2, L' + 2 - (textL D).length, r1, rfl, r2, r3, by omega, by omega, fun q hq => ?_, fun q hq => ?_⟩
  · exact round_not hf hW hp hc (hpos _ r2 _) (by rw [ex_TT]; exact r6) hq
  · exact round_not hf hW hp hc (hpos _ (by omega) _) (by rw [ex_TT]; exact r7) hq
theorem full_one {D j : Nat} (h : D * 10 ^ j = 1125) : j = 0 ∧ D = 1125 := ten_none h (by decide)
end Go.Proofs.YtnlpkehllihllaaGreatDoor

/-
  Plain laws: what lies in a pattern's interval is rounded to it, whatever the mode; so are the shortest digits.
-/
namespace Go.Proofs.YtnlpkehllihllaaGreatDoor
open Go.RowKit Go.Sort

/-- A size in the interval of a pattern is rounded to it. -/
theorem round_is {f : Fm} (hf : FmIs f) {p q Y : Nat} {mode : Int} (hp : p < 2 ^ f.width) (hc : clsI f p (pKey f p) = 2) (hY : 0 < Y)
    (hI : inI (lowB f (pKey f p)) (highB f (mostN f (pNeg f p)) (pKey f p)) Y (evenB (pKey f p)) = true) (hr : RoundIs f mode (pNeg f p) Y q) : q = p := by
  obtain ⟨q1, q2, q3, q4⟩ := cls_fin hf hp hc
  have h0 : 1 ≤ pKey f p ∨ f.kind = 4 := by rcases q2 with q | q; exact .inl (by omega); exact .inr q
  rcases hr with ⟨r1, r2, r3⟩ | ⟨r1, k, over, hn, r2⟩
  · rcases r2 with r2 | r2
    · exact absurd r1 (q3 r2)
    · omega
  · rcases in_srch hf q1 (mostN_le _) h0 hY hI with ⟨s1, s2, s3⟩ | ⟨⟨k0, s1, s2⟩, s3⟩
    · rcases hn with ⟨rfl, n2, n3⟩ | ⟨_, n2, _⟩
      · rw [if_pos rfl] at r2
        unfold largeN at r2
        rw [if_pos (.inr s3), ← s2, q4] at r2
        exact r2
      · rw [s1] at n2; cases n2
    · rcases hn with ⟨_, n2, n3⟩ | ⟨rfl, n2, k1, n3, n4⟩
      · rw [s3] at n3; cases n3
      · rw [if_neg (by decide)] at r2
        obtain rfl := srch_one hf (mostN_le _) s1 n3
        rw [r2, n4, s2, q4]
/-- The shortest digits lie in the interval; their number is in bounds. -/
theorem short_in {n p D : Nat} {K : Int} (h1 : 1 ≤ n) (h2 : n < 15) (hp : p < 2 ^ (formAt n).width) (hc : clsI (formAt n) p (pKey (formAt n) p) = 2) (h : ShortIs (pLo n p) (pHi n p) (pEv n p) (pX n p) D K) :
    D ≠ 0 ∧ D % 10 ≠ 0 ∧ D < 10 ^ 22 ∧ -500 ≤ K ∧ K ≤ 500 ∧ ∀ mode q, RoundIs (formAt n) mode (pNeg (formAt n) p) (ex D K K) q → q = p := by
  obtain ⟨L, k, d, j, hL, hF, e, m, rfl⟩ := h
  obtain ⟨f1, f2⟩ := found_le hL hF
  have hb := hF.bot
  have ht := hF.top
  have hl1 := hL.2.2.1
  have hl2 := hL.2.2.2
  have hD : D ≠ 0 := fun q => by rw [q] at m; exact m rfl
  have h10 : 0 < 10 ^ j := Nat.pow_pos (by omega)
  have hDd : D ≤ d := by rw [← e]; exact Nat.le_mul_of_pos_right _ h10
  have h21 : 10 ^ (L + 1 - k).toNat ≤ 10 ^ 21 := Nat.pow_le_pow_right (by omega) (by omega)
  have hj : j ≤ 21 := by
    rcases Nat.lt_or_ge 21 j with q | q
    · have h22 : 10 ^ 22 ≤ 10 ^ j := Nat.pow_le_pow_right (by omega) q
      have h23 : 10 ^ j ≤ D * 10 ^ j := Nat.le_mul_of_pos_left _ (by omega)
      omega
    · exact q
  refine ⟨hD, m, by omega, by omega, by omega, fun mode q hq => ?_⟩
  refine round_is (form_is h1 h2) hp hc (ex_pos hD _ _) ?_ hq
  rw [ex_TT, TT_add _ (by omega), show D * (TT k * 10 ^ j) = D * 10 ^ j * TT k by ac_rfl, e]
  exact hF.has
end Go.Proofs.YtnlpkehllihllaaGreatDoor

/-
  Plain laws: what digits are worth; the text of a number is its digits.
-/
namespace Go.Proofs.YtnlpkehllihllaaGreatDoor
open Go.RowKit

/-- Is a byte a digit? -/
def isD (b : UInt8) : Prop := 48 ≤ b.toNat ∧ b.toNat ≤ 57
/-- What digits are worth. -/
def dval : List UInt8 → Nat
  | [] => 0
  | b :: l => (b.toNat - 48) * 10 ^ l.length + dval l
theorem dval_nil : dval [] = 0 := rfl
theorem dval_cons (b : UInt8) (l : List UInt8) : dval (b :: l) = (b.toNat - 48) * 10 ^ l.length + dval l := rfl
theorem dval_append (a b : List UInt8) : dval (a ++ b) = dval a * 10 ^ b.length + dval b := by
  induction a with
  | nil => simp [dval]
  | cons x a ih =>
    rw [List.cons_append, dval_cons, dval_cons, ih, List.length_append, Nat.pow_add, Nat.add_mul, Nat.mul_assoc, Nat.add_assoc]
theorem dval_lt {l : List UInt8} (h : ∀ b ∈ l, isD b) : dval l < 10 ^ l.length := by
  induction l with
  | nil => simp [dval]
  | cons x l ih =>
    have h1 := ih (fun b hb => h b (List.mem_cons_of_mem _ hb))
    have h2 := h x (List.mem_cons_self)
    rw [dval_cons, List.length_cons, Nat.pow_succ]
    have h3 : (x.toNat - 48) * 10 ^ l.length ≤ 9 * 10 ^ l.length := Nat.mul_le_mul_right _ (by have := h2.2; omega)
    omega
theorem dval_zeros (n : Nat) : dval (List.replicate n 48) = 0 := by
  induction n with
  | zero => rfl
  | succ n ih => rw [List.replicate_succ, dval_cons, ih]; simp
theorem dval_one (b : UInt8) : dval [b] = b.toNat - 48 := by simp [dval]

theorem ofNat_dig {d : Nat} (h : d < 10) : (UInt8.ofNat (48 + d)).toNat = 48 + d := by
  rw [UInt8.toNat_ofNat']; omega
theorem isD_dec : ∀ (x : Nat), ∀ b ∈ Lib.decDigits x, isD b := by
  intro x
  induction x using Nat.strongRecOn with
  | ind x ih =>
    intro b hb
    by_cases h : x < 10
    · rw [Lib.decDigits, dif_pos h] at hb
      obtain rfl := List.mem_singleton.1 hb
      unfold isD
      rw [ofNat_dig h]; omega
    · rw [Lib.decDigits, dif_neg h] at hb
      rcases List.mem_append.1 hb with q | q
      · exact ih (x / 10) (by omega) b q
      · obtain rfl := List.mem_singleton.1 q
        unfold isD
        rw [ofNat_dig (by omega)]; omega
theorem dval_dec : ∀ (x : Nat), dval (Lib.decDigits x) = x := by
  intro x
  induction x using Nat.strongRecOn with
  | ind x ih =>
    by_cases h : x < 10
    · rw [Lib.decDigits, dif_pos h, dval_one, ofNat_dig h]; omega
    · rw [Lib.decDigits, dif_neg h, dval_append, ih (x / 10) (by omega), dval_one, ofNat_dig (by omega)]
      simp
      omega
theorem padL_len {r : Nat} (h : r < 10000000000000000000) : (padL r).length = 19 := by
  have h4 := decDigits_le h
  rw [Lib.decDigits_length] at h4
  unfold padL
  rw [List.length_append, List.length_replicate, Lib.decDigits_length]
  omega
theorem isD_pad (r : Nat) : ∀ b ∈ padL r, isD b := by
  intro b hb
  unfold padL at hb
  rcases List.mem_append.1 hb with q | q
  · obtain rfl := (List.mem_replicate.1 q).2
    exact ⟨by decide, by decide⟩
  · exact isD_dec r b q
theorem dval_pad (r : Nat) : dval (padL r) = r := by
  unfold padL
  rw [dval_append, dval_zeros, Nat.zero_mul, Nat.zero_add, dval_dec]
theorem isD_text : ∀ (x : Nat), ∀ b ∈ textL x, isD b := by
  intro x
  induction x using Nat.strongRecOn with
  | ind x ih =>
    intro b hb
    by_cases h : x < 10000000000000000000
    · rw [textL_small h] at hb; exact isD_dec x b hb
    · rw [textL_big h] at hb
      rcases List.mem_append.1 hb with q | q
      · exact ih _ (by omega) b q
      · exact isD_pad _ b q
theorem dval_text : ∀ (x : Nat), dval (textL x) = x := by
  intro x
  induction x using Nat.strongRecOn with
  | ind x ih =>
    by_cases h : x < 10000000000000000000
    · rw [textL_small h, dval_dec]
    · rw [textL_big h, dval_append, padL_len (by omega), ih _ (by omega), dval_pad, show (10 : Nat) ^ 19 = 10000000000000000000 from rfl]
      omega
/-- The first digit of a text is not 0; neither is the last one of what is no multiple of ten. -/
theorem text_head {x : Nat} (h : x ≠ 0) : ∃ b l, textL x = b :: l ∧ b ≠ 48 := by
  obtain ⟨h1, h2⟩ := textL_len x h
  cases e : textL x with
  | nil => rw [e] at h1; simp at h1
  | cons b l =>
    refine ⟨b, l, rfl, fun q => ?_⟩
    have h3 := dval_text x
    have h4 := isD_text x
    rw [e] at h2 h3 h4
    rw [dval_cons, q] at h3
    have h5 := dval_lt (l := l) (fun c hc => h4 c (List.mem_cons_of_mem _ hc))
    simp at h2 h3
    omega
theorem text_last {x : Nat} (h : x % 10 ≠ 0) : ∃ b l, textL x = l ++ [b] ∧ b ≠ 48 := by
  have h0 : x ≠ 0 := fun q => h (by rw [q])
  obtain ⟨h1, h2⟩ := textL_len x h0
  have hne : textL x ≠ [] := fun q => by rw [q] at h1; simp at h1
  refine ⟨(textL x).getLast hne, (textL x).dropLast, (List.dropLast_concat_getLast hne).symm, fun q => ?_⟩
  have h3 := dval_text x
  rw [← List.dropLast_concat_getLast hne, dval_append, dval_one, q] at h3
  simp at h3
  omega
/-- Digits are parsed. -/
theorem parse_dig : ∀ {l : List UInt8} {acc : Nat}, (∀ b ∈ l, isD b) → acc * 10 ^ l.length + dval l < 18446744073709551616 → Lib.parseUint10 acc l = .ok (acc * 10 ^ l.length + dval l) := by
  intro l
  induction l with
  | nil => intro acc _ _; simp [Lib.parseUint10, dval]
  | cons c r ih =>
    intro acc h hb
    have hc := h c (List.mem_cons_self)
    have e : acc * 10 ^ (c :: r).length + dval (c :: r) = (acc * 10 + (c.toNat - 48)) * 10 ^ r.length + dval r := by
      rw [List.length_cons, Nat.pow_succ, dval_cons, Nat.add_mul]
      have : acc * (10 ^ r.length * 10) = acc * 10 * 10 ^ r.length := by ac_rfl
      omega
    rw [e] at hb ⊢
    have hp : 1 ≤ 10 ^ r.length := Nat.one_le_pow _ _ (by omega)
    have hle : acc * 10 + (c.toNat - 48) ≤ (acc * 10 + (c.toNat - 48)) * 10 ^ r.length := Nat.le_mul_of_pos_right _ hp
    unfold Lib.parseUint10
    rw [if_pos (show 48 ≤ c.toNat ∧ c.toNat ≤ 57 from hc), if_neg (by omega), if_neg (by omega)]
    exact ih (fun b q => h b (List.mem_cons_of_mem _ q)) hb
end Go.Proofs.YtnlpkehllihllaaGreatDoor
