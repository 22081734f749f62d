/-
  A part of the proofs that calipertop.TopBack, TopFloats and TopNearest return true for every input and leave it as it was: part 15 of 47.
-/
import Derived.Test.YtnlpkehllihllaaGreatDoorGt12
import Derived.Test.YtnlpkehllihllaaGreatDoorGt10
import Derived.Test.YtnlpkehllihllaaGreatDoorGt09
import Derived.Test.YtnlpkehllihllaaGreatDoorGt14
/-
  Plain laws of rounding and of shortest digits: the numbers that have one pattern are an interval; what digits lie in it.
-/
namespace Go.Proofs.YtnlpkehllihllaaGreatDoor
open Go.RowKit Go.Sort

/-- The boundary behind a magnitude; a magnitude's number. -/
def BV (f : Fm) (key : Nat) : Nat := NV f 1 (2 * key + 1)
def VV (f : Fm) (key : Nat) : Nat := NV f 0 key
/-- Is a size to be rounded to a magnitude, or a lesser one? -/
def wth (f : Fm) (Y key : Nat) : Bool := decide (Y < BV f key) || (decide (Y = BV f key) && decide (key % 2 = 0))
/-- Between which sizes a magnitude is told; 0: none. -/
def firstK (f : Fm) : Nat := if f.kind = 1 then 2 else 1
def lowB (f : Fm) (key : Nat) : Nat := if firstK f ≤ key then BV f (key - 1) else 0
def highB (f : Fm) (most key : Nat) : Nat := if key < most ∨ (f.kind ≠ 1 ∧ ¬ (f.inf = 0 ∧ f.nan = 0)) then BV f key else 0
/-- Is a size in an interval? -/
def inI (lo hi Y : Nat) (even : Bool) : Bool := (decide (lo < Y) || (decide (Y = lo) && even && decide (lo ≠ 0))) && (decide (hi = 0) || decide (Y < hi) || (decide (Y = hi) && even))
def evenB (key : Nat) : Bool := decide (key % 2 = 0)

theorem firstK_is (f : Fm) : (f.kind = 1 ∧ firstK f = 2) ∨ (f.kind ≠ 1 ∧ firstK f = 1) := by
  unfold firstK
  by_cases h : f.kind = 1
  · exact .inl ⟨h, if_pos h⟩
  · exact .inr ⟨h, if_neg h⟩
theorem bv_lt {f : Fm} (hf : FmIs f) {i j : Nat} (h : i < j) (hj : j ≤ f.most) : BV f i < BV f j := by
  obtain ⟨d, rfl⟩ : ∃ d, j = i + d + 1 := ⟨j - i - 1, by omega⟩
  clear h
  induction d with
  | zero =>
    have h1 := nv_below hf (key := i + 0 + 1) (by omega) hj
    have h2 := nv_above hf (key := i + 0 + 1) (.inl (by omega)) hj
    rw [show i + 0 + 1 - 1 = i by omega] at h1
    exact Nat.lt_trans h1 h2
  | succ d ih =>
    have h0 := ih (by omega)
    have h1 := nv_below hf (key := i + (d + 1) + 1) (by omega) hj
    have h2 := nv_above hf (key := i + (d + 1) + 1) (.inl (by omega)) hj
    rw [show i + (d + 1) + 1 - 1 = i + d + 1 by omega] at h1
    exact Nat.lt_trans h0 (Nat.lt_trans h1 h2)
theorem bv_pos (f : Fm) (key : Nat) : 0 < BV f key := by
  refine ex_pos ?_ _ _
  unfold numM
  split
  · unfold pM
    have := Nat.two_pow_pos (pL (f.width + 1 - 2) (2 * key + 1) - 2)
    omega
  · split
    · unfold mmS
      split
      · next q =>
        have h0 := Nat.div_add_mod (2 * key + 1) (2 ^ (f.man + 1))
        rw [q, Nat.mul_zero] at h0
        omega
      · have := Nat.two_pow_pos (f.man + 1)
        omega
    · split <;> omega
theorem wth_mono {f : Fm} (hf : FmIs f) {i j Y : Nat} (h : i < j) (hj : j ≤ f.most) (hw : wth f Y i = true) : Y < BV f j := by
  have hb := bv_lt hf h hj
  unfold wth at hw
  simp only [Bool.or_eq_true, Bool.and_eq_true, decide_eq_true_eq] at hw
  omega
theorem wth_lt {f : Fm} {Y key : Nat} (h : Y < BV f key) : wth f Y key = true := by unfold wth; rw [decide_eq_true h]; rfl

/-- What the search for a magnitude gives. -/
structure Srch (f : Fm) (most Y key : Nat) : Prop where
  le : key ≤ most
  low : key = 0 ∨ wth f Y (key - 1) = false
  high : wth f Y key = true
/-- The magnitude that is told: a posit is never 0, but of 0. -/
def lifted (f : Fm) (Y key : Nat) : Nat := if f.kind = 1 ∧ key = 0 ∧ Y ≠ 0 then 1 else key

theorem srch_one {f : Fm} (hf : FmIs f) {most Y i j : Nat} (hm : most ≤ f.most) (h1 : Srch f most Y i) (h2 : Srch f most Y j) : i = j := by
  have key : ∀ {i j : Nat}, Srch f most Y i → Srch f most Y j → ¬ i < j := by
    intro i j h1 h2 h
    rcases h2.low with q | q
    · omega
    · have h3 := h1.high
      have hj := h2.le
      rcases Nat.lt_or_ge i (j - 1) with r | r
      · rw [wth_lt (wth_mono hf r (by omega) h3)] at q; cases q
      · obtain rfl : i = j - 1 := by omega
        rw [h3] at q; cases q
  have a := key h1 h2
  have b := key h2 h1
  omega

/-- A size whose magnitude is told lies in its interval. -/
theorem srch_in {f : Fm} (hf : FmIs f) {most Y k0 : Nat} (hm : most ≤ f.most) (hmp : 1 ≤ most) (h : Srch f most Y k0) (hY : 0 < Y) : inI (lowB f (lifted f Y k0)) (highB f most (lifted f Y k0)) Y (evenB (lifted f Y k0)) = true := by
  unfold inI
  rw [Bool.and_eq_true]
  have hhigh : ∀ key, Y < BV f key ∨ (Y = BV f key ∧ key % 2 = 0) → (decide (highB f most key = 0) || decide (Y < highB f most key) || (decide (Y = highB f most key) && evenB key)) = true := by
    intro key q
    unfold highB
    split
    · unfold evenB
      simp only [Bool.or_eq_true, Bool.and_eq_true, decide_eq_true_eq]
      omega
    · simp
  by_cases hl : f.kind = 1 ∧ k0 = 0 ∧ Y ≠ 0
  · obtain ⟨l1, rfl, _⟩ := hl
    have e : lifted f Y 0 = 1 := by unfold lifted; rw [if_pos ⟨l1, rfl, by omega⟩]
    rw [e]
    refine ⟨?_, hhigh 1 (.inl (wth_mono hf (by omega) (by omega) h.high))⟩
    unfold lowB
    rw [if_neg (by have := firstK_is f; omega), decide_eq_true hY]
    rfl
  · have e : lifted f Y k0 = k0 := by unfold lifted; rw [if_neg hl]
    rw [e]
    refine ⟨?_, hhigh k0 ?_⟩
    · unfold lowB
      have hfk := firstK_is f
      by_cases hk : firstK f ≤ k0
      · rw [if_pos hk]
        have hp := bv_pos f (k0 - 1)
        have hk1 : 1 ≤ k0 := by omega
        rcases h.low with q | q
        · omega
        · unfold wth at q
          simp only [Bool.or_eq_false_iff, Bool.and_eq_false_iff, decide_eq_false_iff_not] at q
          unfold evenB
          simp only [Bool.or_eq_true, Bool.and_eq_true, decide_eq_true_eq]
          omega
      · rw [if_neg hk, decide_eq_true hY]; rfl
    · have q := h.high
      unfold wth at q
      simp only [Bool.or_eq_true, Bool.and_eq_true, decide_eq_true_eq] at q
      exact q
/-- A size that is too large lies in the greatest magnitude's interval, where this has no end. -/
theorem large_in {f : Fm} (hf : FmIs f) {most Y : Nat} (hm : most ≤ f.most) (hmp : 1 ≤ most) (h : wth f Y most = false) (he : f.kind = 1 ∨ (f.inf = 0 ∧ f.nan = 0)) (hY : 0 < Y) : inI (lowB f most) (highB f most most) Y (evenB most) = true := by
  have h0 : highB f most most = 0 := by
    unfold highB
    rw [if_neg]
    rintro (q | ⟨q1, q2⟩)
    · omega
    · rcases he with he | he
      · exact q1 he
      · exact q2 he
  have h1 : BV f most ≤ Y := by
    unfold wth at h
    simp only [Bool.or_eq_false_iff, Bool.and_eq_false_iff, decide_eq_false_iff_not] at h
    omega
  have h2 : lowB f most < Y := by
    unfold lowB
    split
    · have := bv_lt hf (i := most - 1) (j := most) (by omega) hm
      omega
    · exact hY
  unfold inI
  rw [h0, decide_eq_true h2]
  rfl
/-- A size in an interval has that magnitude. -/
theorem in_srch {f : Fm} (hf : FmIs f) {most Y key : Nat} (hk : key ≤ most) (hm : most ≤ f.most) (h1 : 1 ≤ key ∨ f.kind = 4) (hY : 0 < Y) (h : inI (lowB f key) (highB f most key) Y (evenB key) = true) :
    (wth f Y most = false ∧ key = most ∧ (f.kind = 1 ∨ (f.inf = 0 ∧ f.nan = 0))) ∨ (∃ k0, Srch f most Y k0 ∧ lifted f Y k0 = key) ∧ wth f Y most = true := by
  have hlow : (key = 0 ∨ (f.kind = 1 ∧ key = 1)) ∨ wth f Y (key - 1) = false := by
    unfold inI at h
    rw [Bool.and_eq_true] at h
    have h2 := h.1
    unfold lowB at h2
    split at h2
    · right
      unfold wth
      unfold evenB at h2
      simp only [Bool.or_eq_true, Bool.and_eq_true, decide_eq_true_eq] at h2
      simp only [Bool.or_eq_false_iff, Bool.and_eq_false_iff, decide_eq_false_iff_not]
      have := firstK_is f
      omega
    · next q2 =>
        left
        have := firstK_is f
        omega
  have hhigh : wth f Y key = true ∨ (key = most ∧ (f.kind = 1 ∨ (f.inf = 0 ∧ f.nan = 0))) := by
    unfold inI at h
    rw [Bool.and_eq_true] at h
    have h2 := h.2
    unfold highB at h2
    split at h2
    · left
      have := bv_pos f key
      unfold wth
      unfold evenB at h2
      simp only [Bool.or_eq_true, Bool.and_eq_true, decide_eq_true_eq] at h2 ⊢
      omega
    · right
      next q2 =>
        refine ⟨by omega, ?_⟩
        rcases Classical.em (f.kind = 1) with q | q
        · exact .inl q
        · exact .inr (Classical.byContradiction fun q3 => q2 (.inr ⟨q, q3⟩))
  cases hw : wth f Y most with
  | false =>
    left
    rcases hhigh with q | q
    · rcases Nat.eq_or_lt_of_le hk with rfl | hlt
      · rw [hw] at q; cases q
      · rw [wth_lt (wth_mono hf hlt hm q)] at hw; cases hw
    · exact ⟨rfl, q⟩
  | true =>
    right
    have hk2 : wth f Y key = true := by
      rcases hhigh with q | q
      · exact q
      · rw [q.1]; exact hw
    refine ⟨?_, rfl⟩
    rcases hlow with (q | ⟨q1, q2⟩) | q
    · refine ⟨key, ⟨hk, .inl q, hk2⟩, ?_⟩
      unfold lifted
      rw [if_neg]
      rintro ⟨r1, r2, _⟩
      rcases h1 with h1 | h1
      · omega
      · rw [h1] at r1; cases r1
    · cases h0 : wth f Y 0 with
      | true => exact ⟨0, ⟨by omega, .inl rfl, h0⟩, by unfold lifted; rw [if_pos ⟨q1, rfl, by omega⟩, q2]⟩
      | false => exact ⟨key, ⟨hk, .inr (by rw [q2]; exact h0), hk2⟩, by unfold lifted; rw [if_neg (by omega)]⟩
    · refine ⟨key, ⟨hk, .inr q, hk2⟩, ?_⟩
      unfold lifted
      rw [if_neg]
      rintro ⟨r1, r2, _⟩
      rcases h1 with h1 | h1
      · omega
      · rw [h1] at r1; cases r1
end Go.Proofs.YtnlpkehllihllaaGreatDoor

/-
  Plain laws of shortest digits: how far a number is from its boundary, how many digits do, and that one digit less does not.
-/
namespace Go.Proofs.YtnlpkehllihllaaGreatDoor
open Go.RowKit Go.Sort

theorem gap_pow {m1 a1 m2 a2 : Nat} (h1 : m1 < 2 ^ 64) (h2 : m2 < 2 ^ 64) (h : m2 * 2 ^ a2 < m1 * 2 ^ a1) : m1 * 2 ^ a1 ≤ (m1 * 2 ^ a1 - m2 * 2 ^ a2) * 2 ^ 65 := by
  have p1 := Nat.two_pow_pos a1
  have p2 := Nat.two_pow_pos a2
  rcases Nat.lt_or_ge a2 a1 with q | q
  · obtain ⟨d, rfl⟩ : ∃ d, a1 = a2 + d := ⟨a1 - a2, by omega⟩
    have e : m1 * 2 ^ (a2 + d) = (m1 * 2 ^ d) * 2 ^ a2 := by rw [Nat.pow_add]; ac_rfl
    rw [e] at h ⊢
    generalize m1 * 2 ^ d = z at *
    have hz : m2 < z := Nat.lt_of_mul_lt_mul_right h
    rw [← Nat.sub_mul]
    rw [Nat.mul_right_comm]
    refine Nat.mul_le_mul_right _ ?_
    omega
  · obtain ⟨d, rfl⟩ : ∃ d, a2 = a1 + d := ⟨a2 - a1, by omega⟩
    have e : m2 * 2 ^ (a1 + d) = (m2 * 2 ^ d) * 2 ^ a1 := by rw [Nat.pow_add]; ac_rfl
    rw [e] at h ⊢
    generalize m2 * 2 ^ d = z at *
    have hz : z < m1 := Nat.lt_of_mul_lt_mul_right h
    rw [← Nat.sub_mul]
    rw [Nat.mul_right_comm]
    refine Nat.mul_le_mul_right _ ?_
    omega
theorem gap_ex {m1 m2 : Nat} {e1 e2 : Int} (h1 : m1 < 2 ^ 64) (h2 : m2 < 2 ^ 64) (h : ex m2 e2 0 < ex m1 e1 0) : ex m1 e1 0 ≤ (ex m1 e1 0 - ex m2 e2 0) * 2 ^ 65 := by
  rw [ex_five, ex_five] at h ⊢
  generalize five25 = c at h ⊢
  have h3 := Nat.lt_of_mul_lt_mul_right h
  have h4 := gap_pow h1 h2 h3
  rw [← Nat.sub_mul, Nat.mul_right_comm _ c (2 ^ 65)]
  exact Nat.mul_le_mul_right _ h4

theorem numM_lt {f : Fm} (hf : FmIs f) {more key : Nat} (hmore : more ≤ 1) (hk : key < 2 ^ 64) : numM f more key < 2 ^ 64 := by
  cases hf with
  | posit h w1 w2 t n i =>
    unfold numM
    rw [if_pos h]
    obtain ⟨k, hkk⟩ : ∃ k, f.width + more - 2 = k := ⟨_, rfl⟩
    rw [hkk]
    have hL : pL k key ≤ 63 := by
      unfold pL
      split
      · have := blen_bound hk; omega
      · have h1 : 2 ^ (k + 1) - 1 - key < 2 ^ (k + 1) := by have := Nat.two_pow_pos (k + 1); omega
        have := blen_bound h1; omega
    unfold pM
    have h2 : 2 ^ (pL k key - 2) ≤ 2 ^ 61 := Nat.pow_le_pow_right (by omega) (by omega)
    have h3 := Nat.mod_lt (key % 2 ^ pL k key) (Nat.two_pow_pos (pL k key - 2))
    omega
  | signed h w1 w2 m b1 b2 t e t3 e2 =>
    unfold numM
    rw [if_neg (by rw [h]; decide), if_pos h]
    have := mmS_lt (m := f.man + more) (key := key) (by omega)
    omega
  | turned h w m t n i =>
    unfold numM
    rw [if_neg (by rw [h]; decide), if_neg (by rw [h]; decide), if_pos h]
    exact hk
  | scale h w b t n i =>
    unfold numM
    rw [if_neg (by rw [h]; decide), if_neg (by rw [h]; decide), if_neg (by rw [h]; decide)]
    omega
theorem most_lt {f : Fm} (hf : FmIs f) : f.most < 2 ^ 63 ∧ 3 ≤ f.most := by
  unfold Fm.most
  cases hf with
  | posit h w1 w2 t n i =>
    rw [if_neg (by rw [h]; decide), t]
    have h1 : 2 ^ (f.width - 1) ≤ 2 ^ 63 := Nat.pow_le_pow_right (by omega) (by omega)
    have h2 : 2 ^ 3 ≤ 2 ^ (f.width - 1) := Nat.pow_le_pow_right (by omega) (by omega)
    omega
  | signed h w1 w2 m b1 b2 t e t3 e2 =>
    rw [if_neg (by rw [h]; decide)]
    have h1 : 2 ^ (f.width - 1) ≤ 2 ^ 63 := Nat.pow_le_pow_right (by omega) (by omega)
    omega
  | turned h w m t n i => rw [if_pos h, t]; omega
  | scale h w b t n i => rw [if_neg (by rw [h]; decide), t]; omega
/-- A number is far enough from the boundary below it. -/
theorem gap_low {f : Fm} (hf : FmIs f) {key : Nat} (hk : key ≤ f.most) (h0 : 1 ≤ key ∨ f.kind = 4) : lowB f key < VV f key ∧ VV f key ≤ (VV f key - lowB f key) * 2 ^ 65 := by
  have hm := most_lt hf
  have hV : 0 < VV f key := by
    rcases h0 with q | q
    · exact Nat.lt_of_le_of_lt (Nat.zero_le _) (nv_below hf q hk)
    · refine ex_pos ?_ _ _
      unfold numM
      rw [if_neg (by rw [q]; decide), if_neg (by rw [q]; decide), if_neg (by rw [q]; decide)]
      omega
  unfold lowB
  split
  · next q =>
    have hk1 : 1 ≤ key := by have := firstK_is f; omega
    have h1 := nv_below hf hk1 hk
    refine ⟨h1, ?_⟩
    unfold VV BV NV at *
    exact gap_ex (numM_lt hf (by omega) (by omega)) (numM_lt hf (by omega) (by omega)) h1
  · exact ⟨hV, by omega⟩
theorem gap_high {f : Fm} (hf : FmIs f) {most key : Nat} (hk : key ≤ f.most) (h0 : 1 ≤ key ∨ f.kind = 4) : highB f most key = 0 ∨ VV f key < highB f most key := by
  unfold highB
  split
  · exact .inr (nv_above hf h0 hk)
  · exact .inl rfl

/-- A power of ten. -/
def TT (k : Int) : Nat := ex 1 k k
theorem TT_pos (k : Int) : 0 < TT k := ex_pos (by decide) _ _
theorem TT_add {k : Int} (m : Nat) (h : -2500 ≤ k) : TT (k + m) = TT k * 10 ^ m := by
  unfold TT
  rw [ex_ten, ex_ten, ← Nat.pow_add]
  congr 1
  omega
theorem ex_TT (d : Nat) (k : Int) : ex d k k = d * TT k := by unfold TT ex; rw [Nat.one_mul]; ac_rfl
/-- Is what Floor tells in the interval; is the next one? -/
def oneB (lo hi : Nat) (ev : Bool) (X T : Nat) : Bool := inI lo hi (X / T * T) ev
def twoB (lo hi : Nat) (ev : Bool) (X T : Nat) : Bool := decide (X % T ≠ 0) && inI lo hi ((X / T + 1) * T) ev
/-- The interval holds the number. -/
structure Holds3 (lo hi X : Nat) : Prop where
  low : lo < X
  gap : X ≤ (X - lo) * 2 ^ 65
  high : hi = 0 ∨ X < hi
theorem holds_in {lo hi X Y : Nat} (ev : Bool) (h : Holds3 lo hi X) (h1 : lo < Y) (h2 : Y ≤ X) : inI lo hi Y ev = true := by
  unfold inI
  rw [decide_eq_true h1]
  rcases h.high with q | q
  · rw [decide_eq_true q]; rfl
  · rw [decide_eq_true (show Y < hi by omega)]; simp
/-- Twenty-one digits do. -/
theorem one_far {lo hi X : Nat} {L : Int} (ev : Bool) (h : Holds3 lo hi X) (hL : IsLg X L) {k : Int} (hk : k ≤ L - 20) (hk1 : -2500 ≤ k) : oneB lo hi ev X (TT k) = true := by
  have hp := TT_pos k
  obtain ⟨m, hm⟩ : ∃ m : Nat, L = k + 20 + m := ⟨(L - k - 20).toNat, by omega⟩
  have h1 : TT L = TT k * 10 ^ (20 + m) := by rw [← TT_add _ hk1]; congr 1; omega
  have h2 : TT L ≤ X := hL.1
  have h3 : 10 ^ 20 ≤ 10 ^ (20 + m) := Nat.pow_le_pow_right (by omega) (by omega)
  have h4 : TT k * 10 ^ 20 ≤ X := Nat.le_trans (Nat.mul_le_mul_left _ h3) (h1 ▸ h2)
  have h5 := h.gap
  have h6 : TT k < X - lo := by
    rcases Nat.lt_or_ge (TT k) (X - lo) with q | q
    · exact q
    · have : (X - lo) * 2 ^ 65 ≤ TT k * 2 ^ 65 := Nat.mul_le_mul_right _ q
      omega
  have h7 := Nat.div_add_mod X (TT k)
  have h8 := Nat.mod_lt X hp
  rw [Nat.mul_comm] at h7
  unfold oneB
  refine holds_in ev h ?_ ?_ <;> omega

/-- What the search for the shortest digits finds. -/
structure Found (lo hi : Nat) (ev : Bool) (X : Nat) (L k : Int) (d : Nat) : Prop where
  top : k ≤ L
  bot : L - 20 ≤ k
  dig : d = X / TT k ∨ d = X / TT k + 1
  has : inI lo hi (d * TT k) ev = true
  none : ∀ j : Int, k < j → j ≤ L → oneB lo hi ev X (TT j) = false ∧ twoB lo hi ev X (TT j) = false

theorem found_le {lo hi X d : Nat} {ev : Bool} {L k : Int} (hL : IsLg X L) (h : Found lo hi ev X L k d) : d ≤ 10 ^ (L + 1 - k).toNat ∧ 1 ≤ d := by
  have h1 : X < TT (L + 1) := hL.2.1
  have h2 := hL.2.2.1
  have hb := h.bot
  have ht := h.top
  obtain ⟨m, hm⟩ : ∃ m : Nat, L + 1 = k + m := ⟨(L + 1 - k).toNat, by omega⟩
  rw [hm, TT_add _ (by omega)] at h1
  have h3 : X / TT k < 10 ^ m := by rw [Nat.div_lt_iff_lt_mul (TT_pos k), Nat.mul_comm]; exact h1
  have h4 : 1 ≤ X / TT k := by
    rw [Nat.le_div_iff_mul_le (TT_pos k), Nat.one_mul]
    exact Nat.le_trans (ten_le ht) hL.1
  rw [show (L + 1 - k).toNat = m by omega]
  rcases h.dig with q | q <;> omega
theorem ten_pow_one {D j m : Nat} (h : D * 10 ^ j = 10 ^ m) (hD : D % 10 ≠ 0) : D = 1 := by
  rcases Nat.lt_or_ge m j with q | q
  · have h1 : 10 ^ m < 10 ^ j := Nat.pow_lt_pow_right (by omega) q
    have h2 : 1 * 10 ^ j ≤ D * 10 ^ j := Nat.mul_le_mul_right _ (by omega)
    omega
  · obtain ⟨d, rfl⟩ : ∃ d, m = d + j := ⟨m - j, by omega⟩
    rw [Nat.pow_add] at h
    have h1 := Nat.eq_of_mul_eq_mul_right (Nat.pow_pos (show 0 < 10 by omega)) h
    rcases d with _ | d
    · exact h1
    · rw [Nat.pow_succ] at h1
      omega
/-- One digit less does not do. -/
theorem less_not {lo hi X d D j n : Nat} {ev : Bool} {L k : Int} (hX : Holds3 lo hi X) (hL : IsLg X L) (h : Found lo hi ev X L k d) (hd : D * 10 ^ j = d) (hD : D % 10 ≠ 0) (h1 : 10 ^ (n - 1) ≤ D) :
    n ≤ 22 ∧ (2 ≤ n → ∃ d2, d2 = X / TT (L + 2 - n) ∧ 1 ≤ d2 ∧ d2 < 10 ^ 22 ∧ L - 21 ≤ L + 2 - n ∧ L + 2 - n ≤ L ∧ inI lo hi (d2 * TT (L + 2 - n)) ev = false ∧ inI lo hi ((d2 + 1) * TT (L + 2 - n)) ev = false) := by
  obtain ⟨f1, f2⟩ := found_le hL h
  have hb := h.bot
  have ht := h.top
  have hL3 := hL.2.2.1
  obtain ⟨m, hm⟩ : ∃ m : Nat, L + 1 = k + m := ⟨(L + 1 - k).toNat, by omega⟩
  rw [show (L + 1 - k).toNat = m by omega] at f1
  have hm21 : m ≤ 21 := by omega
  have hj : 1 ≤ 10 ^ j := Nat.pow_pos (by omega)
  have hDd : D ≤ d := by rw [← hd]; exact Nat.le_mul_of_pos_right _ hj
  have hn : n ≤ 22 := by
    rcases Nat.lt_or_ge 22 n with q | q
    · have a1 : 10 ^ 22 ≤ 10 ^ (n - 1) := Nat.pow_le_pow_right (by omega) (by omega)
      have a2 : 10 ^ m ≤ 10 ^ 21 := Nat.pow_le_pow_right (by omega) hm21
      omega
    · exact q
  refine ⟨hn, fun hn2 => ?_⟩
  have hlt : d < 10 ^ m := by
    rcases Nat.eq_or_lt_of_le f1 with q | q
    · have := ten_pow_one (hd.trans q) hD
      have a1 : 10 ^ 1 ≤ 10 ^ (n - 1) := Nat.pow_le_pow_right (by omega) (by omega)
      omega
    · exact q
  have hnj : n - 1 + j < m := by
    have a1 : 10 ^ (n - 1 + j) ≤ d := by rw [Nat.pow_add, ← hd]; exact Nat.mul_le_mul_right _ h1
    have a2 := Nat.lt_of_le_of_lt a1 hlt
    exact (Nat.pow_lt_pow_iff_right (by omega)).1 a2
  obtain ⟨k2, hk2⟩ : ∃ k2 : Int, k2 = L + 2 - n := ⟨_, rfl⟩
  rw [← hk2]
  obtain ⟨n1, n2⟩ := h.none k2 (by omega) (by omega)
  have hd1 : 1 ≤ X / TT k2 := by
    rw [Nat.le_div_iff_mul_le (TT_pos k2), Nat.one_mul]
    exact Nat.le_trans (ten_le (show k2 ≤ L by omega)) hL.1
  have hd2 : X / TT k2 < 10 ^ 22 := by
    rw [Nat.div_lt_iff_lt_mul (TT_pos k2), Nat.mul_comm]
    have a1 : X < TT (L + 1) := hL.2.1
    rw [show L + 1 = k2 + ((n - 1 : Nat) : Int) by omega, TT_add _ (by omega)] at a1
    have a2 : 10 ^ (n - 1) ≤ 10 ^ 22 := Nat.pow_le_pow_right (by omega) (by omega)
    exact Nat.lt_of_lt_of_le a1 (Nat.mul_le_mul_left _ a2)
  refine ⟨_, rfl, hd1, hd2, by omega, by omega, n1, ?_⟩
  unfold twoB at n2
  rw [Bool.and_eq_false_iff] at n2
  rcases n2 with q | q
  · have q0 : X % TT k2 = 0 := by simpa using q
    have e := Nat.div_add_mod X (TT k2)
    rw [q0, Nat.add_zero, Nat.mul_comm] at e
    unfold oneB at n1
    rw [e, holds_in ev hX hX.low (Nat.le_refl _)] at n1
    cases n1
  · exact q
end Go.Proofs.YtnlpkehllihllaaGreatDoor

/-
  The walks of the functions that tell a magnitude's number, of each kind.
-/
namespace Go.Proofs.YtnlpkehllihllaaGreatDoor
open Go.RowKit Go.Sort

/-- A magnitude's number, as an odd one. -/
def oM (f : Fm) (more key : Nat) : Nat := numM f more key / 2 ^ tz (numM f more key)
def oE (f : Fm) (more key : Nat) : Int := numE f more key + tz (numM f more key)
/-- A key that is asked of. -/
structure KeyOk (f : Fm) (more key : Nat) : Prop where
  more1 : more ≤ 1
  pos : key ≠ 0 ∨ f.kind = 4
  le : key ≤ (1 + more) * f.most + more

theorem keyOk_at {f : Fm} {key : Nat} (h : key ≤ f.most) (h0 : key ≠ 0 ∨ f.kind = 4) : KeyOk f 0 key := ⟨by omega, h0, by omega⟩
theorem keyOk_btw {f : Fm} {key : Nat} (h : key ≤ f.most) : KeyOk f 1 (2 * key + 1) := ⟨by omega, .inl (by omega), by omega⟩
theorem KeyOk.lt64 {f : Fm} {more key : Nat} (hf : FmIs f) (h : KeyOk f more key) : key < 2 ^ 64 := by
  have h1 := most_lt hf
  have h2 := h.le
  have h3 := h.more1
  have h4 : (1 + more) * f.most ≤ 2 * f.most := Nat.mul_le_mul_right _ (by omega)
  omega
theorem numM_pos {f : Fm} (more key : Nat) (h : key ≠ 0 ∨ f.kind = 4) : numM f more key ≠ 0 := by
  unfold numM
  split
  · unfold pM
    have := Nat.two_pow_pos (pL (f.width + more - 2) key - 2)
    omega
  · split
    · next q1 q2 =>
      have hk : key ≠ 0 := by
        rcases h with h | h
        · exact h
        · rw [h] at q2; cases q2
      unfold mmS
      split
      · next q =>
        have h0 := Nat.div_add_mod key (2 ^ (f.man + more))
        rw [q, Nat.mul_zero] at h0
        omega
      · have := Nat.two_pow_pos (f.man + more)
        omega
    · split
      · next q1 q2 q3 =>
        rcases h with h | h
        · exact h
        · rw [h] at q3; cases q3
      · omega
theorem oM_mul {f : Fm} {more key : Nat} (hf : FmIs f) (h : KeyOk f more key) : oM f more key * 2 ^ tz (numM f more key) = numM f more key ∧ tz (numM f more key) < 64 := by
  obtain ⟨m, h1, h2⟩ := tz_spec (numM_pos more key h.pos) (by have := numM_lt hf h.more1 (h.lt64 hf); omega)
  refine ⟨?_, h2⟩
  unfold oM
  rw [Nat.div_mul_cancel]
  exact ⟨2 * m + 1, h1⟩
theorem oM_lt {f : Fm} {more key : Nat} (hf : FmIs f) (h : KeyOk f more key) : oM f more key < 18446744073709551616 := by
  have h1 := numM_lt hf h.more1 (h.lt64 hf)
  exact Nat.lt_of_le_of_lt (Nat.div_le_self _ _) (by omega)
theorem oM_pos {f : Fm} {more key : Nat} (hf : FmIs f) (h : KeyOk f more key) : oM f more key ≠ 0 := by
  intro q
  have h1 := (oM_mul hf h).1
  rw [q, Nat.zero_mul] at h1
  exact numM_pos more key h.pos h1.symm
theorem numE_bd {f : Fm} {more key : Nat} (hf : FmIs f) (h : KeyOk f more key) : -1100 ≤ numE f more key ∧ numE f more key ≤ 1100 := by
  have hm := h.more1
  have hl := h.le
  cases hf with
  | posit k w1 w2 t n i =>
    have e : f.most = f.top := by unfold Fm.most; rw [if_neg (by rw [k]; decide)]
    rw [e, t] at hl
    have hk : key < 2 ^ (f.width + more - 2 + 1) := by
      rcases (show more = 0 ∨ more = 1 by omega) with rfl | rfl
      · rw [show f.width + 0 - 2 + 1 = f.width - 1 by omega]
        have := Nat.two_pow_pos (f.width - 1)
        omega
      · rw [show f.width + 1 - 2 + 1 = (f.width - 1) + 1 by omega, Nat.pow_succ]
        have := Nat.two_pow_pos (f.width - 1)
        omega
    have := pE_bd (k := f.width + more - 2) (by omega) hk
    unfold numE
    rw [if_pos k]
    omega
  | signed k w1 w2 m b1 b2 t e t3 e2 =>
    have q : f.most = f.top := by unfold Fm.most; rw [if_neg (by rw [k]; decide)]
    rw [q] at hl
    have hk : key / 2 ^ (f.man + more) ≤ f.top / 2 ^ f.man := by
      rcases (show more = 0 ∨ more = 1 by omega) with rfl | rfl
      · exact Nat.div_le_div_right (by omega)
      · have h1 : key / 2 ^ (f.man + 1) ≤ (2 * f.top + 1) / 2 ^ (f.man + 1) := Nat.div_le_div_right (by omega)
        rw [Nat.pow_succ, Nat.mul_comm (2 ^ f.man) 2, ← Nat.div_div_eq_div_mul (2 * f.top + 1), show (2 * f.top + 1) / 2 = f.top by omega] at h1
        rw [Nat.pow_succ, Nat.mul_comm (2 ^ f.man) 2]
        exact h1
    unfold numE meS
    rw [if_neg (by rw [k]; decide), if_pos k]
    omega
  | turned k w m t n i =>
    unfold numE
    rw [if_neg (by rw [k]; decide), if_neg (by rw [k]; decide), if_pos k]
    omega
  | scale k w b t n i =>
    have e : f.most = f.top := by unfold Fm.most; rw [if_neg (by rw [k]; decide)]
    rw [e, t] at hl
    have hd : key / 2 ^ more ≤ key := Nat.div_le_self _ _
    unfold numE
    rw [if_neg (by rw [k]; decide), if_neg (by rw [k]; decide), if_neg (by rw [k]; decide)]
    have : (1 + more) * 254 ≤ 2 * 254 := Nat.mul_le_mul_right _ (by omega)
    generalize key / 2 ^ more = d at *
    omega
theorem oE_bd {f : Fm} {more key : Nat} (hf : FmIs f) (h : KeyOk f more key) : -1100 ≤ oE f more key ∧ oE f more key ≤ 1170 := by
  have h1 := numE_bd hf h
  have h2 := (oM_mul hf h).2
  unfold oE
  omega
/-- Odd or not: the same number. -/
theorem o_ex {f : Fm} {more key : Nat} (hf : FmIs f) (h : KeyOk f more key) : ex (oM f more key) (oE f more key) 0 = NV f more key := by
  obtain ⟨h1, h2⟩ := oM_mul hf h
  have h3 := numE_bd hf h
  unfold NV
  rw [ex_five, ex_five]
  have e : (oE f more key + 2500).toNat = tz (numM f more key) + (numE f more key + 2500).toNat := by unfold oE; omega
  rw [e, Nat.pow_add]
  generalize tz (numM f more key) = t at *
  generalize 2 ^ (numE f more key + 2500).toNat = y
  generalize five25 = c
  rw [← Nat.mul_assoc, h1]
end Go.Proofs.YtnlpkehllihllaaGreatDoor

/-
  The walks of the functions that tell a magnitude's number, of each kind.
-/
namespace Go.Proofs.YtnlpkehllihllaaGreatDoor
open Go.RowKit Go.Sort

set_option maxHeartbeats 1600000 in
set_option maxRecDepth 100000 in
theorem num1_any (f : Fm) (more key : Nat) (mo : Int) (w : World) (hf : FmIs f) (h : KeyOk f more key) (k : f.kind = 1) (hmo : mo = more) (hE : Env w) :
    Calls Tryz.prog 180 #[f.v, .int .i64 mo, U key] w fun r w' => r = .returned (.tuple #[U (oM f more key), .int .i64 (oE f more key)]) ∧ Below w.heap.size w w' := by
  have hm := h.more1
  have hp := h.pos
  have hl := h.le
  obtain ⟨w1, w2⟩ := width_bd hf
  have ht : f.top = 2 ^ (f.width - 1) - 1 := by cases hf <;> first | assumption | omega
  have e : f.most = f.top := by unfold Fm.most; rw [if_neg (by rw [k]; decide)]
  rw [e, ht] at hl
  have h0 : key ≠ 0 := by rcases hp with q | q; exact q; rw [k] at q; cases q
  have hk : key < 2 ^ (f.width + more - 2 + 1) := by
    rcases (show more = 0 ∨ more = 1 by omega) with rfl | rfl
    · rw [show f.width + 0 - 2 + 1 = f.width - 1 by omega]
      have := Nat.two_pow_pos (f.width - 1)
      omega
    · rw [show f.width + 1 - 2 + 1 = (f.width - 1) + 1 by omega, Nat.pow_succ]
      have := Nat.two_pow_pos (f.width - 1)
      omega
  have Pv := Lib.hid fun (W : World) (hE : Env W) => pVal_any (f.width + more - 2) key (f.width + mo) W (by omega) (by omega) (by omega) h0 hk hE.bt hE.bt.lt
  have eM : pM (f.width + more - 2) key / 2 ^ tz (pM (f.width + more - 2) key) = oM f more key := by unfold oM numM; rw [if_pos k]
  have eE : pE (f.width + more - 2) key + tz (pM (f.width + more - 2) key) = oE f more key := by unfold oE numE numM; rw [if_pos k, if_pos k]
  rw [eM, eE] at Pv
  have hb0 : Below w.heap.size w (w.alloc (.cells f.cells 55)) := (Below.refl _ _).alloc (Nat.le_refl _) _
  have HB := Lib.hid hb0
  have HE := Lib.hid (hE.below hb0)
  have HK := Lib.hid (Blk.new w 55 f.cells)
  obtain ⟨M, hM⟩ : ∃ M, M = oM f more key := ⟨_, rfl⟩
  obtain ⟨E, hEE⟩ : ∃ E, E = oE f more key := ⟨_, rfl⟩
  rw [← hM, ← hEE] at Pv ⊢
  have s1 : IntKind.i64.wrap ((f.width : Int) + mo) = (f.width : Int) + mo := by rw [IntKind.wrap_i64]; omega
  clear hM hEE eM eE hl ht e h0 hk hp hm hmo hE hb0 h
  obtain ⟨a0, a1, a2, a3, a4, a5, a6⟩ := f
  simp only [Fm.cells] at Pv HB HK HE s1 w1 w2
  show Calls Tryz.prog 180 #[.agg #[.int .i64 a0, .int .i64 a1, .int .i64 a2, .int .i64 a3, U a4, U a5, U a6], .int .i64 mo, U key] w fun r w' => r = .returned (.tuple #[U M, .int .i64 E]) ∧ Below w.heap.size w w'
  clear k
  go_enter Tryz.func180, Tryz.ntmps180
  go_wp2_with fail
  ((with_reducible refine (Pv.out _ HE.out).mono ?_); rintro r w1 ⟨rfl, g1⟩)
  go_wp2_with fail
  go_ret2
  exact ⟨rfl, HB.out.trans (g1.mono HB.out.size)⟩

set_option maxHeartbeats 1600000 in
set_option maxRecDepth 100000 in
theorem num2_any (f : Fm) (more key : Nat) (mo : Int) (w : World) (hf : FmIs f) (h : KeyOk f more key) (k : f.kind = 2) (hmo : mo = more) (hE : Env w) :
    Calls Tryz.prog 182 #[f.v, .int .i64 mo, U key] w fun r w' => r = .returned (.tuple #[U (oM f more key), .int .i64 (oE f more key)]) ∧ Below w.heap.size w w' := by
  have hm := h.more1
  have hp := h.pos
  have hl := h.le
  have h64 := h.lt64 hf
  have h64' : key < 18446744073709551616 := by omega
  obtain ⟨hman, hb1, hb2, he⟩ : f.man ≤ 52 ∧ 0 ≤ f.bias ∧ f.bias ≤ 1023 ∧ f.top / 2 ^ f.man ≤ 2046 := by cases hf <;> first | (refine ⟨?_, ?_, ?_, ?_⟩ <;> assumption) | omega
  have e : f.most = f.top := by unfold Fm.most; rw [if_neg (by rw [k]; decide)]
  rw [e] at hl
  have h0 : key ≠ 0 := by rcases hp with q | q; exact q; rw [k] at q; cases q
  have hk : key / 2 ^ (f.man + more) ≤ 4095 := by
    refine Nat.le_trans ?_ (Nat.le_trans he (by omega))
    rcases (show more = 0 ∨ more = 1 by omega) with rfl | rfl
    · exact Nat.div_le_div_right (by omega)
    · have h1 : key / 2 ^ (f.man + 1) ≤ (2 * f.top + 1) / 2 ^ (f.man + 1) := Nat.div_le_div_right (by omega)
      rw [Nat.pow_succ, Nat.mul_comm (2 ^ f.man) 2, ← Nat.div_div_eq_div_mul (2 * f.top + 1), show (2 * f.top + 1) / 2 = f.top by omega] at h1
      rw [Nat.pow_succ, Nat.mul_comm (2 ^ f.man) 2]
      exact h1
  have hmm : ((f.man + more : Nat) : Int) = (f.man : Int) + mo := by omega
  have Pv := Lib.hid fun (W : World) (hE : Env W) => mval_any (f.man + more) f.bias key W (by omega) h64' hk (by omega) (by omega) h0 hE.bt
  rw [hmm] at Pv
  have eM : mmS (f.man + more) key / 2 ^ tz (mmS (f.man + more) key) = oM f more key := by unfold oM numM; rw [if_neg (by rw [k]; decide), if_pos k]
  have eE : meS (f.man + more) f.bias key + tz (mmS (f.man + more) key) = oE f more key := by unfold oE numE numM; rw [if_neg (by rw [k]; decide), if_pos k, if_neg (by rw [k]; decide), if_pos k]
  rw [eM, eE] at Pv
  have hb0 : Below w.heap.size w (w.alloc (.cells f.cells 55)) := (Below.refl _ _).alloc (Nat.le_refl _) _
  have HB := Lib.hid hb0
  have HE := Lib.hid (hE.below hb0)
  obtain ⟨M, hM⟩ : ∃ M, M = oM f more key := ⟨_, rfl⟩
  obtain ⟨E, hEE⟩ : ∃ E, E = oE f more key := ⟨_, rfl⟩
  rw [← hM, ← hEE] at Pv ⊢
  have s1 : IntKind.i64.wrap ((f.man : Int) + mo) = (f.man : Int) + mo := by rw [IntKind.wrap_i64]; omega
  clear hM hEE eM eE hl e h0 hk hp hm hmo hE hb0 h he h64 hmm
  obtain ⟨a0, a1, a2, a3, a4, a5, a6⟩ := f
  simp only [Fm.cells] at Pv HB HE s1 hman hb1 hb2
  show Calls Tryz.prog 182 #[.agg #[.int .i64 a0, .int .i64 a1, .int .i64 a2, .int .i64 a3, U a4, U a5, U a6], .int .i64 mo, U key] w fun r w' => r = .returned (.tuple #[U M, .int .i64 E]) ∧ Below w.heap.size w w'
  clear k
  go_enter Tryz.func182, Tryz.ntmps182
  go_wp2_with fail
  ((with_reducible refine (Pv.out _ HE.out).mono ?_); rintro r w1 ⟨rfl, n1, rfl⟩)
  go_wp2_with fail
  go_ret2
  exact ⟨rfl, below_drewN HB.out _⟩

set_option maxHeartbeats 1600000 in
set_option maxRecDepth 100000 in
/-- value.odd of what is not 0. -/
theorem vodd_any (m : Nat) (e : Int) (w : World) (hm : m < 18446744073709551616) (h0 : m ≠ 0) (e1 : -5000 ≤ e) (e2 : e ≤ 5000) (hT : BTab w) :
    Calls Tryz.prog 185 #[U m, .int .i64 e] w fun r w' => r = .returned (.tuple #[U (m / 2 ^ tz m), .int .i64 (e + tz m)]) ∧ w = w' := by
  have Tz := Lib.hid (tz_any m w hm hT)
  have htl := tz_le m hm
  have t0 : ((m : Int) == 0) = false := by rw [beq_eq_false_iff_ne]; omega
  obtain ⟨T, hTT⟩ : ∃ T, T = tz m := ⟨_, rfl⟩
  rw [← hTT] at Tz htl ⊢
  have eq1 : (m : Int) / 2 ^ T = ((m / 2 ^ T : Nat) : Int) := by simp
  obtain ⟨Y, hY⟩ : ∃ Y, Y = m / 2 ^ T := ⟨_, rfl⟩
  rw [← hY] at eq1 ⊢
  clear hTT hY hT h0
  go_enter Tryz.func185, Tryz.ntmps185
  go_wp2_with (go_at_call 141; (with_reducible refine (Tz.out).mono ?_); rintro r w' ⟨rfl, rfl⟩)
  go_ret2
  exact ⟨rfl, rfl⟩

set_option maxHeartbeats 1600000 in
set_option maxRecDepth 100000 in
theorem num3_any (f : Fm) (more key : Nat) (mo : Int) (w : World) (hf : FmIs f) (h : KeyOk f more key) (k : f.kind = 3) (hmo : mo = more) (hE : Env w) :
    Calls Tryz.prog 184 #[f.v, .int .i64 mo, U key] w fun r w' => r = .returned (.tuple #[U (oM f more key), .int .i64 (oE f more key)]) ∧ Below w.heap.size w w' := by
  have hm := h.more1
  have hp := h.pos
  have h64 := h.lt64 hf
  have h64' : key < 18446744073709551616 := by omega
  have hman : f.man = 6 := by cases hf <;> first | assumption | omega
  have h0 : key ≠ 0 := by rcases hp with q | q; exact q; rw [k] at q; cases q
  have Pv := Lib.hid fun (W : World) (hE : Env W) => vodd_any key (-(f.man : Int) - mo) W h64' h0 (by omega) (by omega) hE.bt
  have eM : key / 2 ^ tz key = oM f more key := by unfold oM numM; rw [if_neg (by rw [k]; decide), if_neg (by rw [k]; decide), if_pos k]
  have eE : -(f.man : Int) - mo + tz key = oE f more key := by unfold oE numE numM; rw [if_neg (by rw [k]; decide), if_neg (by rw [k]; decide), if_pos k, if_neg (by rw [k]; decide), if_neg (by rw [k]; decide), if_pos k, hmo]
  rw [eM, eE] at Pv
  have hb0 : Below w.heap.size w (w.alloc (.cells f.cells 55)) := (Below.refl _ _).alloc (Nat.le_refl _) _
  have HB := Lib.hid hb0
  have HE := Lib.hid (hE.below hb0)
  obtain ⟨M, hM⟩ : ∃ M, M = oM f more key := ⟨_, rfl⟩
  obtain ⟨E, hEE⟩ : ∃ E, E = oE f more key := ⟨_, rfl⟩
  rw [← hM, ← hEE] at Pv ⊢
  have s1 : IntKind.i64.wrap (-(f.man : Int)) = -(f.man : Int) := by rw [IntKind.wrap_i64]; omega
  have s2 : IntKind.i64.wrap (-(f.man : Int) - mo) = -(f.man : Int) - mo := by rw [IntKind.wrap_i64]; omega
  clear hM hEE eM eE h0 hp hm hmo hE hb0 h h64 hman
  obtain ⟨a0, a1, a2, a3, a4, a5, a6⟩ := f
  simp only [Fm.cells] at Pv HB HE s1 s2
  show Calls Tryz.prog 184 #[.agg #[.int .i64 a0, .int .i64 a1, .int .i64 a2, .int .i64 a3, U a4, U a5, U a6], .int .i64 mo, U key] w fun r w' => r = .returned (.tuple #[U M, .int .i64 E]) ∧ Below w.heap.size w w'
  clear k
  go_enter Tryz.func184, Tryz.ntmps184
  go_wp2_with fail
  ((with_reducible refine (Pv.out _ HE.out).mono ?_); rintro r w1 ⟨rfl, rfl⟩)
  go_wp2_with fail
  go_ret2
  exact ⟨rfl, HB.out⟩

theorem tz_one : tz 1 = 0 := by decide
theorem tz_three : tz 3 = 0 := by decide
set_option maxHeartbeats 1600000 in
set_option maxRecDepth 100000 in
theorem num4_any (f : Fm) (more key : Nat) (mo : Int) (w : World) (hf : FmIs f) (h : KeyOk f more key) (k : f.kind = 4) (hmo : mo = more) :
    Calls Tryz.prog 186 #[f.v, .int .i64 mo, U key] w fun r w' => r = .returned (.tuple #[U (oM f more key), .int .i64 (oE f more key)]) ∧ Below w.heap.size w w' := by
  have hm := h.more1
  have hl := h.le
  obtain ⟨ht, hbias⟩ : f.top = 254 ∧ f.bias = 127 := by cases hf <;> first | (refine ⟨?_, ?_⟩ <;> assumption) | omega
  have e : f.most = f.top := by unfold Fm.most; rw [if_neg (by rw [k]; decide)]
  rw [e, ht] at hl
  have eM : oM f more key = 1 + 2 * more := by
    unfold oM numM
    rw [if_neg (by rw [k]; decide), if_neg (by rw [k]; decide), if_neg (by rw [k]; decide)]
    rcases (show more = 0 ∨ more = 1 by omega) with rfl | rfl
    · rw [show 1 + 2 * 0 = 1 from rfl, tz_one]
    · rw [show 1 + 2 * 1 = 3 from rfl, tz_three]
  have eE : oE f more key = ((key / 2 ^ more : Nat) : Int) - 127 - more := by
    unfold oE numE numM
    rw [if_neg (by rw [k]; decide), if_neg (by rw [k]; decide), if_neg (by rw [k]; decide), if_neg (by rw [k]; decide), if_neg (by rw [k]; decide), if_neg (by rw [k]; decide), hbias]
    rcases (show more = 0 ∨ more = 1 by omega) with rfl | rfl
    · rw [show 1 + 2 * 0 = 1 from rfl, tz_one]; omega
    · rw [show 1 + 2 * 1 = 3 from rfl, tz_three]; omega
  have hdl : key / 2 ^ more ≤ 600 := Nat.le_trans (Nat.div_le_self _ _) (by have : (1 + more) * 254 ≤ 2 * 254 := Nat.mul_le_mul_right _ (by omega); omega)
  have e1 : (key : Int) / 2 ^ more = ((key / 2 ^ more : Nat) : Int) := by simp
  rw [eM, eE]
  obtain ⟨d, hd⟩ : ∃ d, d = key / 2 ^ more := ⟨_, rfl⟩
  rw [← hd] at hdl e1 ⊢
  have HB := Lib.hid (show Below w.heap.size w (w.alloc (.cells f.cells 55)) from (Below.refl _ _).alloc (Nat.le_refl _) _)
  have HK := Lib.hid (Blk.new w 55 f.cells)
  clear eM eE hd e hl ht h hf
  obtain ⟨a0, a1, a2, a3, a4, a5, a6⟩ := f
  simp only [Fm.cells] at HB HK hbias
  subst hbias
  show Calls Tryz.prog 186 #[.agg #[.int .i64 a0, .int .i64 a1, .int .i64 a2, .int .i64 127, U a4, U a5, U a6], .int .i64 mo, U key] w fun r w' => r = .returned (.tuple #[U (1 + 2 * more), .int .i64 ((d : Int) - 127 - more)]) ∧ Below w.heap.size w w'
  clear k
  rcases (show more = 0 ∨ more = 1 by omega) with rfl | rfl
  · obtain rfl : mo = 0 := by omega
    clear hmo hm
    obtain rfl : d = key := by have : (key : Int) = d := by simpa using e1
                               omega
    clear e1
    go_enter Tryz.func186, Tryz.ntmps186
    go_wp2_with fail
    obtain ⟨wx, hwx⟩ : ∃ wx, wx = w.alloc (.cells #[.int .i64 a0, .int .i64 a1, .int .i64 a2, .int .i64 127, U a4, U a5, U a6] 55) := ⟨_, rfl⟩
    rw [← hwx] at HB HK ⊢
    clear hwx
    have k3 : wx.cell? ⟨w.heap.size, 3, none⟩ = some (.int .i64 127) := Blk.cell HK.out 3
    have c1 : IntKind.i64.wrap (d : Int) = d := by rw [IntKind.wrap_i64]; omega
    have c2 : IntKind.i64.wrap ((d : Int) - 127) = (d : Int) - 127 := by rw [IntKind.wrap_i64]; omega
    have c3 : IntKind.i64.wrap ((d : Int) - 127 - 1) = (d : Int) - 127 - 1 := by rw [IntKind.wrap_i64]; omega
    have c4 : IntKind.u64.wrap 1 = 1 := rfl
    have c5 : IntKind.u64.wrap 3 = 3 := rfl
    have c6 : IntKind.i64.wrap 0 = 0 := rfl
    have c7 : IntKind.i64.wrap 1 = 1 := rfl
    have c8 : IntKind.i64.wrap 2 = 2 := rfl
    have c9 : IntKind.i64.wrap 3 = 3 := rfl
    go_quiet (fail)
    go_wp2_with fail
    go_ret2
    exact ⟨ret_two_ui (a := 1) (b := 1 + 2 * 0) (x := (d : Int) - 127) rfl (by omega), below_drewN HB.out _⟩
  · obtain rfl : mo = 1 := by omega
    clear hmo hm
    have e2 : (key : Int) / 2 = d := by simpa using e1
    clear e1
    go_enter Tryz.func186, Tryz.ntmps186
    go_wp2_with fail
    obtain ⟨wx, hwx⟩ : ∃ wx, wx = w.alloc (.cells #[.int .i64 a0, .int .i64 a1, .int .i64 a2, .int .i64 127, U a4, U a5, U a6] 55) := ⟨_, rfl⟩
    rw [← hwx] at HB HK ⊢
    clear hwx
    have k3 : wx.cell? ⟨w.heap.size, 3, none⟩ = some (.int .i64 127) := Blk.cell HK.out 3
    have c1 : IntKind.i64.wrap (d : Int) = d := by rw [IntKind.wrap_i64]; omega
    have c2 : IntKind.i64.wrap ((d : Int) - 127) = (d : Int) - 127 := by rw [IntKind.wrap_i64]; omega
    have c3 : IntKind.i64.wrap ((d : Int) - 127 - 1) = (d : Int) - 127 - 1 := by rw [IntKind.wrap_i64]; omega
    have c4 : IntKind.u64.wrap 1 = 1 := rfl
    have c5 : IntKind.u64.wrap 3 = 3 := rfl
    have c6 : IntKind.i64.wrap 0 = 0 := rfl
    have c7 : IntKind.i64.wrap 1 = 1 := rfl
    have c8 : IntKind.i64.wrap 2 = 2 := rfl
    have c9 : IntKind.i64.wrap 3 = 3 := rfl
    go_quiet (fail)
    go_wp2_with fail
    go_ret2
    exact ⟨ret_two_ui (a := 3) (b := 1 + 2 * 1) (x := (d : Int) - 127 - 1) rfl (by omega), below_drewN HB.out _⟩
end Go.Proofs.YtnlpkehllihllaaGreatDoor

/-
  The walks of value.of, Most, Pattern, fits, Between.
-/
namespace Go.Proofs.YtnlpkehllihllaaGreatDoor
open Go.RowKit Go.Sort

theorem vof_any (n : Nat) (w : World) (h1 : 1 ≤ n) (h2 : n < 15) (hE : Env w) :
    Calls Tryz.prog 25 #[.int .i64 n] w fun r w' => r = .returned (.tuple #[(formAt n).s, .int .i64 0]) ∧ Below w.heap.size w w' :=
  vof_of (formAt n) n 0 w hE (by have := kind_bd (form_is h1 h2); omega) (by have := kind_bd (form_is h1 h2); omega) fun W hW => fof_any n W h1 h2 hW.ft hW.ft.lt
theorem vof_none (n : Int) (w : World) (h : n < 1 ∨ 15 ≤ n) (hE : Env w) :
    Calls Tryz.prog 25 #[.int .i64 n] w fun r w' => r = .returned (.tuple #[(formAt 0).s, .int .i64 3]) ∧ Below w.heap.size w w' :=
  vof_of (formAt 0) n 3 w hE (by decide) (by decide) fun W _ => fof_none n W h

theorem num_any (f : Fm) (more key : Nat) (mo : Int) (w : World) (hf : FmIs f) (h : KeyOk f more key) (hmo : mo = more) (hE : Env w) :
    Calls Tryz.prog (numFn f.kind) #[f.v, .int .i64 mo, U key] w fun r w' => r = .returned (.tuple #[U (oM f more key), .int .i64 (oE f more key)]) ∧ Below w.heap.size w w' := by
  have hk : f.kind = 1 ∨ f.kind = 2 ∨ f.kind = 3 ∨ f.kind = 4 := by have := kind_bd hf; omega
  rcases hk with k | k | k | k
  · have e : numFn f.kind = 180 := by rw [k]; rfl
    rw [e]; exact num1_any f more key mo w hf h k hmo hE
  · have e : numFn f.kind = 182 := by rw [k]; rfl
    rw [e]; exact num2_any f more key mo w hf h k hmo hE
  · have e : numFn f.kind = 184 := by rw [k]; rfl
    rw [e]; exact num3_any f more key mo w hf h k hmo hE
  · have e : numFn f.kind = 186 := by rw [k]; rfl
    rw [e]; exact num4_any f more key mo w hf h k hmo
theorem enter1 (args : Array Value) (w : World) : (callFunc 180 args).run Tryz.prog w = .ok (.enter 180 args) w := by kernel_rfl
theorem enter2 (args : Array Value) (w : World) : (callFunc 182 args).run Tryz.prog w = .ok (.enter 182 args) w := by kernel_rfl
theorem enter3 (args : Array Value) (w : World) : (callFunc 184 args).run Tryz.prog w = .ok (.enter 184 args) w := by kernel_rfl
theorem enter4 (args : Array Value) (w : World) : (callFunc 186 args).run Tryz.prog w = .ok (.enter 186 args) w := by kernel_rfl
theorem num_enter {f : Fm} (hf : FmIs f) (args : Array Value) (w : World) : (callFunc (numFn f.kind) args).run Tryz.prog w = .ok (.enter (numFn f.kind) args) w := by
  have hk : f.kind = 1 ∨ f.kind = 2 ∨ f.kind = 3 ∨ f.kind = 4 := by have := kind_bd hf; omega
  rcases hk with k | k | k | k
  · rw [k]; exact enter1 args w
  · rw [k]; exact enter2 args w
  · rw [k]; exact enter3 args w
  · rw [k]; exact enter4 args w

theorem rest8 {w2 : World} {b : Nat} {t : TypeId} {x0 x1 x2 x3 x4 x5 x6 x7 : Value} (hk : Blk w2 b t #[x0, x1, x2, x3, x4, x5, x6, x7]) :
    w2.cell? ⟨b, 0, none⟩ = some x0 ∧ w2.cell? ⟨b, 1, none⟩ = some x1 ∧ w2.cell? ⟨b, 2, none⟩ = some x2 ∧ w2.cell? ⟨b, 3, none⟩ = some x3 ∧ w2.cell? ⟨b, 4, none⟩ = some x4 ∧ w2.cell? ⟨b, 5, none⟩ = some x5 ∧ w2.cell? ⟨b, 6, none⟩ = some x6 ∧ w2.cell? ⟨b, 7, none⟩ = some x7 :=
  ⟨Blk.cell hk 0, Blk.cell hk 1, Blk.cell hk 2, Blk.cell hk 3, Blk.cell hk 4, Blk.cell hk 5, Blk.cell hk 6, Blk.cell hk 7⟩

/-- The greatest magnitude of a sign. -/
def mostN (f : Fm) (neg : Bool) : Nat := if neg = true ∧ f.kind = 3 then f.top + 1 else f.top
theorem mostN_le {f : Fm} (neg : Bool) : mostN f neg ≤ f.most := by
  unfold mostN Fm.most
  split
  · next q => rw [if_pos q.2]; omega
  · split <;> omega
theorem mostN_ge {f : Fm} (hf : FmIs f) (neg : Bool) : 3 ≤ mostN f neg := by
  have h : 3 ≤ f.top := by
    have := (most_lt hf).2
    unfold Fm.most at this
    cases hf with
    | turned h w m t n i => omega
    | _ => rw [if_neg (by omega)] at this; exact this
  unfold mostN
  split <;> omega
theorem ret_u0 {x y : Nat} (h : x = y) : Ending.returned (.tuple #[U x, .int .i64 0]) = .returned (.tuple #[U y, .int .i64 0]) := by rw [h]

set_option maxHeartbeats 1600000 in
set_option maxRecDepth 100000 in
/-- value.Most. -/
theorem most_any (n : Nat) (neg : Bool) (w : World) (h1 : 1 ≤ n) (h2 : n < 15) (hn : neg = true → (formAt n).kind ≠ 4) (hE : Env w) :
    Calls Tryz.prog 8 #[.int .i64 n, .bool neg] w fun r w' => r = .returned (.tuple #[U (mostN (formAt n) neg), .int .i64 0]) ∧ Below w.heap.size w w' := by
  have hf := form_is h1 h2
  have hm := most_lt hf
  have Vo := Lib.hid (vof_any n w h1 h2 hE)
  rw [s_sv hf] at Vo
  have HM := Lib.hid (show mostN (formAt n) neg = if neg = true ∧ (formAt n).kind = 3 then (formAt n).top + 1 else (formAt n).top from rfl)
  obtain ⟨M, hM⟩ : ∃ M, M = mostN (formAt n) neg := ⟨_, rfl⟩
  rw [← hM] at HM ⊢
  have htop : (formAt n).top < 9223372036854775808 := by
    have h3 : (formAt n).top ≤ (formAt n).most := by unfold Fm.most; split <;> omega
    omega
  clear hM hm hE
  obtain ⟨f, hff⟩ : ∃ f, f = formAt n := ⟨_, rfl⟩
  rw [← hff] at Vo HM htop hn hf
  clear hff
  obtain ⟨F, hF⟩ : ∃ F, F = numFn f.kind := ⟨_, rfl⟩
  rw [← hF] at Vo
  clear hF
  obtain ⟨a0, a1, a2, a3, a4, a5, a6⟩ := f
  simp only [Fm.sv] at Vo HM htop hn
  have wr : IntKind.u64.wrap ((a4 : Int) + 1) = ((a4 + 1 : Nat) : Int) := by rw [IntKind.wrap_u64]; omega
  have HW := Lib.hid wr
  clear hf wr
  have cells : ∀ (w1 : World), Below w.heap.size w w1 → ∃ wa, wa = w1.alloc (.cells #[.int .i64 a0, .int .i64 a1, .int .i64 a2, .int .i64 a3, U a4, U a5, U a6, .func (.func F) #[] #[]] 61) ∧ wa.cell? ⟨w1.heap.size, 0, none⟩ = some (.int .i64 a0) ∧ wa.cell? ⟨w1.heap.size, 4, none⟩ = some (U a4) ∧ Below w.heap.size w wa := fun w1 g =>
    ⟨_, rfl, Blk.cell (Blk.new w1 _ _) 0, Blk.cell (Blk.new w1 _ _) 4, g.trans (((Below.refl _ _).alloc (Nat.le_refl _) _).mono g.size)⟩
  have HC := Lib.hid cells
  clear cells
  cases neg
  · have hMM : M = a4 := by rw [HM.out, if_neg (by simp)]
    have H2 := Lib.hid hMM
    clear hMM hn
    go_enter Tryz.func8, Tryz.ntmps8
    go_wp2_with fail
    ((with_reducible refine (Vo.out).mono ?_); rintro r w1 ⟨rfl, g1⟩)
    obtain ⟨wa, hwa, k0, k4, B1⟩ := HC.out w1 g1
    have B1 := Lib.hid B1
    go_upto_region 2 with (fail)
    rw [← hwa]
    clear hwa g1
    go_wp2_with fail
    go_ret2
    exact ⟨ret_u0 H2.out.symm, B1.out⟩
  · have h4 : a0 ≠ 4 := hn rfl
    have t4 : (a0 == 4) = false := by simpa using h4
    clear hn h4
    by_cases h3 : a0 = 3
    · have t3 : (a0 == 3) = true := by simpa using h3
      have hMM : M = a4 + 1 := by rw [HM.out, if_pos ⟨rfl, h3⟩]
      have H2 := Lib.hid hMM
      clear hMM h3
      have wr := HW.out
      go_enter Tryz.func8, Tryz.ntmps8
      go_wp2_with fail
      ((with_reducible refine (Vo.out).mono ?_); rintro r w1 ⟨rfl, g1⟩)
      obtain ⟨wa, hwa, k0, k4, B1⟩ := HC.out w1 g1
      have B1 := Lib.hid B1
      go_upto_region 2 with (fail)
      rw [← hwa]
      clear hwa g1
      go_wp2_with fail
      go_ret2
      exact ⟨ret_u0 H2.out.symm, B1.out⟩
    · have t3 : (a0 == 3) = false := by simpa using h3
      have hMM : M = a4 := by rw [HM.out, if_neg (fun q => h3 q.2)]
      have H2 := Lib.hid hMM
      clear hMM h3
      go_enter Tryz.func8, Tryz.ntmps8
      go_wp2_with fail
      ((with_reducible refine (Vo.out).mono ?_); rintro r w1 ⟨rfl, g1⟩)
      obtain ⟨wa, hwa, k0, k4, B1⟩ := HC.out w1 g1
      have B1 := Lib.hid B1
      go_upto_region 2 with (fail)
      rw [← hwa]
      clear hwa g1
      go_wp2_with fail
      go_ret2
      exact ⟨ret_u0 H2.out.symm, B1.out⟩
end Go.Proofs.YtnlpkehllihllaaGreatDoor

/-
  The walks of value.Pattern, fits, Between.
-/
namespace Go.Proofs.YtnlpkehllihllaaGreatDoor
open Go.RowKit Go.Sort

/-- The pattern of a sign and a magnitude. -/
def patN (f : Fm) (neg : Bool) (key : Nat) : Nat := if neg = false then key else if f.kind = 2 then key + 2 ^ (f.width - 1) else (2 ^ f.width - key) % 2 ^ f.width

theorem mostN_lt {f : Fm} (hf : FmIs f) (neg : Bool) (hn : neg = true → f.kind ≠ 4) : neg = true → (f.kind = 2 → mostN f neg < 2 ^ (f.width - 1)) ∧ mostN f neg ≤ 2 ^ f.width := by
  intro h
  have h4 := hn h
  obtain ⟨w1, w2⟩ := width_bd hf
  have hp : 2 ^ (f.width - 1) ≤ 2 ^ f.width := Nat.pow_le_pow_right (by omega) (by omega)
  have hp2 := Nat.two_pow_pos (f.width - 1)
  cases hf with
  | posit k w1 w2 t n i =>
    have e : mostN f neg = f.top := by unfold mostN; rw [if_neg (by rintro ⟨_, q⟩; omega)]
    rw [e, t]; omega
  | signed k w1 w2 m b1 b2 t e t3 e2 =>
    have e : mostN f neg = f.top := by unfold mostN; rw [if_neg (by rintro ⟨_, q⟩; omega)]
    rw [e]; omega
  | turned k w m t n i =>
    have e : mostN f neg = f.top + 1 := by unfold mostN; rw [if_pos ⟨h, k⟩]
    rw [e, t, w]; omega
  | scale k w b t n i => omega

theorem alloc8 {w : World} (a0 : Int) (a1 a2 : Nat) (a3 : Int) (a4 a5 a6 F : Nat) (w1 : World) (g : Below w.heap.size w w1) :
    ∃ wa, wa = w1.alloc (.cells #[.int .i64 a0, .int .i64 a1, .int .i64 a2, .int .i64 a3, U a4, U a5, U a6, .func (.func F) #[] #[]] 61) ∧ Blk wa w1.heap.size 61 #[.int .i64 a0, .int .i64 a1, .int .i64 a2, .int .i64 a3, U a4, U a5, U a6, .func (.func F) #[] #[]] ∧ Below w.heap.size w wa ∧ Below w1.heap.size w1 wa :=
  ⟨_, rfl, Blk.new w1 _ _, g.trans (((Below.refl _ _).alloc (Nat.le_refl _) _).mono g.size), (Below.refl _ _).alloc (Nat.le_refl _) _⟩

set_option maxHeartbeats 3200000 in
set_option maxRecDepth 100000 in
/-- value.Pattern. -/
theorem pattern_any (n : Nat) (neg : Bool) (key : Nat) (w : World) (h1 : 1 ≤ n) (h2 : n < 15) (hn : neg = true → (formAt n).kind ≠ 4) (hk : key ≤ mostN (formAt n) neg) (hE : Env w) :
    Calls Tryz.prog 71 #[.int .i64 n, .bool neg, U key] w fun r w' => r = .returned (.tuple #[U (patN (formAt n) neg key), .int .i64 0]) ∧ Below w.heap.size w w' := by
  have hf := form_is h1 h2
  have hl := mostN_lt hf neg hn
  obtain ⟨wd1, wd2⟩ := width_bd hf
  have Mo := Lib.hid (most_any n neg w h1 h2 hn hE)
  have Vo := Lib.hid fun (W : World) (hW : Env W) => vof_any n W h1 h2 hW
  rw [s_sv hf] at Vo
  have HP := Lib.hid (show patN (formAt n) neg key = if neg = false then key else if (formAt n).kind = 2 then key + 2 ^ ((formAt n).width - 1) else (2 ^ (formAt n).width - key) % 2 ^ (formAt n).width from rfl)
  obtain ⟨P, hP⟩ : ∃ P, P = patN (formAt n) neg key := ⟨_, rfl⟩
  rw [← hP] at HP ⊢
  obtain ⟨M, hM⟩ : ∃ M, M = mostN (formAt n) neg := ⟨_, rfl⟩
  have hM64 : M < 18446744073709551616 := by
    have := mostN_le (f := formAt n) neg
    have := (most_lt hf).1
    omega
  rw [← hM] at Mo hk hl
  have Sg := Lib.hid fun W => sign_any (formAt n) W (by omega) wd2
  have Mk := Lib.hid fun W => mask_any (formAt n) W wd2
  have tk : decide (M < key) = false := by simpa using hk
  have HE := Lib.hid hE
  have hs : (formAt n).sign = if (formAt n).kind = 4 then 0 else 2 ^ ((formAt n).width - 1) := rfl
  clear hP hM hE
  obtain ⟨f, hff⟩ : ∃ f, f = formAt n := ⟨_, rfl⟩
  rw [← hff] at Vo HP hn hf Sg Mk hs hl wd1 wd2
  clear hff
  obtain ⟨F, hF⟩ : ∃ F, F = numFn f.kind := ⟨_, rfl⟩
  rw [← hF] at Vo
  clear hF
  cases neg
  · have hPP : P = key := by rw [HP.out, if_pos rfl]
    have H2 := Lib.hid hPP
    clear hPP hn hs hl hk HP
    obtain ⟨a0, a1, a2, a3, a4, a5, a6⟩ := f
    simp only [Fm.sv] at Vo
    clear hf
    go_enter Tryz.func71, Tryz.ntmps71
    go_wp2_with fail
    ((with_reducible refine (Mo.out).mono ?_); rintro r w1 ⟨rfl, g1⟩)
    have E1 := Lib.hid (HE.out.below g1)
    go_wp2_with fail
    ((with_reducible refine (Vo.out _ E1.out).mono ?_); rintro r w2 ⟨rfl, g2⟩)
    have G2 := Lib.hid (g1.trans (g2.mono g1.size))
    obtain ⟨wa, hwa, hka, B1, b2⟩ := alloc8 (w := w) a0 a1 a2 a3 a4 a5 a6 F w2 G2.out
    have B1 := Lib.hid B1
    obtain ⟨k0, k1, k2, k3, k4, k5, k6, k7⟩ := rest8 hka
    clear g1 g2 b2 hka
    go_wp2_with fail
    go_ret2
    exact ⟨ret_u0 H2.out.symm, by rw [← hwa]; exact B1.out⟩
  · have h4 : f.kind ≠ 4 := hn rfl
    rw [if_neg h4] at hs
    obtain ⟨q1, q2⟩ := hl rfl
    by_cases hk2 : f.kind = 2
    · have hlt := Nat.lt_of_le_of_lt hk (q1 hk2)
      have hon := top_on hlt (by omega)
      rw [← hs] at hon
      have hPP : P = key + f.sign := by rw [HP.out, if_neg (by simp), if_pos hk2, hs]
      obtain ⟨sg, hsg⟩ : ∃ sg, sg = f.sign := ⟨_, rfl⟩
      rw [← hsg] at hon Sg hPP
      rw [← hPP] at hon
      have t2 : (f.kind == 2) = true := by simpa using hk2
      clear hsg hs hn h4 hPP HP hk hlt q1 q2 hl hk2 hf
      obtain ⟨a0, a1, a2, a3, a4, a5, a6⟩ := f
      simp only [Fm.sv] at Vo t2
      go_enter Tryz.func71, Tryz.ntmps71
      go_wp2_with fail
      ((with_reducible refine (Mo.out).mono ?_); rintro r w1 ⟨rfl, g1⟩)
      have E1 := Lib.hid (HE.out.below g1)
      go_wp2_with fail
      ((with_reducible refine (Vo.out _ E1.out).mono ?_); rintro r w2 ⟨rfl, g2⟩)
      have G2 := Lib.hid (g1.trans (g2.mono g1.size))
      obtain ⟨wa, hwa, hka, B1, b2⟩ := alloc8 (w := w) a0 a1 a2 a3 a4 a5 a6 F w2 G2.out
      have B1 := Lib.hid B1
      obtain ⟨k0, k1, k2, k3, k4, k5, k6, k7⟩ := rest8 hka
      clear g1 g2 b2 hka
      go_upto_region 7 with (fail)
      rw [← hwa]
      clear hwa
      go_wp2_with fail
      ((with_reducible refine (Sg.out _).mono ?_); rintro r w3 ⟨rfl, g3⟩)
      go_wp2_with fail
      go_ret2
      exact ⟨rfl, B1.out.trans (g3.mono B1.out.size)⟩
    · have htw := turn_word (n := f.width) (Nat.le_trans hk q2) (by omega) (by omega)
      have hPP : P = (2 ^ f.width - key) % 2 ^ f.width := by rw [HP.out, if_neg (by simp), if_neg hk2]
      rw [← hPP] at htw
      obtain ⟨mk, hmk⟩ : ∃ mk, mk = 2 ^ f.width - 1 := ⟨_, rfl⟩
      rw [← hmk] at htw Mk
      have t2 : (f.kind == 2) = false := by simpa using hk2
      clear hmk hs hn h4 hPP HP hk q1 q2 hl hk2 hf
      obtain ⟨a0, a1, a2, a3, a4, a5, a6⟩ := f
      simp only [Fm.sv] at Vo t2
      go_enter Tryz.func71, Tryz.ntmps71
      go_wp2_with fail
      ((with_reducible refine (Mo.out).mono ?_); rintro r w1 ⟨rfl, g1⟩)
      have E1 := Lib.hid (HE.out.below g1)
      go_wp2_with fail
      ((with_reducible refine (Vo.out _ E1.out).mono ?_); rintro r w2 ⟨rfl, g2⟩)
      have G2 := Lib.hid (g1.trans (g2.mono g1.size))
      obtain ⟨wa, hwa, hka, B1, b2⟩ := alloc8 (w := w) a0 a1 a2 a3 a4 a5 a6 F w2 G2.out
      have B1 := Lib.hid B1
      obtain ⟨k0, k1, k2, k3, k4, k5, k6, k7⟩ := rest8 hka
      clear g1 g2 b2 hka
      go_upto_region 7 with (fail)
      rw [← hwa]
      clear hwa
      go_wp2_with fail
      ((with_reducible refine (Mk.out _).mono ?_); rintro r w3 ⟨rfl, g3⟩)
      go_wp2_with fail
      go_ret2
      exact ⟨rfl, B1.out.trans (g3.mono B1.out.size)⟩
end Go.Proofs.YtnlpkehllihllaaGreatDoor

/-
  The walks of value.fits, Between.
-/
namespace Go.Proofs.YtnlpkehllihllaaGreatDoor
open Go.RowKit Go.Sort

set_option maxHeartbeats 3200000 in
set_option maxRecDepth 100000 in
/-- value.fits of a magnitude that there is. -/
theorem vfits_any (n key : Nat) (w : World) (h1 : 1 ≤ n) (h2 : n < 15) (hk : key ≤ (formAt n).most) (hE : Env w) :
    Calls Tryz.prog 26 #[.int .i64 n, U key] w fun r w' => r = .returned (.tuple #[(formAt n).sv (numFn (formAt n).kind), .int .i64 0]) ∧ Below w.heap.size w w' := by
  have hf := form_is h1 h2
  have hm := (most_lt hf).1
  have hmo : (formAt n).most = if (formAt n).kind = 3 then (formAt n).top + 1 else (formAt n).top := rfl
  have hb0 : Below w.heap.size w (w.alloc (.cells #[.int .i64 0, .int .i64 0, .int .i64 0, .int .i64 0, .int .u64 0, .int .u64 0, .int .u64 0, .nilFunc] 61)) := (Below.refl _ _).alloc (Nat.le_refl _) _
  have HE := Lib.hid (hE.below hb0)
  have HB := Lib.hid hb0
  have HK := Lib.hid (Blk.new w 61 #[.int .i64 0, .int .i64 0, .int .i64 0, .int .i64 0, .int .u64 0, .int .u64 0, .int .u64 0, .nilFunc])
  have Vo := Lib.hid fun (W : World) (hW : Env W) => vof_any n W h1 h2 hW
  rw [s_sv hf] at Vo
  clear hE hb0
  obtain ⟨f, hff⟩ : ∃ f, f = formAt n := ⟨_, rfl⟩
  rw [← hff] at Vo hk hf hm hmo ⊢
  clear hff
  obtain ⟨F, hF⟩ : ∃ F, F = numFn f.kind := ⟨_, rfl⟩
  rw [← hF] at Vo ⊢
  clear hF hf
  obtain ⟨mo, hmo'⟩ : ∃ mo, mo = f.most := ⟨_, rfl⟩
  rw [← hmo'] at hk hm hmo
  clear hmo'
  obtain ⟨a0, a1, a2, a3, a4, a5, a6⟩ := f
  simp only at hmo
  simp only [Fm.sv] at Vo
  show Calls Tryz.prog 26 #[.int .i64 n, U key] w fun r w' => r = .returned (.tuple #[.agg #[.int .i64 a0, .int .i64 a1, .int .i64 a2, .int .i64 a3, U a4, U a5, U a6, .func (.func F) #[] #[]], .int .i64 0]) ∧ Below w.heap.size w w'
  have tk : decide (mo < key) = false := by simpa using hk
  clear hk
  by_cases h3 : a0 = 3
  all_goals
    first
    | (have t3 : (a0 == 3) = true := by simpa using h3
       have e4 : IntKind.u64.wrap ((a4 : Int) + 1) = (mo : Int) := by rw [if_pos h3] at hmo; rw [IntKind.wrap_u64]; omega
       have t3b := Lib.hid h3
       clear hmo h3)
    | (have t3 : (a0 == 3) = false := by simpa using h3
       have hmo2 : a4 = mo := by rw [if_neg h3] at hmo; exact hmo.symm
       have tk2 : decide (a4 < key) = false := by rw [hmo2]; exact tk
       clear hmo h3 hmo2)
    clear hm
    go_enter Tryz.func26, Tryz.ntmps26
    go_wp2_with fail
    ((with_reducible refine (Vo.out _ HE.out).mono ?_); rintro r w1 ⟨rfl, g1⟩)
    have hk1 : Blk w1 w.heap.size 61 #[.int .i64 0, .int .i64 0, .int .i64 0, .int .i64 0, .int .u64 0, .int .u64 0, .int .u64 0, .nilFunc] := Blk.below HK.out g1 HK.out.lt
    have G1 := Lib.hid (HB.out.trans (g1.mono HB.out.size))
    obtain ⟨wa, hwa, hka, B1, b2⟩ := alloc8 (w := w) a0 a1 a2 a3 a4 a5 a6 F w1 G1.out
    have hkr : Blk wa w.heap.size 61 #[.int .i64 0, .int .i64 0, .int .i64 0, .int .i64 0, .int .u64 0, .int .u64 0, .int .u64 0, .nilFunc] := Blk.below hk1 b2 hk1.lt
    have HKR := Lib.hid hkr
    have HBA := Lib.hid B1
    obtain ⟨k0, k1, k2, k3, k4, k5, k6, k7⟩ := rest8 hka
    obtain ⟨j0, j1, j2, j3, j4, j5, j6, j7⟩ := rest8 hkr
    have q0 : ∀ o, wa.frozen? ⟨w.heap.size, o, none⟩ = false := fun o => Blk.frozen hkr o
    clear hka B1 b2 hkr hk1 g1
    go_upto_region 2 with (fail)
    rw [← hwa]
    clear hwa
    go_upto_region 9 with (fail)
    go_cut [5] from 31 to 31 (fun x wz => x = .int .i64 0 ∧ Hid (Blk wz w.heap.size 61 #[.int .i64 a0, .int .i64 a1, .int .i64 a2, .int .i64 a3, U a4, U a5, U a6, .func (.func F) #[] #[]] ∧ Below w.heap.size w wz))
    case first =>
      go_wp2_with fail
      obtain ⟨w4, hw4, hk4, hb4⟩ := stored8 HKR.out (Nat.le_refl _) HBA.out (.int .i64 a0) (.int .i64 a1) (.int .i64 a2) (.int .i64 a3) (U a4) (U a5) (U a6) (.func (.func F) #[] #[])
      rw [hw4]
      go_meet
      exact ⟨rfl, Lib.hid ⟨hk4, hb4⟩⟩
    case rest =>
      obtain ⟨rfl, hwz⟩ := hcut
      obtain ⟨hk4, hb4⟩ := hwz.out
      obtain ⟨r0, r1, r2, r3, r4, r5, r6, r7⟩ := rest8 hk4
      clear k0 k1 k2 k3 k4 k5 k6 k7 j0 j1 j2 j3 j4 j5 j6 j7 q0 hk4 hwz
      go_wp2_with fail
      exact bodyPost_ret (v := .tuple #[.agg #[.int .i64 a0, .int .i64 a1, .int .i64 a2, .int .i64 a3, U a4, U a5, U a6, .func (.func F) #[] #[]], .int .i64 0]) (by simp [results, Tryz.results26, go_sem, r0, r1, r2, r3, r4, r5, r6, r7]) rfl ⟨rfl, hb4⟩
end Go.Proofs.YtnlpkehllihllaaGreatDoor
