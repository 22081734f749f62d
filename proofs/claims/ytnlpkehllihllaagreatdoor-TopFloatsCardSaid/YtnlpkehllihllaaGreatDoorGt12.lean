/-
  A part of the proofs that calipertop.TopBack, TopFloats and TopNearest return true for every input and leave it as it was: part 12 of 47.
-/
import Derived.Test.YtnlpkehllihllaaGreatDoorGt04
import Derived.Test.YtnlpkehllihllaaGreatDoorGt11
import Derived.Deep.QuietTactic
import Derived.BigQuiet
import Derived.Defers
import Derived.Recover
import Derived.Test.YtnlpkehllihllaaGreatDoorGt10
import Derived.Deep.DeepCutAuto
import Derived.Laws.EntriesVeiled
/-
  Plain laws of posits' magnitudes: regime, what stands behind it, the number; magnitudes rise.
-/
namespace Go.Proofs.YtnlpkehllihllaaGreatDoor
open Go.RowKit Go.Sort

/-- How many bits stand behind the regime's end, in a magnitude of k + 1 bits. -/
def pL (k key : Nat) : Nat := if key < 2 ^ k then blen key - 1 else blen (2 ^ (k + 1) - 1 - key) - 1
/-- The regime. -/
def pReg (k key : Nat) : Int := if key < 2 ^ k then (pL k key : Int) - k else (k : Int) - blen (2 ^ (k + 1) - 1 - key)
/-- What stands behind it, as seventy bits. -/
def pY (k key : Nat) : Nat := key % 2 ^ pL k key * 2 ^ (70 - pL k key)
/-- Seventy bits: two of the exponent, the others of the fraction. -/
def pG (y : Nat) : Nat := (2 ^ 68 + y % 2 ^ 68) * 2 ^ (y / 2 ^ 68)
/-- A magnitude's number, times 2 to the power 348. -/
def PS (k key : Nat) : Nat := 16 ^ (pReg k key + 70).toNat * pG (pY k key)

theorem pG_ge (y : Nat) : 2 ^ 68 ≤ pG y := by
  unfold pG
  have h := Nat.two_pow_pos (y / 2 ^ 68)
  calc 2 ^ 68 ≤ 2 ^ 68 + y % 2 ^ 68 := Nat.le_add_right _ _
    _ = (2 ^ 68 + y % 2 ^ 68) * 1 := (Nat.mul_one _).symm
    _ ≤ _ := Nat.mul_le_mul_left _ h
theorem pG_half (y : Nat) : pG y < 2 ^ 69 * 2 ^ (y / 2 ^ 68) := by
  unfold pG
  refine Nat.mul_lt_mul_of_pos_right ?_ (Nat.two_pow_pos _)
  have := Nat.mod_lt y (show 0 < 2 ^ 68 by decide)
  omega
theorem pG_lt {y : Nat} (h : y < 2 ^ 70) : pG y < 2 ^ 72 := by
  refine Nat.lt_of_lt_of_le (pG_half y) ?_
  have h1 : y / 2 ^ 68 ≤ 3 := by omega
  have h2 : 2 ^ (y / 2 ^ 68) ≤ 2 ^ 3 := Nat.pow_le_pow_right (by omega) h1
  omega
theorem pG_mono {y z : Nat} (h : y < z) : pG y < pG z := by
  rcases Nat.lt_or_ge (y / 2 ^ 68) (z / 2 ^ 68) with q | q
  · refine Nat.lt_of_lt_of_le (pG_half y) ?_
    have h1 : 2 ^ (y / 2 ^ 68 + 1) ≤ 2 ^ (z / 2 ^ 68) := Nat.pow_le_pow_right (by omega) q
    have h2 : pG z = (2 ^ 68 + z % 2 ^ 68) * 2 ^ (z / 2 ^ 68) := rfl
    rw [h2]
    have h3 : 2 ^ 68 * 2 ^ (z / 2 ^ 68) ≤ (2 ^ 68 + z % 2 ^ 68) * 2 ^ (z / 2 ^ 68) := Nat.mul_le_mul_right _ (Nat.le_add_right _ _)
    rw [Nat.pow_succ] at h1
    generalize 2 ^ (y / 2 ^ 68) = a at *
    generalize 2 ^ (z / 2 ^ 68) = b at *
    omega
  · have e : y / 2 ^ 68 = z / 2 ^ 68 := by omega
    unfold pG
    rw [e]
    refine Nat.mul_lt_mul_of_pos_right ?_ (Nat.two_pow_pos _)
    omega
theorem pY_lt (k key : Nat) (h : pL k key ≤ 70) : pY k key < 2 ^ 70 := by
  unfold pY
  have h1 := Nat.mod_lt key (Nat.two_pow_pos (pL k key))
  have h2 : 2 ^ 70 = 2 ^ pL k key * 2 ^ (70 - pL k key) := by rw [← Nat.pow_add]; congr 1; omega
  rw [h2]
  exact Nat.mul_lt_mul_of_pos_right h1 (Nat.two_pow_pos _)
theorem blen_bound {x n : Nat} (h : x < 2 ^ n) : blen x ≤ n := by
  rcases Nat.eq_zero_or_pos x with rfl | h0
  · rw [blen_zero]; omega
  · rcases Nat.lt_or_ge n (blen x) with q | q
    · have h1 := blen_ge (n := x) (by omega)
      have h2 : 2 ^ n ≤ 2 ^ (blen x - 1) := Nat.pow_le_pow_right (by omega) (by omega)
      omega
    · exact q
/-- Where it lies: the regime between -k and k, the rest of at most k bits. -/
theorem pL_le {k key : Nat} (h : key < 2 ^ (k + 1)) : pL k key ≤ k := by
  unfold pL
  split
  · next q => have := blen_bound q; omega
  · have h1 : 2 ^ (k + 1) - 1 - key < 2 ^ k := by rw [Nat.pow_succ] at *; omega
    have := blen_bound h1; omega
theorem pReg_le {k key : Nat} (h : key < 2 ^ (k + 1)) : -(k : Int) ≤ pReg k key ∧ pReg k key ≤ k := by
  unfold pReg
  have h0 := pL_le h
  split
  · omega
  · have h1 : 2 ^ (k + 1) - 1 - key < 2 ^ k := by rw [Nat.pow_succ] at *; omega
    have := blen_bound h1; omega
theorem ps_reg {k a b : Nat} (ha : a < 2 ^ (k + 1)) (hk : k ≤ 64) (h : pReg k a < pReg k b) : PS k a < PS k b := by
  have h1 := pG_lt (pY_lt k a (by have := pL_le ha; omega))
  have h2 := pG_ge (pY k b)
  have h3 := pReg_le ha
  have e : (pReg k a + 70).toNat + 1 ≤ (pReg k b + 70).toNat := by omega
  have h4 : 16 ^ ((pReg k a + 70).toNat + 1) ≤ 16 ^ (pReg k b + 70).toNat := Nat.pow_le_pow_right (by omega) e
  unfold PS
  calc 16 ^ (pReg k a + 70).toNat * pG (pY k a) < 16 ^ (pReg k a + 70).toNat * 2 ^ 72 := Nat.mul_lt_mul_of_pos_left h1 (Nat.pow_pos (by omega))
    _ = 16 ^ ((pReg k a + 70).toNat + 1) * 2 ^ 68 := by
      rw [Nat.pow_succ 16]
      generalize 16 ^ (pReg k a + 70).toNat = z
      omega
    _ ≤ 16 ^ (pReg k b + 70).toNat * 2 ^ 68 := Nat.mul_le_mul_right _ h4
    _ ≤ _ := Nat.mul_le_mul_left _ h2
theorem ps_rest {k a b : Nat} (h : pReg k a = pReg k b) (hl : pL k a = pL k b) (hr : a % 2 ^ pL k a < b % 2 ^ pL k a) : PS k a < PS k b := by
  unfold PS
  rw [h]
  refine Nat.mul_lt_mul_of_pos_left (pG_mono ?_) (Nat.pow_pos (by omega))
  unfold pY
  rw [← hl]
  exact Nat.mul_lt_mul_of_pos_right hr (Nat.two_pow_pos _)
theorem mod_top {x L : Nat} (h1 : 2 ^ L ≤ x) (h2 : x < 2 ^ (L + 1)) : x % 2 ^ L = x - 2 ^ L := by
  rw [Nat.pow_succ] at h2
  have e : x = 2 ^ L * 1 + (x - 2 ^ L) := by omega
  conv => lhs; rw [e]
  rw [Nat.mul_add_mod, Nat.mod_eq_of_lt (by omega)]
/-- What stands behind the regime's end, told by what is missing. -/
theorem mod_miss {k c L : Nat} (hL : L ≤ k) (h1 : 2 ^ L ≤ c) (h2 : c < 2 ^ (L + 1)) (hc : c < 2 ^ (k + 1)) : (2 ^ (k + 1) - 1 - c) % 2 ^ L = 2 ^ (L + 1) - 1 - c := by
  obtain ⟨d, hd⟩ : ∃ d, k + 1 = (L + 1) + d := ⟨k - L, by omega⟩
  have e : 2 ^ (k + 1) = 2 ^ (L + 1) * 2 ^ d := by rw [hd, Nat.pow_add]
  have hp := Nat.two_pow_pos d
  obtain ⟨u, hu⟩ : ∃ u, 2 ^ d = u + 1 := ⟨2 ^ d - 1, by omega⟩
  have e2 : 2 ^ (k + 1) = 2 ^ L * (2 * u) + 2 ^ (L + 1) := by rw [e, hu, Nat.pow_succ]; rw [Nat.mul_add, Nat.mul_one, Nat.mul_assoc]
  have h3 : 2 ^ (L + 1) = 2 ^ L * 2 := Nat.pow_succ 2 L
  rw [show 2 ^ (k + 1) - 1 - c = 2 ^ L * (2 * u) + (2 ^ (L + 1) - 1 - c) by omega, Nat.mul_add_mod, Nat.mod_eq_of_lt (by omega)]
/-- Magnitudes rise. -/
theorem ps_succ {k a : Nat} (hk : k ≤ 64) (h0 : 1 ≤ a) (ha : a + 1 < 2 ^ (k + 1)) : PS k a < PS k (a + 1) := by
  have hpk : 2 ^ (k + 1) = 2 ^ k * 2 := Nat.pow_succ 2 k
  rcases Nat.lt_or_ge (a + 1) (2 ^ k) with q | q
  · -- both below one
    have l1 := blen_lt a
    have l2 := blen_ge (n := a) (by omega)
    have p1 := blen_pos (n := a) (by omega)
    obtain ⟨L, hL⟩ : ∃ L, blen a = L + 1 := ⟨_, p1⟩
    rw [hL] at l1 l2
    rw [Nat.add_sub_cancel] at l2
    have eL : pL k a = L := by unfold pL; rw [if_pos (by omega), hL]; rfl
    have eR : pReg k a = (L : Int) - k := by unfold pReg; rw [if_pos (by omega), eL]
    rcases Nat.lt_or_ge (a + 1) (2 ^ (L + 1)) with r | r
    · have hb : blen (a + 1) = L + 1 := blen_eq (by omega) r
      have eL2 : pL k (a + 1) = L := by unfold pL; rw [if_pos q, hb]; rfl
      have eR2 : pReg k (a + 1) = (L : Int) - k := by unfold pReg; rw [if_pos q, eL2]
      refine ps_rest (by rw [eR, eR2]) (by rw [eL, eL2]) ?_
      rw [eL, mod_top l2 l1, mod_top (by omega) r]
      omega
    · have hb : blen (a + 1) = L + 1 + 1 := blen_eq r (by rw [Nat.pow_succ]; omega)
      have eL2 : pL k (a + 1) = L + 1 := by unfold pL; rw [if_pos q, hb]; rfl
      have eR2 : pReg k (a + 1) = ((L + 1 : Nat) : Int) - k := by unfold pReg; rw [if_pos q, eL2]
      refine ps_reg (by omega) hk ?_
      rw [eR, eR2]
      omega
  · rcases Nat.lt_or_ge a (2 ^ k) with r | r
    · refine ps_reg (by omega) hk ?_
      have e1 : pReg k a ≤ -1 := by
        unfold pReg
        rw [if_pos r]
        unfold pL
        rw [if_pos r]
        have := blen_bound r
        rcases Nat.eq_zero_or_pos k with rfl | hk0
        · omega
        · omega
      have e2 : 0 ≤ pReg k (a + 1) := by
        unfold pReg
        rw [if_neg (by omega)]
        have h1 : 2 ^ (k + 1) - 1 - (a + 1) < 2 ^ k := by omega
        have := blen_bound h1
        omega
      omega
    · obtain ⟨c, hc⟩ : ∃ c, c = 2 ^ (k + 1) - 1 - (a + 1) := ⟨_, rfl⟩
      have ea : a = 2 ^ (k + 1) - 1 - (c + 1) := by omega
      have eb : a + 1 = 2 ^ (k + 1) - 1 - c := by omega
      have em : 2 ^ (k + 1) - 1 - a = c + 1 := by omega
      have hc2 : c + 1 < 2 ^ k := by omega
      have l1 := blen_lt (c + 1)
      have l2 := blen_ge (n := c + 1) (by omega)
      have p1 := blen_pos (n := c + 1) (by omega)
      obtain ⟨L, hL⟩ : ∃ L, blen (c + 1) = L + 1 := ⟨_, p1⟩
      rw [hL] at l1 l2
      rw [Nat.add_sub_cancel] at l2
      have hLk : L + 1 ≤ k := by have := blen_bound hc2; omega
      have eL : pL k a = L := by unfold pL; rw [if_neg (by omega), em, hL]; rfl
      have eR : pReg k a = (k : Int) - ((L + 1 : Nat) : Int) := by unfold pReg; rw [if_neg (by omega), em, hL]
      rcases Nat.lt_or_ge c (2 ^ L) with s | s
      · refine ps_reg (by omega) hk ?_
        have := blen_bound s
        rw [eR]
        unfold pReg
        rw [if_neg (by omega), ← hc]
        omega
      · have hb : blen c = L + 1 := blen_eq s (by omega)
        have eL2 : pL k (a + 1) = L := by unfold pL; rw [if_neg (by omega), ← hc, hb]; rfl
        have eR2 : pReg k (a + 1) = (k : Int) - ((L + 1 : Nat) : Int) := by unfold pReg; rw [if_neg (by omega), ← hc, hb]
        refine ps_rest (by rw [eR, eR2]) (by rw [eL, eL2]) ?_
        rw [eL, eb]
        conv => lhs; rw [ea]
        rw [mod_miss (by omega) l2 l1 (by omega), mod_miss (by omega) s (by omega) (by omega)]
        omega
/-- One bit more, a nought: the same number. -/
theorem ps_double {k a : Nat} (hk : k ≤ 63) (h0 : 1 ≤ a) (ha : a < 2 ^ (k + 1)) : PS (k + 1) (2 * a) = PS k a := by
  have hpk : 2 ^ (k + 1) = 2 ^ k * 2 := Nat.pow_succ 2 k
  have hpk2 : 2 ^ (k + 1 + 1) = 2 ^ (k + 1) * 2 := Nat.pow_succ 2 (k + 1)
  have key : ∀ L : Nat, L ≤ 69 → 2 * a % 2 ^ (L + 1) * 2 ^ (70 - (L + 1)) = a % 2 ^ L * 2 ^ (70 - L) := by
    intro L hL
    rw [show 2 ^ (L + 1) = 2 * 2 ^ L by rw [Nat.pow_succ, Nat.mul_comm], Nat.mul_mod_mul_left, show 70 - L = (70 - (L + 1)) + 1 by omega, Nat.pow_succ]
    ac_rfl
  rcases Nat.lt_or_ge a (2 ^ k) with q | q
  · have p1 := blen_pos (n := a) (by omega)
    obtain ⟨L, hL⟩ : ∃ L, blen a = L + 1 := ⟨_, p1⟩
    have hb : blen (2 * a) = L + 1 + 1 := by
      have l1 := blen_lt a
      have l2 := blen_ge (n := a) (by omega)
      rw [hL] at l1 l2
      rw [Nat.add_sub_cancel] at l2
      exact blen_eq (by rw [Nat.pow_succ]; omega) (by rw [Nat.pow_succ]; omega)
    have hLk := blen_bound q
    have eL : pL k a = L := by unfold pL; rw [if_pos q, hL]; rfl
    have eL2 : pL (k + 1) (2 * a) = L + 1 := by unfold pL; rw [if_pos (by omega), hb]; rfl
    have eR : pReg (k + 1) (2 * a) = pReg k a := by unfold pReg; rw [if_pos (by omega), if_pos q, eL, eL2]; omega
    unfold PS pY
    rw [eR, eL, eL2, key L (by omega)]
  · obtain ⟨c, hc⟩ : ∃ c, c = 2 ^ (k + 1) - 1 - a := ⟨_, rfl⟩
    have hc2 : 2 ^ (k + 1 + 1) - 1 - 2 * a = 2 * c + 1 := by omega
    have hb : blen (2 * c + 1) = blen c + 1 := by
      rcases Nat.eq_zero_or_pos c with rfl | hc0
      · exact blen_eq (k := 0) (by decide) (by decide)
      · have l1 := blen_lt c
        have l2 := blen_ge (n := c) (by omega)
        have p1 := blen_pos (n := c) (by omega)
        obtain ⟨L, hL⟩ : ∃ L, blen c = L + 1 := ⟨_, p1⟩
        rw [hL] at l1 l2 ⊢
        rw [Nat.add_sub_cancel] at l2
        exact blen_eq (by rw [Nat.pow_succ]; omega) (by rw [Nat.pow_succ]; omega)
    have eR : pReg (k + 1) (2 * a) = pReg k a := by unfold pReg; rw [if_neg (by omega), if_neg (by omega), hc2, ← hc, hb]; omega
    have hcb : blen c ≤ k := blen_bound (by omega)
    have eL2 : pL (k + 1) (2 * a) = blen c := by unfold pL; rw [if_neg (by omega), hc2, hb]; rfl
    have eL : pL k a = blen c - 1 := by unfold pL; rw [if_neg (by omega), ← hc]
    unfold PS pY
    rw [eR, eL, eL2]
    rcases Nat.eq_zero_or_pos (blen c) with hz | hz
    · rw [hz, Nat.pow_zero, Nat.mod_one, Nat.mod_one]
    · obtain ⟨L, hL⟩ : ∃ L, blen c = L + 1 := ⟨blen c - 1, by omega⟩
      rw [hL, Nat.add_sub_cancel, key L (by omega)]
end Go.Proofs.YtnlpkehllihllaaGreatDoor

/-
  Plain laws of forms' magnitudes: the number of a key, with so many bits more; keys rise, boundaries stand between.
-/
namespace Go.Proofs.YtnlpkehllihllaaGreatDoor
open Go.RowKit Go.Sort

/-- A posit's significand and power of two, as they are split off. -/
def pM (k key : Nat) : Nat := 2 ^ (pL k key - 2) + key % 2 ^ pL k key % 2 ^ (pL k key - 2)
def pE (k key : Nat) : Int := 4 * pReg k key + ((key % 2 ^ pL k key / 2 ^ (pL k key - 2) * 2 ^ (2 - pL k key) : Nat) : Int) - ((pL k key - 2 : Nat) : Int)

theorem two16 (n : Nat) : 16 ^ n = 2 ^ (4 * n) := by rw [Nat.pow_mul]
theorem pE_bd {k key : Nat} (hk : k ≤ 63) (h : key < 2 ^ (k + 1)) : -320 ≤ pE k key ∧ pE k key ≤ 260 := by
  have h1 := pReg_le h
  have h2 := pL_le h
  have h3 := Nat.mod_lt key (Nat.two_pow_pos (pL k key))
  have h4 : key % 2 ^ pL k key / 2 ^ (pL k key - 2) * 2 ^ (2 - pL k key) ≤ 3 := by
    obtain ⟨L, hL⟩ : ∃ L, L = pL k key := ⟨_, rfl⟩
    rw [← hL] at h3 ⊢
    generalize key % 2 ^ L = R at *
    rcases (show L = 0 ∨ L = 1 ∨ 2 ≤ L by omega) with rfl | rfl | hl
    · have : R = 0 := by omega
      subst this; decide
    · have : R = 0 ∨ R = 1 := by omega
      rcases this with rfl | rfl <;> decide
    · rw [show 2 - L = 0 by omega, Nat.pow_zero, Nat.mul_one]
      have e : 2 ^ L = 4 * 2 ^ (L - 2) := by
        obtain ⟨j, rfl⟩ : ∃ j, L = j + 2 := ⟨L - 2, by omega⟩
        rw [Nat.add_sub_cancel, Nat.pow_add, Nat.mul_comm]
      have : R / 2 ^ (L - 2) < 4 := by rw [Nat.div_lt_iff_lt_mul (Nat.two_pow_pos _)]; omega
      omega
  unfold pE
  omega
theorem pM_link {k key : Nat} (hk : k ≤ 63) (h : key < 2 ^ (k + 1)) : pM k key * 2 ^ (pE k key + 348).toNat = PS k key := by
  have h1 := pReg_le h
  have h2 := pL_le h
  have h3 := Nat.mod_lt key (Nat.two_pow_pos (pL k key))
  unfold pM pE PS pY pG
  obtain ⟨L, hL⟩ : ∃ L, L = pL k key := ⟨_, rfl⟩
  rw [← hL] at h2 h3 ⊢
  generalize key % 2 ^ L = R at *
  obtain ⟨r, hr⟩ : ∃ r, r = pReg k key := ⟨_, rfl⟩
  rw [← hr] at h1 ⊢
  rw [two16]
  rcases (show L = 0 ∨ L = 1 ∨ 2 ≤ L by omega) with rfl | rfl | hl
  · obtain rfl : R = 0 := by omega
    show 1 * 2 ^ (4 * r + ((0 : Nat) : Int) - ((0 : Nat) : Int) + 348).toNat = 2 ^ (4 * (r + 70).toNat) * (2 ^ 68 * 1)
    rw [Nat.one_mul, Nat.mul_one, ← Nat.pow_add]
    congr 1
    omega
  · have : R = 0 ∨ R = 1 := by omega
    rcases this with rfl | rfl
    · show 1 * 2 ^ (4 * r + ((0 : Nat) : Int) - ((0 : Nat) : Int) + 348).toNat = 2 ^ (4 * (r + 70).toNat) * (2 ^ 68 * 1)
      rw [Nat.one_mul, Nat.mul_one, ← Nat.pow_add]
      congr 1
      omega
    · show 1 * 2 ^ (4 * r + ((2 : Nat) : Int) - ((0 : Nat) : Int) + 348).toNat = 2 ^ (4 * (r + 70).toNat) * (2 ^ 68 * 2 ^ 2)
      rw [Nat.one_mul, ← Nat.pow_add, ← Nat.pow_add]
      congr 1
      omega
  · obtain ⟨j, rfl⟩ : ∃ j, L = j + 2 := ⟨L - 2, by omega⟩
    rw [Nat.add_sub_cancel, show 2 - (j + 2) = 0 by omega, Nat.pow_zero, Nat.mul_one]
    have e68 : (2 : Nat) ^ 68 = 2 ^ j * 2 ^ (70 - (j + 2)) := by rw [← Nat.pow_add]; congr 1; omega
    rw [e68, Nat.mul_div_mul_right _ _ (Nat.two_pow_pos _), Nat.mul_mod_mul_right, ← Nat.add_mul]
    generalize R / 2 ^ j = q at *
    rw [show (4 * r + (q : Int) - (j : Int) + 348).toNat = 4 * (r + 70).toNat + (70 - (j + 2)) + q by omega, Nat.pow_add, Nat.pow_add]
    ac_rfl

/-- What a magnitude of a form, with so many bits more, means: significand and power of two, not yet odd. -/
def numM (f : Fm) (more key : Nat) : Nat :=
  if f.kind = 1 then pM (f.width + more - 2) key else if f.kind = 2 then mmS (f.man + more) key else if f.kind = 3 then key else 1 + 2 * more
def numE (f : Fm) (more key : Nat) : Int :=
  if f.kind = 1 then pE (f.width + more - 2) key else if f.kind = 2 then meS (f.man + more) f.bias key else if f.kind = 3 then -(f.man : Int) - more else ((key / 2 ^ more : Nat) : Int) - f.bias - more
/-- The number, scaled. -/
def NV (f : Fm) (more key : Nat) : Nat := ex (numM f more key) (numE f more key) 0

/-- A small form's magnitudes, on one scale. -/
def mS (m key : Nat) : Nat := mmS m key * 2 ^ (max (key / 2 ^ m) 1 - 1)
theorem mS_succ (m key : Nat) : mS m key < mS m (key + 1) := by
  have hp := Nat.two_pow_pos m
  have hd := Nat.div_add_mod key (2 ^ m)
  have hm := Nat.mod_lt key hp
  rcases Nat.lt_or_ge (key % 2 ^ m + 1) (2 ^ m) with q | q
  · have e1 : (key + 1) / 2 ^ m = key / 2 ^ m := by
      conv => lhs; rw [← hd, Nat.add_assoc, Nat.mul_add_div hp, Nat.div_eq_of_lt q]
      rfl
    have e2 : (key + 1) % 2 ^ m = key % 2 ^ m + 1 := by
      conv => lhs; rw [← hd, Nat.add_assoc, Nat.mul_add_mod, Nat.mod_eq_of_lt q]
    unfold mS mmS
    rw [e1, e2]
    refine Nat.mul_lt_mul_of_pos_right (by omega) (Nat.two_pow_pos _)
  · have e0 : key % 2 ^ m + 1 = 2 ^ m := by omega
    have e1 : (key + 1) / 2 ^ m = key / 2 ^ m + 1 := by
      conv => lhs; rw [← hd, Nat.add_assoc, e0, Nat.mul_add_div hp, Nat.div_self hp]
    have e2 : (key + 1) % 2 ^ m = 0 := by
      conv => lhs; rw [← hd, Nat.add_assoc, e0, Nat.mul_add_mod, Nat.mod_self]
    unfold mS mmS
    rw [e1, e2, if_neg (Nat.succ_ne_zero _)]
    rcases Nat.eq_zero_or_pos (key / 2 ^ m) with h | h
    · rw [h, if_pos rfl]
      simp
      omega
    · rw [if_neg (by omega), show max (key / 2 ^ m) 1 - 1 = key / 2 ^ m - 1 by omega, show max (key / 2 ^ m + 1) 1 - 1 = (key / 2 ^ m - 1) + 1 by omega, Nat.pow_succ]
      have h2 := Nat.two_pow_pos (key / 2 ^ m - 1)
      rw [show (2 ^ m + 0) * (2 ^ (key / 2 ^ m - 1) * 2) = (2 ^ m * 2) * 2 ^ (key / 2 ^ m - 1) by ac_rfl]
      refine Nat.mul_lt_mul_of_pos_right (by omega) h2
theorem mS_double (m key : Nat) : mS (m + 1) (2 * key) = 2 * mS m key := by
  have e1 : 2 * key / 2 ^ (m + 1) = key / 2 ^ m := by rw [Nat.pow_succ, Nat.mul_comm (2 ^ m) 2, Nat.mul_div_mul_left _ _ (by omega)]
  have e2 : 2 * key % 2 ^ (m + 1) = 2 * (key % 2 ^ m) := by rw [Nat.pow_succ, Nat.mul_comm (2 ^ m) 2, Nat.mul_mod_mul_left]
  unfold mS mmS
  rw [e1, e2]
  split
  · rw [Nat.zero_add, Nat.zero_add]; ac_rfl
  · rw [Nat.pow_succ, show 2 ^ m * 2 + 2 * (key % 2 ^ m) = 2 * (2 ^ m + key % 2 ^ m) by omega]; ac_rfl
theorem mini_ex {m : Nat} {b : Int} (key : Nat) (hm : m ≤ 60) (h1 : -2000 ≤ b) (h2 : b ≤ 2000) : ex (mmS m key) (meS m b key) 0 = mS m key * (2 ^ (2501 - b - m).toNat * five25) := by
  have e : (meS m b key + 2500).toNat = (max (key / 2 ^ m) 1 - 1) + (2501 - b - m).toNat := by unfold meS; omega
  rw [ex_five, e, Nat.pow_add]
  unfold mS
  generalize five25 = c
  generalize 2 ^ (2501 - b - (m : Int)).toNat = x
  generalize 2 ^ (max (key / 2 ^ m) 1 - 1) = y
  ac_rfl
theorem pos_ex {k key : Nat} (hk : k ≤ 63) (h : key < 2 ^ (k + 1)) : ex (pM k key) (pE k key) 0 = PS k key * (2 ^ 2152 * five25) := by
  have hb := pE_bd hk h
  rw [ex_five, ← pM_link hk h, show (pE k key + 2500).toNat = (pE k key + 348).toNat + 2152 by omega, Nat.pow_add]
  generalize five25 = c
  obtain ⟨x, hx⟩ : ∃ x, x = 2 ^ 2152 := ⟨_, rfl⟩
  rw [← hx]
  generalize 2 ^ (pE k key + 348).toNat = y
  ac_rfl
theorem pull2 (a b c : Nat) : a * (b * 2 * c) = 2 * a * (b * c) := by ac_rfl
theorem pull4 (b c : Nat) : (1 + 2 * 0) * (b * 2 ^ 2 * c) = 4 * (b * c) := by rw [Nat.mul_zero, Nat.add_zero, Nat.one_mul, show (2 : Nat) ^ 2 = 4 from rfl]; ac_rfl
theorem lt_scale {a b c : Nat} (h : a < b) (hc : 0 < c) : a * c < b * c := Nat.mul_lt_mul_of_pos_right h hc
theorem scale_pos (n : Nat) : 0 < 2 ^ n * five25 := Nat.mul_pos (Nat.two_pow_pos _) five25_pos

/-- What the forms are, said so that the kernel can look at each. -/
def fmOk (f : Fm) : Bool :=
  (f.kind == 1 && decide (4 ≤ f.width) && decide (f.width ≤ 64) && decide (f.top = 2 ^ (f.width - 1) - 1) && decide (f.nan = 2 ^ (f.width - 1)) && decide (f.inf = 0)) ||
  (f.kind == 2 && decide (4 ≤ f.width) && decide (f.width ≤ 64) && decide (f.man ≤ 52) && decide (0 ≤ f.bias) && decide (f.bias ≤ 1023) && decide (f.top < 2 ^ (f.width - 1)) && decide (f.top / 2 ^ f.man ≤ 2046) && decide (3 ≤ f.top) && decide (((f.top / 2 ^ f.man : Nat) : Int) ≤ f.bias + 1023)) ||
  (f.kind == 3 && f.width == 8 && f.man == 6 && f.top == 127 && f.nan == 0 && f.inf == 0) ||
  (f.kind == 4 && f.width == 8 && f.bias == 127 && f.top == 254 && f.nan == 255 && f.inf == 0)
theorem forms_ok : ∀ n, n < 15 → 1 ≤ n → fmOk (formAt n) = true := by decide +kernel
inductive FmIs (f : Fm) : Prop
  | posit (h : f.kind = 1) (w1 : 4 ≤ f.width) (w2 : f.width ≤ 64) (t : f.top = 2 ^ (f.width - 1) - 1) (n : f.nan = 2 ^ (f.width - 1)) (i : f.inf = 0)
  | signed (h : f.kind = 2) (w1 : 4 ≤ f.width) (w2 : f.width ≤ 64) (m : f.man ≤ 52) (b1 : 0 ≤ f.bias) (b2 : f.bias ≤ 1023) (t : f.top < 2 ^ (f.width - 1)) (e : f.top / 2 ^ f.man ≤ 2046) (t3 : 3 ≤ f.top) (e2 : ((f.top / 2 ^ f.man : Nat) : Int) ≤ f.bias + 1023)
  | turned (h : f.kind = 3) (w : f.width = 8) (m : f.man = 6) (t : f.top = 127) (n : f.nan = 0) (i : f.inf = 0)
  | scale (h : f.kind = 4) (w : f.width = 8) (b : f.bias = 127) (t : f.top = 254) (n : f.nan = 255) (i : f.inf = 0)
theorem form_is {n : Nat} (h1 : 1 ≤ n) (h2 : n < 15) : FmIs (formAt n) := by
  have h := forms_ok n h2 h1
  unfold fmOk at h
  simp only [Bool.or_eq_true, Bool.and_eq_true, decide_eq_true_eq, beq_iff_eq] at h
  rcases h with ((h | h) | h) | h
  · exact .posit h.1.1.1.1.1 h.1.1.1.1.2 h.1.1.1.2 h.1.1.2 h.1.2 h.2
  · exact .signed h.1.1.1.1.1.1.1.1.1 h.1.1.1.1.1.1.1.1.2 h.1.1.1.1.1.1.1.2 h.1.1.1.1.1.1.2 h.1.1.1.1.1.2 h.1.1.1.1.2 h.1.1.1.2 h.1.1.2 h.1.2 h.2
  · exact .turned h.1.1.1.1.1 h.1.1.1.1.2 h.1.1.1.2 h.1.1.2 h.1.2 h.2
  · exact .scale h.1.1.1.1.1 h.1.1.1.1.2 h.1.1.1.2 h.1.1.2 h.1.2 h.2

/-- The greatest magnitude of either sign. -/
def Fm.most (f : Fm) : Nat := if f.kind = 3 then f.top + 1 else f.top

theorem nv_above {f : Fm} (hf : FmIs f) {key : Nat} (h0 : 1 ≤ key ∨ f.kind = 4) (hk : key ≤ f.most) : NV f 0 key < NV f 1 (2 * key + 1) := by
  cases hf with
  | posit h w1 w2 t n i =>
    have hk0 : 1 ≤ key := by rcases h0 with q | q; exact q; rw [h] at q; cases q
    have hm : f.most = f.top := by unfold Fm.most; rw [if_neg (by rw [h]; decide)]
    rw [hm, t] at hk
    obtain ⟨k, hkk⟩ : ∃ k, f.width = k + 2 := ⟨f.width - 2, by omega⟩
    rw [hkk, show k + 2 - 1 = k + 1 by omega] at hk
    have hp := Nat.two_pow_pos (k + 1)
    have hlt : key < 2 ^ (k + 1) := by omega
    have hlt2 : 2 * key + 1 < 2 ^ (k + 1 + 1) := by rw [Nat.pow_succ]; omega
    unfold NV numM numE
    rw [if_pos h, if_pos h, if_pos h, if_pos h, hkk, show k + 2 + 0 - 2 = k by omega, show k + 2 + 1 - 2 = k + 1 by omega, pos_ex (by omega) hlt, pos_ex (by omega) hlt2, ← ps_double (by omega) hk0 hlt]
    exact lt_scale (ps_succ (by omega) (by omega) hlt2) (scale_pos 2152)
  | signed h w1 w2 m b1 b2 t e t3 e2 =>
    unfold NV numM numE
    have n1 : ¬ f.kind = 1 := by rw [h]; decide
    rw [if_neg n1, if_neg n1, if_neg n1, if_neg n1, if_pos h, if_pos h, if_pos h, if_pos h, Nat.add_zero f.man, mini_ex _ (by omega) (by omega) (by omega), mini_ex _ (by omega) (by omega) (by omega)]
    rw [show (2501 - f.bias - (f.man : Int)).toNat = (2501 - f.bias - ((f.man + 1 : Nat) : Int)).toNat + 1 by omega, Nat.pow_succ, pull2, ← mS_double]
    exact lt_scale (mS_succ _ _) (scale_pos _)
  | turned h w m t n i =>
    unfold NV numM numE
    have n1 : ¬ f.kind = 1 := by rw [h]; decide
    have n2 : ¬ f.kind = 2 := by rw [h]; decide
    rw [if_neg n1, if_neg n1, if_neg n1, if_neg n1, if_neg n2, if_neg n2, if_neg n2, if_neg n2, if_pos h, if_pos h, if_pos h, if_pos h, m, ex_five, ex_five]
    rw [show (-((6 : Nat) : Int) - ((0 : Nat) : Int) + 2500).toNat = (-((6 : Nat) : Int) - ((1 : Nat) : Int) + 2500).toNat + 1 by omega, Nat.pow_succ, Nat.mul_assoc key, pull2, Nat.mul_assoc (2 * _ + 1)]
    exact lt_scale (by omega) (scale_pos _)
  | scale h w b t n i =>
    unfold NV numM numE
    have n1 : ¬ f.kind = 1 := by rw [h]; decide
    have n2 : ¬ f.kind = 2 := by rw [h]; decide
    have n3 : ¬ f.kind = 3 := by rw [h]; decide
    rw [if_neg n1, if_neg n1, if_neg n1, if_neg n1, if_neg n2, if_neg n2, if_neg n2, if_neg n2, if_neg n3, if_neg n3, if_neg n3, if_neg n3, b, ex_five, ex_five]
    rw [show (2 * key + 1) / 2 ^ 1 = key by omega, show key / 2 ^ 0 = key by simp]
    rw [show ((key : Int) - 127 - ((0 : Nat) : Int) + 2500).toNat = ((key : Int) - 127 - ((1 : Nat) : Int) + 2500).toNat + 1 by omega, Nat.pow_succ, Nat.mul_assoc (1 + 2 * 0), pull2, Nat.mul_assoc (1 + 2 * 1)]
    exact lt_scale (by omega) (scale_pos _)

theorem nv_below {f : Fm} (hf : FmIs f) {key : Nat} (h0 : 1 ≤ key) (hk : key ≤ f.most) : NV f 1 (2 * (key - 1) + 1) < NV f 0 key := by
  cases hf with
  | posit h w1 w2 t n i =>
    have hm : f.most = f.top := by unfold Fm.most; rw [if_neg (by rw [h]; decide)]
    rw [hm, t] at hk
    obtain ⟨k, hkk⟩ : ∃ k, f.width = k + 2 := ⟨f.width - 2, by omega⟩
    rw [hkk, show k + 2 - 1 = k + 1 by omega] at hk
    have hp := Nat.two_pow_pos (k + 1)
    have hlt : key < 2 ^ (k + 1) := by omega
    have hlt2 : 2 * (key - 1) + 1 + 1 < 2 ^ (k + 1 + 1) := by rw [Nat.pow_succ]; omega
    unfold NV numM numE
    rw [if_pos h, if_pos h, if_pos h, if_pos h, hkk, show k + 2 + 0 - 2 = k by omega, show k + 2 + 1 - 2 = k + 1 by omega, pos_ex (by omega) hlt, pos_ex (by omega) (by omega), ← ps_double (by omega) h0 hlt]
    have hs := ps_succ (k := k + 1) (a := 2 * (key - 1) + 1) (by omega) (by omega) hlt2
    rw [show 2 * (key - 1) + 1 + 1 = 2 * key by omega] at hs
    exact lt_scale hs (scale_pos 2152)
  | signed h w1 w2 m b1 b2 t e t3 e2 =>
    unfold NV numM numE
    have n1 : ¬ f.kind = 1 := by rw [h]; decide
    rw [if_neg n1, if_neg n1, if_neg n1, if_neg n1, if_pos h, if_pos h, if_pos h, if_pos h, Nat.add_zero f.man, mini_ex _ (by omega) (by omega) (by omega), mini_ex _ (by omega) (by omega) (by omega)]
    rw [show (2501 - f.bias - (f.man : Int)).toNat = (2501 - f.bias - ((f.man + 1 : Nat) : Int)).toNat + 1 by omega, Nat.pow_succ, pull2, ← mS_double]
    have hs := mS_succ (f.man + 1) (2 * (key - 1) + 1)
    rw [show 2 * (key - 1) + 1 + 1 = 2 * key by omega] at hs
    exact lt_scale hs (scale_pos _)
  | turned h w m t n i =>
    unfold NV numM numE
    have n1 : ¬ f.kind = 1 := by rw [h]; decide
    have n2 : ¬ f.kind = 2 := by rw [h]; decide
    rw [if_neg n1, if_neg n1, if_neg n1, if_neg n1, if_neg n2, if_neg n2, if_neg n2, if_neg n2, if_pos h, if_pos h, if_pos h, if_pos h, m, ex_five, ex_five]
    rw [show (-((6 : Nat) : Int) - ((0 : Nat) : Int) + 2500).toNat = (-((6 : Nat) : Int) - ((1 : Nat) : Int) + 2500).toNat + 1 by omega, Nat.pow_succ, Nat.mul_assoc key, pull2, Nat.mul_assoc (2 * _ + 1)]
    exact lt_scale (by omega) (scale_pos _)
  | scale h w b t n i =>
    unfold NV numM numE
    have n1 : ¬ f.kind = 1 := by rw [h]; decide
    have n2 : ¬ f.kind = 2 := by rw [h]; decide
    have n3 : ¬ f.kind = 3 := by rw [h]; decide
    rw [if_neg n1, if_neg n1, if_neg n1, if_neg n1, if_neg n2, if_neg n2, if_neg n2, if_neg n2, if_neg n3, if_neg n3, if_neg n3, if_neg n3, b, ex_five, ex_five]
    rw [show (2 * (key - 1) + 1) / 2 ^ 1 = key - 1 by omega, show key / 2 ^ 0 = key by simp]
    rw [show ((key : Int) - 127 - ((0 : Nat) : Int) + 2500).toNat = (((key - 1 : Nat) : Int) - 127 - ((1 : Nat) : Int) + 2500).toNat + 2 by omega, Nat.pow_add, Nat.mul_assoc (1 + 2 * 0), pull4, Nat.mul_assoc (1 + 2 * 1)]
    exact lt_scale (by omega) (scale_pos _)
end Go.Proofs.YtnlpkehllihllaaGreatDoor

/-
  The walks of posit.odd, posit.value, posit.Value.
-/
namespace Go.Proofs.YtnlpkehllihllaaGreatDoor
open Go.RowKit Go.Sort

theorem BTab.below {B : Nat} {w w' : World} (h : BTab w) (hb : Below B w w') (hs : 9 < B) : BTab w' := fun j hj => (hb.cell (p := ⟨9, j, none⟩) hs).trans (h j hj)
theorem BTab.drewN {w : World} (h : BTab w) (n : Nat) : BTab (w.drewN n) := h
theorem BTab.drew {w : World} (h : BTab w) : BTab w.drew := h
theorem ret_two_ui {a b : Nat} {x y : Int} (h1 : a = b) (h2 : x = y) : Ending.returned (.tuple #[U a, .int .i64 x]) = .returned (.tuple #[U b, .int .i64 y]) := by rw [h1, h2]
/-- posit.odd. -/
theorem podd_any (m : Nat) (e : Int) (w : World) (hm : m < 18446744073709551616) (e1 : -5000 ≤ e) (e2 : e ≤ 5000) (hT : BTab w) :
    Calls Tryz.prog 192 #[U m, .int .i64 e] w fun r w' => r = .returned (.tuple #[U (m / 2 ^ tz m), .int .i64 (e + tz m)]) ∧ w = w' := by
  have Tz := Lib.hid (tz_any m w hm hT)
  have htl := tz_le m hm
  obtain ⟨T, hTT⟩ : ∃ T, T = tz m := ⟨_, rfl⟩
  rw [← hTT] at Tz htl ⊢
  have eq1 : (m : Int) / 2 ^ T = ((m / 2 ^ T : Nat) : Int) := by simp
  obtain ⟨Y, hY⟩ : ∃ Y, Y = m / 2 ^ T := ⟨_, rfl⟩
  rw [← hY] at eq1 ⊢
  clear hTT hY hT
  go_enter Tryz.func192, Tryz.ntmps192
  go_wp2_with (go_at_call 141; (with_reducible refine (Tz.out).mono ?_); rintro r w' ⟨rfl, rfl⟩)
  go_ret2
  exact ⟨rfl, rfl⟩

/-- The fields of a magnitude. -/
theorem psplit (k key : Nat) (W : Int) (w : World) (hW : W = (k : Int) + 2) (k1 : 1 ≤ k) (k2 : k ≤ 63) (h0 : key ≠ 0) (hk : key < 2 ^ (k + 1)) :
    Calls Tryz.prog 191 #[.int .i64 W, .int .u64 key] w fun e w' => e = .returned (.agg #[.int .i64 (pReg k key), .int .i64 ((key % 2 ^ pL k key / 2 ^ (pL k key - 2) * 2 ^ (2 - pL k key) : Nat) : Int), U (key % 2 ^ pL k key % 2 ^ (pL k key - 2)), .int .i64 ((pL k key - 2 : Nat) : Int)]) ∧ Below w.heap.size w w' := by
  have hl := pL_le hk
  have hp1 : 2 ^ (k + 1) = 2 ^ k * 2 := Nat.pow_succ 2 k
  rcases Nat.lt_or_ge key (2 ^ k) with q | q
  · have p1 := blen_pos h0
    have hb := blen_bound q
    have eL : pL k key = blen key - 1 := by unfold pL; rw [if_pos q]
    have eR : pReg k key = (pL k key : Int) - k := by unfold pReg; rw [if_pos q]
    refine psplit_any k key (k - pL k key) (pL k key) W (pReg k key) w hW k1 k2 h0 hk (by omega) hl (by omega) (.inl ⟨q, by omega, rfl, by rw [eR]; omega⟩)
  · have hb : blen (2 ^ (k + 1) - 1 - key) ≤ k := blen_bound (by omega)
    have eL : pL k key = blen (2 ^ (k + 1) - 1 - key) - 1 := by unfold pL; rw [if_neg (by omega)]
    have eR : pReg k key = (k : Int) - blen (2 ^ (k + 1) - 1 - key) := by unfold pReg; rw [if_neg (by omega)]
    refine psplit_any k key (k + 1 - blen (2 ^ (k + 1) - 1 - key)) (pL k key) W (pReg k key) w hW k1 k2 h0 hk (by omega) hl (by omega) (.inr ⟨q, rfl, by rw [eR]; omega⟩)

theorem or_top {F n : Nat} (hF : F < 2 ^ n) (h : n < 64) : bits .or .u64 ((2 ^ n : Nat) : Int) (F : Int) = ((2 ^ n + F : Nat) : Int) := by
  have h64 : (2 : Nat) ^ 64 = 18446744073709551616 := rfl
  have h2 : (2 : Nat) ^ n < 2 ^ 64 := Nat.pow_lt_pow_right (by omega) h
  rw [u64_or_nat _ _ (by omega) (by omega)]
  congr 1
  have e := Nat.two_pow_add_eq_or_of_lt hF 1
  rw [Nat.mul_one] at e
  exact e.symm

set_option maxHeartbeats 3200000 in
set_option maxRecDepth 100000 in
/-- posit.value. -/
theorem pvalue_any (k key : Nat) (W : Int) (w : World) (hW : W = (k : Int) + 2) (k1 : 1 ≤ k) (k2 : k ≤ 63) (h0 : key ≠ 0) (hk : key < 2 ^ (k + 1)) (hT : BTab w) (hTs : 9 < w.heap.size) :
    Calls Tryz.prog 188 #[.int .i64 W, .int .u64 key] w fun e w' => e = .returned (.tuple #[U (pM k key / 2 ^ tz (pM k key)), .int .i64 (pE k key + tz (pM k key))]) ∧ Below w.heap.size w w' := by
  have Sp := Lib.hid (psplit k key W w hW k1 k2 h0 hk)
  have hpe := pE_bd k2 hk
  have hl := pL_le hk
  have hpr := pReg_le hk
  have hpm : pM k key = 2 ^ (pL k key - 2) + key % 2 ^ pL k key % 2 ^ (pL k key - 2) := rfl
  have hpE : pE k key = 4 * pReg k key + ((key % 2 ^ pL k key / 2 ^ (pL k key - 2) * 2 ^ (2 - pL k key) : Nat) : Int) - ((pL k key - 2 : Nat) : Int) := rfl
  have hX3 := exp_le (Nat.mod_lt key (Nat.two_pow_pos (pL k key)))
  have hF := Nat.mod_lt (key % 2 ^ pL k key) (Nat.two_pow_pos (pL k key - 2))
  obtain ⟨B, hB⟩ : ∃ B, B = pL k key - 2 := ⟨_, rfl⟩
  rw [← hB] at hpm hpE hX3 hF Sp
  obtain ⟨F, hFF⟩ : ∃ F, F = key % 2 ^ pL k key % 2 ^ B := ⟨_, rfl⟩
  rw [← hFF] at hF hpm Sp
  obtain ⟨X, hX⟩ : ∃ X, X = key % 2 ^ pL k key / 2 ^ B * 2 ^ (2 - pL k key) := ⟨_, rfl⟩
  rw [← hX] at hX3 hpE Sp
  obtain ⟨R, hR⟩ : ∃ R, R = pReg k key := ⟨_, rfl⟩
  rw [← hR] at hpr hpE Sp
  have hor := or_top hF (show B < 64 by omega)
  have hw2 := wrap_two (m := B) (by omega)
  have hM64 : pM k key < 18446744073709551616 := by
    have h2 : 2 ^ B ≤ 2 ^ 61 := Nat.pow_le_pow_right (by omega) (by omega)
    omega
  obtain ⟨P, hP⟩ : ∃ P, P = 2 ^ B := ⟨_, rfl⟩
  rw [← hP] at hpm hor hw2
  rw [← hpm] at hor
  obtain ⟨M, hM⟩ : ∃ M, M = pM k key := ⟨_, rfl⟩
  obtain ⟨E, hE⟩ : ∃ E, E = pE k key := ⟨_, rfl⟩
  rw [← hM] at hor hM64 ⊢
  rw [← hE] at hpe hpE ⊢
  have Od := Lib.hid fun W (hT : BTab W) => podd_any M E W hM64 (by omega) (by omega) hT
  have HE := Lib.hid hpE
  have b1 : (B : Int) ≤ 61 := by omega
  have b2 : (X : Int) ≤ 3 := by omega
  have HT := Lib.hid hT
  have m1 : IntKind.i64.wrap (R * 4) = R * 4 := by rw [IntKind.wrap_i64]; omega
  have m2 : IntKind.i64.wrap (R * 4 + X) = R * 4 + X := by rw [IntKind.wrap_i64]; omega
  have m3 : IntKind.i64.wrap (R * 4 + X - B) = E := by rw [IntKind.wrap_i64]; omega
  clear hpm hpE hB hFF hX hR hP hM hE hT h0 hF hW
  go_enter Tryz.func188, Tryz.ntmps188
  go_wp2_with (go_at_call 191; (with_reducible refine (Sp.out).mono ?_); rintro r w1 ⟨rfl, g1⟩)
  obtain ⟨wa, hwa⟩ : ∃ wa, wa = w1.alloc (.cells #[.int .i64 R, .int .i64 X, U F, .int .i64 B] 243) := ⟨_, rfl⟩
  have hka : Blk wa w1.heap.size 243 #[.int .i64 R, .int .i64 X, U F, .int .i64 B] := by rw [hwa]; exact Blk.new w1 _ _
  have hba : Below w1.heap.size w1 wa := by rw [hwa]; exact (Below.refl _ _).alloc (Nat.le_refl _) _
  have HB := Lib.hid (g1.trans (hba.mono g1.size))
  have HTa := Lib.hid (show BTab wa from HT.out.below HB.out hTs)
  rw [← hwa]
  clear hwa hba g1 HT
  have k0 : wa.cell? ⟨w1.heap.size, 0, none⟩ = some (.int .i64 R) := Blk.cell hka 0
  have k1' : wa.cell? ⟨w1.heap.size, 1, none⟩ = some (.int .i64 X) := Blk.cell hka 1
  have k2' : wa.cell? ⟨w1.heap.size, 2, none⟩ = some (U F) := Blk.cell hka 2
  have k3 : wa.cell? ⟨w1.heap.size, 3, none⟩ = some (.int .i64 B) := Blk.cell hka 3
  clear hka
  go_quiet ((go_at_call 192; exact Calls.quiet_of_same ((Od.out _ (HTa.out.drewN _)).mono fun _ _ h => ⟨h.1, h.2.symm⟩)))
  go_wp2_with fail
  go_ret2
  exact ⟨rfl, below_drewN HB.out _⟩
end Go.Proofs.YtnlpkehllihllaaGreatDoor

/-
  The walk of posit.Value: a defer with recover, where nothing is thrown.
-/
namespace Go.Proofs.YtnlpkehllihllaaGreatDoor
open Go.RowKit Go.Sort

/-- posit.caught, where nothing has been thrown. -/
theorem pcaught_idle (p : Addr) (w : World) :
    CallsD Tryz.prog 187 #[.pointer (some p)] .returning w fun e u' w' => e = .returned (.tuple #[]) ∧ u' = .returning ∧ w' = w := by
  refine callsD_of_wpS Tryz.func187 rfl fun c₀ cs hu => ?_
  apply wpS_seq
  apply wpS_region
  simp [wpOpsS, go_sem, recoverD, hu, Tryz.ntmps187, Exit.thenS]
  refine wpS_of_wp ?_
  go_wp2_with fail
  cases c₀
  simp_all [bodyPostS, results, Tryz.results187]

set_option maxHeartbeats 1600000 in
set_option maxRecDepth 100000 in
/-- posit.Value. -/
theorem pVal_any (k key : Nat) (W : Int) (w : World) (hW : W = (k : Int) + 2) (k1 : 1 ≤ k) (k2 : k ≤ 63) (h0 : key ≠ 0) (hk : key < 2 ^ (k + 1)) (hT : BTab w) (hTs : 9 < w.heap.size) :
    Calls Tryz.prog 181 #[.int .i64 W, .int .u64 key] w fun e w' => e = .returned (.tuple #[U (pM k key / 2 ^ tz (pM k key)), .int .i64 (pE k key + tz (pM k key)), .int .i64 0]) ∧ Below w.heap.size w w' := by
  have Pv := Lib.hid fun w' hT' hs' => pvalue_any k key W w' hW k1 k2 h0 hk hT' hs'
  have HT := Lib.hid (show BTab (w.alloc (.cells #[.int .i64 0] 28)) from hT.below ((Below.refl _ _).alloc (Nat.le_refl _) _) hTs)
  have HTs := Lib.hid (show 9 < (w.alloc (.cells #[.int .i64 0] 28)).heap.size by simp; omega)
  obtain ⟨M, hM⟩ : ∃ M, M = pM k key / 2 ^ tz (pM k key) := ⟨_, rfl⟩
  obtain ⟨E, hE⟩ : ∃ E, E = pE k key + tz (pM k key) := ⟨_, rfl⟩
  rw [← hM, ← hE] at Pv ⊢
  clear hM hE hT hW h0 hk hTs
  go_enter_defers Tryz.func181, Tryz.ntmps181
  go_wp2_with fail
  ((with_reducible refine (Pv.out _ HT.out HTs.out).mono ?_); rintro r w1 ⟨rfl, g1⟩)
  have hk1 : Blk w1 w.heap.size 28 #[.int .i64 0] := Blk.below (Blk.new w 28 _) g1 (by simp)
  have hc : w1.cell? ⟨w.heap.size, 0, none⟩ = some (.int .i64 0) := Blk.cell hk1 0
  have hf : w1.frozen? ⟨w.heap.size, 0, none⟩ = false := Blk.frozen hk1 0
  have hs : (w1.setCell ⟨w.heap.size, 0, none⟩ (.int .i64 0)).cell? ⟨w.heap.size, 0, none⟩ = some (.int .i64 0) := Blk.cell (hk1.set_ 0 (.int .i64 0)) 0
  have hB : Below w.heap.size w (w1.setCell ⟨w.heap.size, 0, none⟩ (.int .i64 0)) := (((Below.refl _ _).alloc (Nat.le_refl _) _).trans (g1.mono (by simp))).setCell (Nat.le_refl _) _
  clear g1
  go_wp2_with fail
  refine leaves_cons (f := 187) (args := #[.pointer (some ⟨w.heap.size, 0, none⟩)]) (by simp) (by simp [go_sem]) ?_
  refine (pcaught_idle ⟨w.heap.size, 0, none⟩ _).mono ?_
  rintro e u' w'' ⟨rfl, rfl, rfl⟩
  simp [Leaves, settle, results, Tryz.results181, go_sem, hs, hB]
end Go.Proofs.YtnlpkehllihllaaGreatDoor

/-
  What the package-level variables hold; the walk of value.of.
-/
namespace Go.Proofs.YtnlpkehllihllaaGreatDoor
open Go.RowKit Go.Sort

/-- The function that tells a magnitude's number, of each kind. -/
def numFn (k : Int) : Nat := if k = 1 then 180 else if k = 2 then 182 else if k = 3 then 184 else 186
/-- What the map holds under a kind. -/
def numV (k : Int) : Value := if k = 0 then .nilFunc else .func (.func (numFn k)) #[] #[]
/-- The map of the ways of all kinds is laid. -/
def NTab (w : World) : Prop := ∃ (bm : Nat) (es : Array MapEntry) (clock : Nat), w.cell? ⟨2, 0, none⟩ = some (.map (some bm)) ∧ w.heap[bm]? = some (.map es clock) ∧
  ∀ (W : World) (k : Int), W.heap[bm]? = some (.map es clock) → 0 ≤ k → k ≤ 4 → (Instr.lookup 110 (.map (some bm)) (.int .i64 k) false).run Tryz.prog W = .ok (numV k) W
theorem NTab.below {w w' : World} (h : NTab w) (hb : Below w.heap.size w w') : NTab w' := by
  obtain ⟨bm, es, clock, h1, h2, h3⟩ := h
  have hbm : bm < w.heap.size := by
    rcases Nat.lt_or_ge bm w.heap.size with q | q
    · exact q
    · rw [Array.getElem?_eq_none q] at h2; cases h2
  exact ⟨bm, es, clock, (hb.cell (p := ⟨2, 0, none⟩) (World.block_lt_of_cell? _ _ h1)).trans h1, (hb.block bm hbm).trans h2, h3⟩
theorem NTab.drewN {w : World} (h : NTab w) (n : Nat) : NTab (w.drewN n) := h
theorem BTab.lt {w : World} (h : BTab w) : 9 < w.heap.size := World.block_lt_of_cell? _ _ (h 0 (by decide))
theorem FTab.lt {w : World} (h : FTab w) : 0 < w.heap.size := World.block_lt_of_cell? _ _ (h 0 0 (by decide) (by decide))
/-- What the package-level variables hold. -/
structure Env (w : World) : Prop where
  bt : BTab w
  ft : FTab w
  nt : NTab w
theorem Env.below {w w' : World} (h : Env w) (hb : Below w.heap.size w w') : Env w' := ⟨h.bt.below hb h.bt.lt, h.ft.below hb h.ft.lt, h.nt.below hb⟩
theorem Env.drewN {w : World} (h : Env w) (n : Nat) : Env (w.drewN n) := ⟨h.bt, h.ft, h.nt⟩
theorem Env.drew {w : World} (h : Env w) : Env w.drew := ⟨h.bt, h.ft, h.nt⟩

/-- A form's shape. -/
abbrev Fm.s (f : Fm) : Value := .agg #[.int .i64 f.kind, .int .i64 f.width, .int .i64 f.man, .int .i64 f.bias, U f.top, U f.inf, U f.nan, numV f.kind]
/-- The cells of a shape. -/
abbrev Fm.sc (f : Fm) : Array Value := #[.int .i64 f.kind, .int .i64 f.width, .int .i64 f.man, .int .i64 f.bias, U f.top, U f.inf, U f.nan, numV f.kind]

/-- Eight cells of one block written, one behind the other. -/
theorem stored8 {w w2 : World} {B b : Nat} {t : TypeId} {x0 x1 x2 x3 x4 x5 x6 x7 : Value} (hk : Blk w2 b t #[x0, x1, x2, x3, x4, x5, x6, x7]) (hB : B ≤ b) (hb : Below B w w2) (a0 a1 a2 a3 a4 a5 a6 a7 : Value) :
    ∃ w4, (((((((w2.setCell ⟨b, 0, none⟩ a0).setCell ⟨b, 1, none⟩ a1).setCell ⟨b, 2, none⟩ a2).setCell ⟨b, 3, none⟩ a3).setCell ⟨b, 4, none⟩ a4).setCell ⟨b, 5, none⟩ a5).setCell ⟨b, 6, none⟩ a6).setCell ⟨b, 7, none⟩ a7 = w4 ∧ Blk w4 b t #[a0, a1, a2, a3, a4, a5, a6, a7] ∧ Below B w w4 := by
  refine ⟨_, rfl, ?_, (((((((hb.setCell hB _).setCell hB _).setCell hB _).setCell hB _).setCell hB _).setCell hB _).setCell hB _).setCell hB _⟩
  have h := (((((((hk.set_ 0 a0).set_ 1 a1).set_ 2 a2).set_ 3 a3).set_ 4 a4).set_ 5 a5).set_ 6 a6).set_ 7 a7
  simpa using h
theorem run_lookup (w : World) (h : NTab w) : ∃ bm, w.cell? ⟨2, 0, none⟩ = some (.map (some bm)) ∧ ∀ W, Below w.heap.size w W → W.cell? ⟨2, 0, none⟩ = some (.map (some bm)) ∧ ∀ k, 0 ≤ k → k ≤ 4 → (Instr.lookup 110 (.map (some bm)) (.int .i64 k) false).run Tryz.prog W = .ok (numV k) W := by
  obtain ⟨bm, es, clock, h1, h2, h3⟩ := h
  have hbm : bm < w.heap.size := by
    rcases Nat.lt_or_ge bm w.heap.size with q | q
    · exact q
    · rw [Array.getElem?_eq_none q] at h2; cases h2
  exact ⟨bm, h1, fun W hb => ⟨(hb.cell (p := ⟨2, 0, none⟩) (World.block_lt_of_cell? _ _ h1)).trans h1, fun k k1 k2 => h3 W k ((hb.block bm hbm).trans h2) k1 k2⟩⟩

theorem numV_is (k : Int) : numV k = .nilFunc ∨ numV k = .func (.func (numFn k)) #[] #[] := by
  unfold numV
  split
  · exact .inl rfl
  · exact .inr rfl
theorem kind_bd {f : Fm} (h : FmIs f) : 1 ≤ f.kind ∧ f.kind ≤ 4 := by
  cases h <;> omega

set_option maxHeartbeats 3200000 in
set_option maxRecDepth 100000 in
/-- value.of, of whatever forms.Of gives. -/
theorem vof_of (f : Fm) (n e : Int) (w : World) (hE : Env w) (h1 : 0 ≤ f.kind) (h2 : f.kind ≤ 4)
    (Fo : ∀ w, Env w → Calls Tryz.prog 23 #[.int .i64 n] w fun r w' => r = .returned (.tuple #[f.v, .int .i64 e]) ∧ Below w.heap.size w w') :
    Calls Tryz.prog 25 #[.int .i64 n] w fun r w' => r = .returned (.tuple #[f.s, .int .i64 e]) ∧ Below w.heap.size w w' := by
  have hb0 : Below w.heap.size w (w.alloc (.cells #[.int .i64 0, .int .i64 0, .int .i64 0, .int .i64 0, .int .u64 0, .int .u64 0, .int .u64 0, .nilFunc] 61)) := (Below.refl _ _).alloc (Nat.le_refl _) _
  have HE := Lib.hid (hE.below hb0)
  have HF := Lib.hid Fo
  have HK := Lib.hid (Blk.new w 61 #[.int .i64 0, .int .i64 0, .int .i64 0, .int .i64 0, .int .u64 0, .int .u64 0, .int .u64 0, .nilFunc])
  have HB := Lib.hid hb0
  obtain ⟨nv, hnv⟩ : ∃ nv, nv = numV f.kind := ⟨_, rfl⟩
  have HNV := Lib.hid hnv
  obtain ⟨a0, a1, a2, a3, a4, a5, a6⟩ := f
  simp only at h1 h2 HNV
  show Calls Tryz.prog 25 #[.int .i64 n] w fun r w' => r = .returned (.tuple #[.agg #[.int .i64 a0, .int .i64 a1, .int .i64 a2, .int .i64 a3, U a4, U a5, U a6, numV a0], .int .i64 e]) ∧ Below w.heap.size w w'
  simp only at hnv
  rw [← hnv]
  have hor : nv = .nilFunc ∨ ∃ F, nv = .func (.func F) #[] #[] := by
    rw [hnv]
    rcases numV_is a0 with q | q
    · exact .inl q
    · exact .inr ⟨_, q⟩
  clear hnv hE hb0 Fo
  rcases hor with rfl | ⟨F, rfl⟩
  · go_enter Tryz.func25, Tryz.ntmps25
    go_wp2_with fail
    ((with_reducible refine (HF.out _ HE.out).mono ?_); rintro r w1 ⟨rfl, g1⟩)
    have hk1 : Blk w1 w.heap.size 61 #[.int .i64 0, .int .i64 0, .int .i64 0, .int .i64 0, .int .u64 0, .int .u64 0, .int .u64 0, .nilFunc] := Blk.below HK.out g1 HK.out.lt
    obtain ⟨wa, hwa⟩ : ∃ wa, wa = w1.alloc (.cells #[.int .i64 a0, .int .i64 a1, .int .i64 a2, .int .i64 a3, U a4, U a5, U a6] 55) := ⟨_, rfl⟩
    have hka : Blk wa w1.heap.size 55 #[.int .i64 a0, .int .i64 a1, .int .i64 a2, .int .i64 a3, U a4, U a5, U a6] := by rw [hwa]; exact Blk.new w1 _ _
    have hba : Below w1.heap.size w1 wa := by rw [hwa]; exact (Below.refl _ _).alloc (Nat.le_refl _) _
    have hkr : Blk wa w.heap.size 61 #[.int .i64 0, .int .i64 0, .int .i64 0, .int .i64 0, .int .u64 0, .int .u64 0, .int .u64 0, .nilFunc] := Blk.below hk1 hba hk1.lt
    have hB : Below w.heap.size w wa := HB.out.trans ((g1.trans (hba.mono g1.size)).mono HB.out.size)
    have HE2 := (HE.out.below (g1.trans (hba.mono g1.size)))
    obtain ⟨bm, hbm, hlk⟩ := run_lookup wa HE2.nt
    have hlk0 := (hlk wa (Below.refl _ _)).2 a0 h1 h2
    rw [← HNV.out] at hlk0
    have HKR := Lib.hid hkr
    have HBA := Lib.hid hB
    have k0 : wa.cell? ⟨w1.heap.size, 0, none⟩ = some (.int .i64 a0) := Blk.cell hka 0
    have k1 : wa.cell? ⟨w1.heap.size, 1, none⟩ = some (.int .i64 a1) := Blk.cell hka 1
    have k2 : wa.cell? ⟨w1.heap.size, 2, none⟩ = some (.int .i64 a2) := Blk.cell hka 2
    have k3 : wa.cell? ⟨w1.heap.size, 3, none⟩ = some (.int .i64 a3) := Blk.cell hka 3
    have k4 : wa.cell? ⟨w1.heap.size, 4, none⟩ = some (U a4) := Blk.cell hka 4
    have k5 : wa.cell? ⟨w1.heap.size, 5, none⟩ = some (U a5) := Blk.cell hka 5
    have k6 : wa.cell? ⟨w1.heap.size, 6, none⟩ = some (U a6) := Blk.cell hka 6
    have j0 : wa.cell? ⟨w.heap.size, 0, none⟩ = some (.int .i64 0) := Blk.cell hkr 0
    have j1 : wa.cell? ⟨w.heap.size, 1, none⟩ = some (.int .i64 0) := Blk.cell hkr 1
    have j2 : wa.cell? ⟨w.heap.size, 2, none⟩ = some (.int .i64 0) := Blk.cell hkr 2
    have j3 : wa.cell? ⟨w.heap.size, 3, none⟩ = some (.int .i64 0) := Blk.cell hkr 3
    have j4 : wa.cell? ⟨w.heap.size, 4, none⟩ = some (.int .u64 0) := Blk.cell hkr 4
    have j5 : wa.cell? ⟨w.heap.size, 5, none⟩ = some (.int .u64 0) := Blk.cell hkr 5
    have j6 : wa.cell? ⟨w.heap.size, 6, none⟩ = some (.int .u64 0) := Blk.cell hkr 6
    have j7 : wa.cell? ⟨w.heap.size, 7, none⟩ = some .nilFunc := Blk.cell hkr 7
    have q0 : ∀ o, wa.frozen? ⟨w.heap.size, o, none⟩ = false := fun o => Blk.frozen hkr o
    clear hka hba hk1 hkr hB HE2 hlk g1
    go_upto_region 2 with (fail)
    rw [← hwa]
    clear hwa
    go_cut [3] from 11 to 17 (fun x wz => x = .int .i64 e ∧ Hid (Blk wz w.heap.size 61 #[.int .i64 a0, .int .i64 a1, .int .i64 a2, .int .i64 a3, U a4, U a5, U a6, .nilFunc] ∧ Below w.heap.size w wz))
    case first =>
      go_wp2_with fail
      obtain ⟨w4, hw4, hk4, hb4⟩ := stored8 HKR.out (Nat.le_refl _) HBA.out (.int .i64 a0) (.int .i64 a1) (.int .i64 a2) (.int .i64 a3) (U a4) (U a5) (U a6) .nilFunc
      rw [hw4]
      go_meet
      exact ⟨rfl, Lib.hid ⟨hk4, hb4⟩⟩
    case rest =>
      obtain ⟨rfl, hwz⟩ := hcut
      obtain ⟨hk4, hb4⟩ := hwz.out
      have r0 := Blk.cell hk4 0
      have r1 := Blk.cell hk4 1
      have r2 := Blk.cell hk4 2
      have r3 := Blk.cell hk4 3
      have r4 := Blk.cell hk4 4
      have r5 := Blk.cell hk4 5
      have r6 := Blk.cell hk4 6
      have r7 := Blk.cell hk4 7
      clear k0 k1 k2 k3 k4 k5 k6 j0 j1 j2 j3 j4 j5 j6 j7 q0 hk4 hwz hbm hlk0
      go_wp2_with fail
      exact bodyPost_ret (v := .tuple #[.agg #[.int .i64 a0, .int .i64 a1, .int .i64 a2, .int .i64 a3, U a4, U a5, U a6, .nilFunc], .int .i64 e]) (by simp [results, Tryz.results25, go_sem, r0, r1, r2, r3, r4, r5, r6, r7]) rfl ⟨rfl, hb4⟩
  · go_enter Tryz.func25, Tryz.ntmps25
    go_wp2_with fail
    ((with_reducible refine (HF.out _ HE.out).mono ?_); rintro r w1 ⟨rfl, g1⟩)
    have hk1 : Blk w1 w.heap.size 61 #[.int .i64 0, .int .i64 0, .int .i64 0, .int .i64 0, .int .u64 0, .int .u64 0, .int .u64 0, .nilFunc] := Blk.below HK.out g1 HK.out.lt
    obtain ⟨wa, hwa⟩ : ∃ wa, wa = w1.alloc (.cells #[.int .i64 a0, .int .i64 a1, .int .i64 a2, .int .i64 a3, U a4, U a5, U a6] 55) := ⟨_, rfl⟩
    have hka : Blk wa w1.heap.size 55 #[.int .i64 a0, .int .i64 a1, .int .i64 a2, .int .i64 a3, U a4, U a5, U a6] := by rw [hwa]; exact Blk.new w1 _ _
    have hba : Below w1.heap.size w1 wa := by rw [hwa]; exact (Below.refl _ _).alloc (Nat.le_refl _) _
    have hkr : Blk wa w.heap.size 61 #[.int .i64 0, .int .i64 0, .int .i64 0, .int .i64 0, .int .u64 0, .int .u64 0, .int .u64 0, .nilFunc] := Blk.below hk1 hba hk1.lt
    have hB : Below w.heap.size w wa := HB.out.trans ((g1.trans (hba.mono g1.size)).mono HB.out.size)
    have HE2 := (HE.out.below (g1.trans (hba.mono g1.size)))
    obtain ⟨bm, hbm, hlk⟩ := run_lookup wa HE2.nt
    have hlk0 := (hlk wa (Below.refl _ _)).2 a0 h1 h2
    rw [← HNV.out] at hlk0
    have HKR := Lib.hid hkr
    have HBA := Lib.hid hB
    have k0 : wa.cell? ⟨w1.heap.size, 0, none⟩ = some (.int .i64 a0) := Blk.cell hka 0
    have k1 : wa.cell? ⟨w1.heap.size, 1, none⟩ = some (.int .i64 a1) := Blk.cell hka 1
    have k2 : wa.cell? ⟨w1.heap.size, 2, none⟩ = some (.int .i64 a2) := Blk.cell hka 2
    have k3 : wa.cell? ⟨w1.heap.size, 3, none⟩ = some (.int .i64 a3) := Blk.cell hka 3
    have k4 : wa.cell? ⟨w1.heap.size, 4, none⟩ = some (U a4) := Blk.cell hka 4
    have k5 : wa.cell? ⟨w1.heap.size, 5, none⟩ = some (U a5) := Blk.cell hka 5
    have k6 : wa.cell? ⟨w1.heap.size, 6, none⟩ = some (U a6) := Blk.cell hka 6
    have j0 : wa.cell? ⟨w.heap.size, 0, none⟩ = some (.int .i64 0) := Blk.cell hkr 0
    have j1 : wa.cell? ⟨w.heap.size, 1, none⟩ = some (.int .i64 0) := Blk.cell hkr 1
    have j2 : wa.cell? ⟨w.heap.size, 2, none⟩ = some (.int .i64 0) := Blk.cell hkr 2
    have j3 : wa.cell? ⟨w.heap.size, 3, none⟩ = some (.int .i64 0) := Blk.cell hkr 3
    have j4 : wa.cell? ⟨w.heap.size, 4, none⟩ = some (.int .u64 0) := Blk.cell hkr 4
    have j5 : wa.cell? ⟨w.heap.size, 5, none⟩ = some (.int .u64 0) := Blk.cell hkr 5
    have j6 : wa.cell? ⟨w.heap.size, 6, none⟩ = some (.int .u64 0) := Blk.cell hkr 6
    have j7 : wa.cell? ⟨w.heap.size, 7, none⟩ = some .nilFunc := Blk.cell hkr 7
    have q0 : ∀ o, wa.frozen? ⟨w.heap.size, o, none⟩ = false := fun o => Blk.frozen hkr o
    clear hka hba hk1 hkr hB HE2 hlk g1
    go_upto_region 2 with (fail)
    rw [← hwa]
    clear hwa
    go_cut [3] from 11 to 17 (fun x wz => x = .int .i64 e ∧ Hid (Blk wz w.heap.size 61 #[.int .i64 a0, .int .i64 a1, .int .i64 a2, .int .i64 a3, U a4, U a5, U a6, (.func (.func F) #[] #[])] ∧ Below w.heap.size w wz))
    case first =>
      go_wp2_with fail
      obtain ⟨w4, hw4, hk4, hb4⟩ := stored8 HKR.out (Nat.le_refl _) HBA.out (.int .i64 a0) (.int .i64 a1) (.int .i64 a2) (.int .i64 a3) (U a4) (U a5) (U a6) (.func (.func F) #[] #[])
      rw [hw4]
      go_meet
      exact ⟨rfl, Lib.hid ⟨hk4, hb4⟩⟩
    case rest =>
      obtain ⟨rfl, hwz⟩ := hcut
      obtain ⟨hk4, hb4⟩ := hwz.out
      have r0 := Blk.cell hk4 0
      have r1 := Blk.cell hk4 1
      have r2 := Blk.cell hk4 2
      have r3 := Blk.cell hk4 3
      have r4 := Blk.cell hk4 4
      have r5 := Blk.cell hk4 5
      have r6 := Blk.cell hk4 6
      have r7 := Blk.cell hk4 7
      clear k0 k1 k2 k3 k4 k5 k6 j0 j1 j2 j3 j4 j5 j6 j7 q0 hk4 hwz hbm hlk0
      go_wp2_with fail
      exact bodyPost_ret (v := .tuple #[.agg #[.int .i64 a0, .int .i64 a1, .int .i64 a2, .int .i64 a3, U a4, U a5, U a6, (.func (.func F) #[] #[])], .int .i64 e]) (by simp [results, Tryz.results25, go_sem, r0, r1, r2, r3, r4, r5, r6, r7]) rfl ⟨rfl, hb4⟩
end Go.Proofs.YtnlpkehllihllaaGreatDoor
