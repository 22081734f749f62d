/-
  A part of the proofs that calipertop.TopBack, TopFloats and TopNearest return true for every input and leave it as it was: part 39 of 47.
-/
import Derived.Test.YtnlpkehllihllaaGreatDoorGt20
/-
  Plain law: the shortest digits of a double are seventeen at most.
-/
namespace Go.Proofs.YtnlpkehllihllaaGreatDoor
open Go.RowKit Go.Sort

theorem mS_gap (key : Nat) (h : 1 ≤ key) : 10000000000000000 * mS 53 (2 * key - 1) + mS 53 (2 * key) < 10000000000000000 * mS 53 (2 * key + 1) := by
  obtain ⟨q, hq⟩ : ∃ q, q = 2 * key / 9007199254740992 := ⟨_, rfl⟩
  obtain ⟨r, hr⟩ : ∃ r, r = 2 * key % 9007199254740992 := ⟨_, rfl⟩
  have e53 : (2 : Nat) ^ 53 = 9007199254740992 := by decide
  have a1 : (2 * key + 1) / 9007199254740992 = q := by omega
  have a2 : (2 * key + 1) % 9007199254740992 = r + 1 := by omega
  unfold mS mmS
  rw [e53, a1, a2, ← hq, ← hr]
  by_cases h0 : r = 0
  · have hq1 : 1 ≤ q := by omega
    have b1 : (2 * key - 1) / 9007199254740992 = q - 1 := by omega
    have b2 : (2 * key - 1) % 9007199254740992 = 9007199254740991 := by omega
    rw [b1, b2, h0]
    rcases Nat.lt_or_ge q 2 with q2 | q2
    · obtain rfl : q = 1 := by omega
      decide
    · rw [if_neg (by omega), if_neg (by omega), show max (q - 1) 1 - 1 = q - 2 by omega, show max q 1 - 1 = (q - 2) + 1 by omega, Nat.pow_succ]
      have hu := Nat.two_pow_pos (q - 2)
      generalize 2 ^ (q - 2) = u at *
      omega
  · have b1 : (2 * key - 1) / 9007199254740992 = q := by omega
    have b2 : (2 * key - 1) % 9007199254740992 = r - 1 := by omega
    rw [b1, b2]
    have hu := Nat.two_pow_pos (max q 1 - 1)
    generalize 2 ^ (max q 1 - 1) = u at *
    have hr2 : r < 9007199254740992 := by omega
    obtain ⟨M, hM, hM2⟩ : ∃ M, M = (if q = 0 then 0 else 9007199254740992) ∧ M ≤ 9007199254740992 := ⟨_, rfl, by split <;> omega⟩
    rw [← hM]
    obtain ⟨t, ht⟩ : ∃ t, t = M + (r - 1) := ⟨_, rfl⟩
    rw [show M + (r + 1) = t + 2 by omega, show M + r = t + 1 by omega, ← ht, Nat.add_mul, Nat.add_mul]
    have h1 : (t + 1) * u < 20000000000000000 * u := Nat.mul_lt_mul_of_pos_right (by omega) hu
    rw [Nat.add_mul] at h1
    omega
theorem gap14 {key : Nat} (h : 1 ≤ key) : 10000000000000000 * BV (formAt 14) (key - 1) + VV (formAt 14) key < 10000000000000000 * BV (formAt 14) key := by
  have g := mS_gap key h
  obtain ⟨f, hf⟩ : ∃ f, f = formAt 14 := ⟨_, rfl⟩
  have k2 : f.kind = 2 := by rw [hf]; decide
  have k1 : f.kind ≠ 1 := by omega
  have km : f.man = 52 := by rw [hf]; decide
  have kb : f.bias = 1023 := by rw [hf]; decide
  rw [← hf]
  clear hf
  obtain ⟨N, hN⟩ : ∃ N, N = ((2501 : Int) - 1023 - ((53 : Nat) : Int)).toNat := ⟨_, rfl⟩
  have hN2 : ((2501 : Int) - 1023 - ((52 : Nat) : Int)).toNat = N + 1 := by rw [hN]; decide
  have e0 : ∀ j, NV f 1 j = mS 53 j * (2 ^ N * five25) := fun j => by
    unfold NV numM numE
    rw [if_neg k1, if_pos k2, if_neg k1, if_pos k2, km, kb, show 52 + 1 = 53 from rfl, mini_ex (m := 53) (b := 1023) _ (by decide) (by decide) (by decide), hN]
  have e3 : VV f key = mS 53 (2 * key) * (2 ^ N * five25) := by
    unfold VV NV numM numE
    rw [if_neg k1, if_pos k2, if_neg k1, if_pos k2, km, kb, Nat.add_zero, mini_ex (m := 52) (b := 1023) _ (by decide) (by decide) (by decide), mS_double, hN2, Nat.pow_succ]
    generalize 2 ^ N = x
    generalize five25 = y
    ac_rfl
  have hc := scale_pos N
  unfold BV
  rw [e0, e0, e3, show 2 * (key - 1) + 1 = 2 * key - 1 by omega]
  generalize 2 ^ N * five25 = C at *
  have h2 := Nat.mul_lt_mul_of_pos_right g hc
  rw [Nat.add_mul] at h2
  rw [← Nat.mul_assoc, ← Nat.mul_assoc]
  exact h2
theorem short17 {p D : Nat} {K : Int} (hp : p < 2 ^ (formAt 14).width) (hc : clsI (formAt 14) p (pKey (formAt 14) p) = 2) (h : ShortIs (pLo 14 p) (pHi 14 p) (pEv 14 p) (pX 14 p) D K) : (textL D).length ≤ 17 := by
  have hX := holds_p (by omega) (by omega) hp hc
  obtain ⟨q1, q2, q3, q4⟩ := cls_fin (form_is (by omega) (by omega)) hp hc
  obtain ⟨L, k, d, j, hL, hF, e, m, rfl⟩ := h
  have hl1 := hL.2.2.1
  have hk1 : 1 ≤ pKey (formAt 14) p := by
    rcases q2 with q | q
    · omega
    · exact absurd q (by decide)
  have hgap := gap14 hk1
  have hlo : pLo 14 p = BV (formAt 14) (pKey (formAt 14) p - 1) := by unfold pLo lowB; rw [if_pos]; exact hk1
  have hhi : pHi 14 p = BV (formAt 14) (pKey (formAt 14) p) := by unfold pHi highB; rw [if_pos]; exact .inr ⟨by decide, by decide⟩
  have hxx : pX 14 p = VV (formAt 14) (pKey (formAt 14) p) := rfl
  rw [← hlo, ← hhi, ← hxx] at hgap
  have hhp : pHi 14 p ≠ 0 := by rw [hhi]; have := bv_pos (formAt 14) (pKey (formAt 14) p); omega
  obtain ⟨z1, z2, z3⟩ := hX
  generalize pLo 14 p = lo at *
  generalize pHi 14 p = hi at *
  generalize pX 14 p = X at *
  generalize pEv 14 p = ev at *
  have hk : L - 16 ≤ k := by
    rcases Int.lt_or_le k (L - 16) with q | q
    · exfalso
      obtain ⟨n1, n2⟩ := hF.none (L - 16) q (by omega)
      have hT : TT L = TT (L - 16) * 10 ^ 16 := by
        have := TT_add (k := L - 16) 16 (by omega)
        rwa [show L - 16 + ((16 : Nat) : Int) = L by omega] at this
      have hTX := hL.1
      change TT L ≤ X at hTX
      rw [hT, show (10 : Nat) ^ 16 = 10000000000000000 from rfl] at hTX
      have hTp := TT_pos (L - 16)
      generalize TT (L - 16) = T at *
      have hd := Nat.div_add_mod X T
      have hmd := Nat.mod_lt X hTp
      rw [Nat.mul_comm] at hd
      unfold oneB at n1
      unfold twoB at n2
      rw [Nat.add_mul, Nat.one_mul] at n2
      unfold inI at n1 n2
      generalize X / T * T = a at *
      generalize X % T = r at *
      simp only [Bool.and_eq_false_iff, Bool.or_eq_false_iff, decide_eq_false_iff_not] at n1 n2
      omega
    · exact q
  obtain ⟨f1, f2⟩ := found_le hL hF
  have h17 : 10 ^ (L + 1 - k).toNat ≤ 10 ^ 17 := Nat.pow_le_pow_right (by omega) (by omega)
  have h10 : 0 < 10 ^ j := Nat.pow_pos (by omega)
  have hDd : D ≤ d := by rw [← e]; exact Nat.le_mul_of_pos_right _ h10
  have hD : D ≠ 0 := fun q => by rw [q] at m; exact m rfl
  have hne : D ≠ 10 ^ 17 := fun q => m (by rw [q])
  obtain ⟨t1, t2⟩ := textL_len D hD
  rcases Nat.lt_or_ge 17 (textL D).length with q | q
  · have h18 : 10 ^ 17 ≤ 10 ^ ((textL D).length - 1) := Nat.pow_le_pow_right (by omega) (by omega)
    omega
  · exact q
end Go.Proofs.YtnlpkehllihllaaGreatDoor
