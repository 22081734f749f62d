/-
  Plain laws of the significands, reckoned by the kernel: every power from -400 to 400.
-/
import Derived.Test.YtfciahfdmnnejaaDoorSigA
import Derived.Test.YtfciahfdmnnejaaDoorGoes
namespace Go.Proofs.YtfciahfdmnnejaaDoor

def topsAt (k : Int) : Bool :=
  let s := sigS k
  let e := sigE k
  decide (2 ^ 127 ≤ s) && decide (s < 2 ^ 128) && decide (e = lo2 k - 127) && (decide (k < 0) || decide (38 < k) || (decide (10 ^ k.natAbs * 2 ^ (-e).toNat = s)))
def nextAt (k : Int) : Bool :=
  let s := sigS k
  let t := sigS (k + 1)
  let d := sigE (k + 1) - sigE k
  (decide (d = 3) || decide (d = 4)) && decide (s * 10 < (t + 1) * 2 ^ d.toNat) && decide (t * 2 ^ d.toNat < (s + 1) * 10)
def allTo (p : Int → Bool) : Nat → Bool
  | 0 => true
  | i + 1 => p ((i : Int) - 420) && allTo p i
theorem allTo_at (p : Int → Bool) : ∀ (m i : Nat), allTo p m = true → i < m → p ((i : Int) - 420) = true
  | m + 1, i, h, hi => by
    rw [allTo, Bool.and_eq_true] at h
    rcases Nat.lt_or_ge i m with h1 | h1
    · exact allTo_at p m i h.2 h1
    · obtain rfl : i = m := by omega
      exact h.1
set_option maxRecDepth 100000 in
theorem tops_all : allTo (fun k => decide (k < -400) || decide (400 < k) || topsAt k) 841 = true := by decide +kernel
set_option maxRecDepth 100000 in
theorem next_all : allTo (fun k => decide (k < -400) || decide (399 < k) || nextAt k) 841 = true := by decide +kernel
theorem tops_at {k : Int} (h1 : -400 ≤ k) (h2 : k ≤ 400) : topsAt k = true := by
  have h := allTo_at _ 841 (k + 420).toNat tops_all (by omega)
  rw [show (((k + 420).toNat : Nat) : Int) - 420 = k by omega] at h
  simpa [show ¬ k < -400 by omega, show ¬ 400 < k by omega] using h
theorem next_at {k : Int} (h1 : -400 ≤ k) (h2 : k ≤ 399) : nextAt k = true := by
  have h := allTo_at _ 841 (k + 420).toNat next_all (by omega)
  rw [show (((k + 420).toNat : Nat) : Int) - 420 = k by omega] at h
  simpa [show ¬ k < -400 by omega, show ¬ 399 < k by omega] using h
theorem sig_range {k : Int} (h1 : -400 ≤ k) (h2 : k ≤ 400) : 2 ^ 127 ≤ sigS k ∧ sigS k < 2 ^ 128 ∧ sigE k = lo2 k - 127 := by
  have h := tops_at h1 h2
  unfold topsAt at h
  simp only [Bool.and_eq_true, decide_eq_true_eq] at h
  exact ⟨h.1.1.1, h.1.1.2, h.1.2⟩
theorem sig_exact {n : Nat} (h : n ≤ 38) : 10 ^ n * 2 ^ (-(sigE n)).toNat = sigS n := by
  have h := tops_at (k := (n : Int)) (by omega) (by omega)
  unfold topsAt at h
  simp only [Bool.and_eq_true, Bool.or_eq_true, decide_eq_true_eq] at h
  rcases h.2 with (h3 | h3) | h3
  · omega
  · omega
  · rwa [Int.natAbs_natCast] at h3
end Go.Proofs.YtfciahfdmnnejaaDoor
