/-
  Plain law of what ten.check asks of a power, reckoned by the kernel.
-/
import Derived.Test.YtfciahfdmnnejaaDoorTops
namespace Go.Proofs.YtfciahfdmnnejaaDoor

def chkLow (k : Int) : Nat := if k < 0 then sigS k * 10 ^ k.natAbs else sigS k
def chkHigh (k : Int) : Nat := if k < 0 then (sigS k + 1) * 10 ^ k.natAbs else sigS k + 1
def chkPow (k : Int) : Nat := if k < 0 then 1 else 10 ^ k.natAbs
def chkAt (k : Int) : Bool :=
  let e := sigE k
  decide (chkLow k * 2 ^ e.toNat ≤ chkPow k * 2 ^ (-e).toNat) && decide (chkPow k * 2 ^ (-e).toNat < chkHigh k * 2 ^ e.toNat)
set_option maxRecDepth 100000 in
theorem chk_all : allTo (fun k => decide (k < -400) || decide (400 < k) || chkAt k) 841 = true := by decide +kernel
theorem chk_at {k : Int} (h1 : -400 ≤ k) (h2 : k ≤ 400) : chkLow k * 2 ^ (sigE k).toNat ≤ chkPow k * 2 ^ (-(sigE k)).toNat ∧ chkPow k * 2 ^ (-(sigE k)).toNat < chkHigh k * 2 ^ (sigE k).toNat := by
  have h := allTo_at _ 841 (k + 420).toNat chk_all (by omega)
  rw [show (((k + 420).toNat : Nat) : Int) - 420 = k by omega] at h
  have h3 : chkAt k = true := by simpa [show ¬ k < -400 by omega, show ¬ 400 < k by omega] using h
  unfold chkAt at h3
  simpa only [Bool.and_eq_true, decide_eq_true_eq] using h3
end Go.Proofs.YtfciahfdmnnejaaDoor
