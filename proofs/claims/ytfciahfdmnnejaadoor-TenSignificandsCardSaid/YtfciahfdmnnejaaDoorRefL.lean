/-
  Plain law of the significands against the document's answer, reckoned by the kernel.
-/
import Derived.Test.YtfciahfdmnnejaaDoorR10
import Derived.Test.YtfciahfdmnnejaaDoorTops
namespace Go.Proofs.YtfciahfdmnnejaaDoor
open Go.RowKit Go.Sort

def refAt (k : Int) : Bool :=
  let s := sigS k
  let e := sigE k
  decide (crossI s e 0 1 k k ≤ 0) && decide (crossI 1 k k (s + 1) e 0 < 0)
set_option maxRecDepth 100000 in
theorem ref_all : allTo (fun k => decide (k < -400) || decide (400 < k) || refAt k) 841 = true := by decide +kernel
theorem ref_at {k : Int} (h1 : -400 ≤ k) (h2 : k ≤ 400) : refAt k = true := by
  have h := allTo_at _ 841 (k + 420).toNat ref_all (by omega)
  rw [show (((k + 420).toNat : Nat) : Int) - 420 = k by omega] at h
  simpa [show ¬ k < -400 by omega, show ¬ 400 < k by omega] using h
end Go.Proofs.YtfciahfdmnnejaaDoor
