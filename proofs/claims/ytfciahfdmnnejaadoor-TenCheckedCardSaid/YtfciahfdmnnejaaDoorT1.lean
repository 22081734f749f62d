/-
  The walk of nat.trim.
-/
import Derived.Test.YtfciahfdmnnejaaDoorMem
import Derived.WalkSpells
import Derived.Lib.Hide
namespace Go.Proofs.YtfciahfdmnnejaaDoor
open Go.RowKit

set_option maxHeartbeats 400000 in
/-- nat.trim: the same address, up to the last word that is not 0. -/
theorem trim_any (A : Option Addr) (n c : Nat) (ws : List Nat) (w : World) (hr : RW w A ws) (hl : ws.length = n) (hc : n ≤ c) (hm : c ≤ maxLen) :
    Calls Tryd.prog 35 #[.slice A n c] w fun e w' => e = .returned (.slice A (tl ws n) (tl ws n)) ∧ w = w' := by
  unfold maxLen at hm
  have Hl := Lib.hid hl
  clear hl
  go_enter Tryd.func35, Tryd.ntmps35
  go_wp2
  go_loop [3] (fun i => ∃ k : Nat, k ≤ n ∧ i = .int .i64 k ∧ Hid (tl ws n = tl ws k)) (fun i => (intOf i).toNat)
  case atStart => exact ⟨n, Nat.le_refl _, rfl, rfl⟩
  case round =>
    obtain ⟨k, hk, rfl, ht⟩ := hrel
    by_cases h0 : k = 0
    · subst h0
      have e0 := Lib.hid (show tl ws n = 0 from ht.out)
      go_wp2
      go_ret
      rw [e0.out]; exact ⟨rfl, rfl⟩
    · obtain ⟨b, off, rfl, hb, hcell⟩ := hr.at_ (k := k - 1) (by rw [Hl.out]; omega)
      obtain ⟨m, rfl⟩ : ∃ m, k = m + 1 := ⟨k - 1, by omega⟩
      have hcm := hcell m (by rw [Hl.out]; omega)
      obtain ⟨x, hx⟩ : ∃ x : Nat, x = ws.getD m 0 := ⟨_, rfl⟩
      rw [← hx] at hcm
      have Hx := Lib.hid hx
      clear hx hcell
      by_cases hz : x = 0
      · subst hz
        go_wp2
        go_round
        case rel => exact ⟨m, by omega, rfl, by rw [ht.out]; exact tl_hit _ _ Hx.out.symm⟩
        case measure => simp [intOf]
      · have hz' : ((x : Int) == 0) = false := by simp; omega
        have e0 := ht.out
        rw [tl_miss _ _ (by rw [← Hx.out]; exact hz)] at e0
        have E0 := Lib.hid e0
        clear e0
        go_wp2
        go_ret
        rw [E0.out]; exact ⟨rfl, rfl⟩
end Go.Proofs.YtfciahfdmnnejaaDoor
