/-
  The walk of caliperlaw03.TenSignificands.
-/
import Derived.Test.YtfciahfdmnnejaaDoorRefL
import Derived.Test.YtfciahfdmnnejaaDoorRSig
namespace Go.Proofs.YtfciahfdmnnejaaDoor
open Go.RowKit Go.Sort

set_option maxHeartbeats 1600000 in
set_option maxRecDepth 100000 in
theorem tenSignificands_any (n : Int) (w : World) (htab : Tab w) :
    Calls Tryd.prog 4 #[.int .i64 n] w fun e w' => e = .returned (.bool true) ∧ Below w.heap.size w w' := by
  obtain ⟨K, hK⟩ : ∃ K, K = n.tmod 421 := ⟨_, rfl⟩
  have h1 : -420 ≤ K := by rw [hK]; have := Int.lt_tmod_of_pos n (show (0 : Int) < 421 by omega); omega
  have h2 : K ≤ 420 := by rw [hK]; have := Int.tmod_lt_of_pos n (show (0 : Int) < 421 by omega); omega
  have hN0 : n.tmod 421 = K := hK.symm
  clear hK
  by_cases hk : -400 ≤ K ∧ K ≤ 400
  · obtain ⟨k1, k2⟩ := hk
    obtain ⟨hi, lo, a1, a2, a3, a4, a5⟩ := sig_words k1 k2
    have hr := ref_at k1 k2
    have he := (sig_range k1 k2).2.2
    have i1 : -4000 ≤ lo2 K - 127 := by unfold lo2 cutI; omega
    have i2 : lo2 K - 127 ≤ 4000 := by unfold lo2 cutI; omega
    unfold refAt at hr
    simp only [Bool.and_eq_true] at hr
    rw [he] at hr
    obtain ⟨e, hE⟩ : ∃ e, e = lo2 K - 127 := ⟨_, rfl⟩
    rw [← hE] at hr i1 i2 a5
    have R := Lib.hid fun W => rsig_any K e hi lo (sigS K) W k1 k2 a1 a2 a3 a4 (by omega) (by omega) hr.1 hr.2
    have Sg := Lib.hid a5
    clear hr he hE a4 a5
    go_enter Tryd.func4, Tryd.ntmps4
    go_wp2_with fail
    refine (shown_any _ htab).mono ?_
    rintro r w1 ⟨rfl, g1⟩
    go_wp2_with fail
    refine (Sg.out _).mono ?_
    rintro r w2 ⟨rfl, g2⟩
    have b2 := g1.trans (g2.mono g1.size)
    go_wp2_with fail
    refine (R.out _).mono ?_
    rintro r w3 ⟨rfl, g3⟩
    have b3 := b2.trans (g3.mono b2.size)
    clear g1 g2 g3 b2
    go_wp2
    go_ret
    exact ⟨rfl, b3⟩
  · have hf : K < -400 ∨ 400 < K := by omega
    have Sg := Lib.hid fun W => sig_far K W hf
    have R := Lib.hid fun W => rsig_far K W hf
    clear hf hk
    go_enter Tryd.func4, Tryd.ntmps4
    go_wp2_with fail
    refine (shown_any _ htab).mono ?_
    rintro r w1 ⟨rfl, g1⟩
    go_wp2_with fail
    refine (Sg.out _).mono ?_
    rintro r w2 ⟨rfl, rfl⟩
    go_wp2_with fail
    refine (R.out _).mono ?_
    rintro r w3 ⟨rfl, rfl⟩
    go_wp2
    go_ret
    exact ⟨rfl, g1⟩
end Go.Proofs.YtfciahfdmnnejaaDoor
