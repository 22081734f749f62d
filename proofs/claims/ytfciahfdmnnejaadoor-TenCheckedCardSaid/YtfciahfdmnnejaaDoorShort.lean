/-
  The walk of nat.short: a number divided by a word.
-/
import Derived.Test.YtfciahfdmnnejaaDoorDiv64
import Derived.Test.YtfciahfdmnnejaaDoorCmp
namespace Go.Proofs.YtfciahfdmnnejaaDoor
open Go.RowKit

theorem quo_rem {hi lo y : Nat} : hi * 18446744073709551616 + lo = y * quoN hi lo y + remN hi lo y := (Nat.div_add_mod _ _).symm
theorem drop_set {o : List Nat} {m q : Nat} (h : m < o.length) : (o.set m q).drop m = q :: o.drop (m + 1) := by
  rw [List.drop_eq_getElem_cons (by rw [List.length_set]; exact h), List.getElem_set_self, List.drop_set_of_lt (by omega)]
theorem short_step {x b m r : Nat} {o : List Nat} (hm : m < o.length) (h : x / bp (m + 1) = b * val (o.drop (m + 1)) + r) :
    x / bp m = b * val ((o.set m (quoN r ((wds x).getD m 0) b)).drop m) + remN r ((wds x).getD m 0) b := by
  have e := quo_rem (hi := r) (lo := (wds x).getD m 0) (y := b)
  rw [drop_set hm, val_cons, div_bp_succ x m, h, Nat.mul_add, Nat.mul_add, Nat.mul_left_comm]
  omega

set_option maxHeartbeats 1600000 in
set_option maxRecDepth 100000 in
/-- nat.short. -/
theorem short_any (va : Value) (x b : Nat) (w : World) (ha : Num w va x) (hb0 : 0 < b) (hb : b < 18446744073709551616) (hs : lw x ≤ 17592186044416) :
    Calls Tryd.prog 51 #[va, .int .u64 b] w fun e w' => ∃ v, e = .returned (.tuple #[v, .int .u64 ((x % b : Nat) : Int)]) ∧ Num w' v (x / b) ∧ (∃ n, v = .slice (some ⟨w.heap.size, 0, none⟩) n n) ∧ Below w.heap.size w w' := by
  obtain ⟨A, ca, rfl, hca, hma, hra⟩ := ha
  have hmk := fun W => make_nat (lw x) hs W
  go_enter Tryd.func51, Tryd.ntmps51
  go_wp2
  have hw0 : WB (w.alloc (.cells (madeCells #[.int .u64 0] (lw x)) 30)) w.heap.size (List.replicate (lw x) 0) := WB.made w _
  have hb1 : Below w.heap.size w (w.alloc (.cells (madeCells #[.int .u64 0] (lw x)) 30)) := (Below.refl _ _).alloc (Nat.le_refl _) _
  clear hmk
  go_loopw [7, 8] (fun r i wr => ∃ (k rn : Nat) (o : List Nat), k ≤ lw x ∧ i = .int .i64 ((k : Int) - 1) ∧ r = .int .u64 rn ∧ Hid (rn < b) ∧ Hid (WB wr w.heap.size o) ∧ Hid (o.length = lw x) ∧ Hid (okw o) ∧ Hid (x / bp k = b * val (o.drop k) + rn) ∧ Below w.heap.size w wr)
    (fun _ i _ => (intOf i + 1).toNat)
  case atStart => exact ⟨lw x, 0, _, Nat.le_refl _, rfl, rfl, hb0, hw0, List.length_replicate, okw_replicate _, Lib.hid (by rw [Nat.div_eq_of_lt (lw_lt x), List.drop_eq_nil_of_le (by simp)]; simp [val]), hb1⟩
  case round =>
    obtain ⟨k, rn, o, hk, rfl, rfl, hrb, ho1, ho2, ho3, ho4, hbe⟩ := hrel
    by_cases h0 : k = 0
    · subst h0
      go_wp2_with (go_at_call 35; refine (trim_any _ _ _ o _ ho1.out.rw_ ho2.out (Nat.le_refl _) (by unfold maxLen; omega)).mono ?_; rintro e w' ⟨rfl, rfl⟩)
      go_ret2
      have e := ho4.out
      rw [bp_zero, Nat.div_one, List.drop_zero] at e
      have e1 : x % b = rn := by rw [e, Nat.mul_add_mod]; exact Nat.mod_eq_of_lt hrb.out
      have e2 : x / b = val o := by rw [e, Nat.mul_add_div hb0, Nat.div_eq_of_lt hrb.out, Nat.add_zero]
      rw [e1, e2]
      exact ⟨_, rfl, num_of_wb ho1.out ho2.out ho3.out (by unfold maxLen; omega), ⟨_, rfl⟩, hbe⟩
    · obtain ⟨m, rfl⟩ : ∃ m, k = m + 1 := ⟨k - 1, by omega⟩
      obtain ⟨ba, oa, rfl, hba, hcella⟩ := hra.at_ (k := m) hk
      have hcx : wr.cell? ⟨ba, oa + m, none⟩ = some (U ((wds x).getD m 0)) := (hbe.cell (p := ⟨ba, oa + m, none⟩) hba).trans (hcella m hk)
      have hxw := wds_get x m
      have hstep := short_step (x := x) (b := b) (m := m) (r := rn) (o := o) (by rw [ho2.out]; exact hk) ho4.out
      obtain ⟨xi, hxi⟩ : ∃ xi : Nat, xi = (wds x).getD m 0 := ⟨_, rfl⟩
      rw [← hxi] at hcx hxw hstep
      have hq := quoN_lt (hi := rn) (lo := xi) (y := b) ⟨hrb.out, hxw⟩
      have hr := remN_lt (hi := rn) (lo := xi) (y := b) hrb.out
      have hco : wr.cell? ⟨w.heap.size, m, none⟩ = some (U (o.getD m 0)) := ho1.out.cell (by rw [ho2.out]; exact hk)
      have hfo : wr.frozen? ⟨w.heap.size, m, none⟩ = false := ho1.out.frozen _
      have ei : ((m + 1 : Nat) : Int) - 1 = (m : Int) := by omega
      have hd := div64_any rn xi b
      have Hstep := Lib.hid hstep
      have Hd := Lib.hid hd
      rw [ei]
      clear hxi hcella ei hstep hd
      go_wp2_with (go_at_call 72; refine (Hd.out _ hrb.out hxw hb).mono ?_; rintro e w' ⟨rfl, n, rfl⟩)
      go_roundw
      case rel =>
        exact ⟨m, remN rn xi b, o.set m (quoN rn xi b), by omega, by go_num, rfl, hr, (WB.set_ ho1.out _ _).drewN n, Lib.hid (by rw [List.length_set]; exact ho2.out), okw_set ho3.out _ _ hq, Hstep, below_drewN (hbe.setCell (Nat.le_refl _) _) n⟩
      case measure => simp [intOf]
end Go.Proofs.YtfciahfdmnnejaaDoor
