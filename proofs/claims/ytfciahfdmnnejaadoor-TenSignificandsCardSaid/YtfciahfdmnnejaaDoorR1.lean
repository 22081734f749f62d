/-
  The document's small functions over half words: Trim, get, Compare; a slice that reads as a number in half words.
-/
import Derived.Test.YtfciahfdmnnejaaDoorHNat
import Derived.Test.YtfciahfdmnnejaaDoorCut
namespace Go.Proofs.YtfciahfdmnnejaaDoor
open Go.RowKit Go.Sort

/-- A slice that reads as the number x in half words, without noughts at the end. -/
def HN (w : World) (v : Value) (x : Nat) : Prop := ∃ A c, v = .slice A (H.lw x) c ∧ H.lw x ≤ c ∧ c ≤ maxLen ∧ RW w A (H.wds x)
theorem HN.below {w w' : World} {v : Value} {x : Nat} (h : HN w v x) (hb : Below w.heap.size w w') : HN w' v x := by
  obtain ⟨A, c, e, h1, h2, h3⟩ := h
  exact ⟨A, c, e, h1, h2, h3.below hb⟩
theorem HN.drewN {w : World} {v : Value} {x : Nat} (h : HN w v x) (n : Nat) : HN (w.drewN n) v x := h
theorem htl : ∀ (ws : List Nat) (n : Nat), H.tl ws n = tl ws n
  | _, 0 => rfl
  | ws, n + 1 => by rw [H.tl, tl, htl ws n]

set_option maxHeartbeats 400000 in
/-- caliperref01.Trim: the same address, up to the last word that is not 0. -/
theorem rtrim_any (A : Option Addr) (n c : Nat) (ws : List Nat) (w : World) (hr : RW w A ws) (hl : ws.length = n) (hc : n ≤ c) (hm : c ≤ maxLen) :
    Calls Tryd.prog 81 #[.slice A n c] w fun e w' => e = .returned (.slice A (tl ws n) c) ∧ w = w' := by
  unfold maxLen at hm
  have Hl := Lib.hid hl
  clear hl
  go_enter Tryd.func81, Tryd.ntmps81
  go_wp2
  go_loop [3] (fun i => ∃ k : Nat, k ≤ n ∧ i = .int .i64 k ∧ Hid (tl ws n = tl ws k)) (fun i => (intOf i).toNat)
  case atStart => exact ⟨n, Nat.le_refl _, rfl, rfl⟩
  case round =>
    obtain ⟨k, hk, rfl, ht⟩ := hrel
    by_cases h0 : k = 0
    · subst h0
      have e0 := Lib.hid (show tl ws n = 0 from ht.out)
      go_wp2
      go_ret
      rw [e0.out]; exact ⟨rfl, rfl⟩
    · obtain ⟨b, off, rfl, hb, hcell⟩ := hr.at_ (k := k - 1) (by rw [Hl.out]; omega)
      obtain ⟨m, rfl⟩ : ∃ m, k = m + 1 := ⟨k - 1, by omega⟩
      have hcm := hcell m (by rw [Hl.out]; omega)
      obtain ⟨x, hx⟩ : ∃ x : Nat, x = ws.getD m 0 := ⟨_, rfl⟩
      rw [← hx] at hcm
      have Hx := Lib.hid hx
      clear hx hcell
      by_cases hz : x = 0
      · subst hz
        go_wp2
        go_round
        case rel => exact ⟨m, by omega, rfl, by rw [ht.out]; exact tl_hit _ _ Hx.out.symm⟩
        case measure => simp [intOf]
      · have hz' : ((x : Int) == 0) = false := by simp; omega
        have e0 := ht.out
        rw [tl_miss _ _ (by rw [← Hx.out]; exact hz)] at e0
        have E0 := Lib.hid e0
        clear e0
        go_wp2
        go_ret
        rw [E0.out]; exact ⟨rfl, rfl⟩

set_option maxHeartbeats 400000 in
/-- caliperref01.get: the half word at a place; 0 behind the last one. -/
theorem rget_any (A : Option Addr) (n c : Nat) (ws : List Nat) (i : Int) (w : World) (hr : RW w A ws) (hl : ws.length = n) (hi0 : 0 ≤ i) (hi : i ≤ 9223372036854775807) :
    Calls Tryd.prog 82 #[.slice A n c, .int .i64 i] w fun e w' => e = .returned (U (ws.getD i.toNat 0)) ∧ w = w' := by
  have Hl := Lib.hid hl
  clear hl
  by_cases h : i < n
  · obtain ⟨b, off, rfl, hb, hcell⟩ := hr.at_ (k := i.toNat) (by rw [Hl.out]; omega)
    have hcm := hcell i.toNat (by rw [Hl.out]; omega)
    obtain ⟨x, hx⟩ : ∃ x : Nat, x = ws.getD i.toNat 0 := ⟨_, rfl⟩
    rw [← hx] at hcm
    have Hx := Lib.hid hx
    rw [← hx]
    clear hx hcell
    go_enter Tryd.func82, Tryd.ntmps82
    go_wp2
    go_ret
    exact ⟨rfl, rfl⟩
  · have e : ws.getD i.toNat 0 = 0 := by rw [List.getD_eq_getElem?_getD, List.getElem?_eq_none (by rw [Hl.out]; omega)]; rfl
    rw [e]
    clear e
    go_enter Tryd.func82, Tryd.ntmps82
    go_wp2
    go_ret
    exact ⟨rfl, rfl⟩

/-- What Trim leaves of a row of half words is the number that they are worth. -/
theorem hn_of_rw {w : World} {A : Option Addr} {n c : Nat} {o : List Nat} (h : RW w A o) (hl : o.length = n) (ho : H.okw o) (hc : n ≤ c) (hn : c ≤ maxLen) : HN w (.slice A (tl o n) c) (H.val o) := by
  subst hl
  have e := H.tl_len ho
  rw [htl] at e
  refine ⟨A, c, by rw [e]; rfl, ?_, hn, ?_⟩
  · show (H.wds (H.val o)).length ≤ c
    rw [← e]
    exact Nat.le_trans (tl_le _ _) hc
  · rw [← H.take_tl ho, htl]; exact h.take _

theorem h_div_succ (x k : Nat) : x / H.bp k = 4294967296 * (x / H.bp (k + 1)) + (H.wds x).getD k 0 := by
  have e : x / H.bp (k + 1) = x / H.bp k / 4294967296 := by rw [H.bp_succ, Nat.mul_comm, ← Nat.div_div_eq_div_mul]
  rw [e, H.wds_at]
  omega
theorem h_less {x y k : Nat} (h : x / H.bp (k + 1) = y / H.bp (k + 1)) (h3 : (H.wds x).getD k 0 < (H.wds y).getD k 0) : x < y := by
  have h1 := h_div_succ x k
  have h2 := h_div_succ y k
  rw [h] at h1
  have h4 : x / H.bp k < y / H.bp k := by omega
  rcases Nat.lt_or_ge x y with h6 | h6
  · exact h6
  · have := Nat.div_le_div_right (c := H.bp k) h6; omega
theorem h_same {x y k : Nat} (h : x / H.bp (k + 1) = y / H.bp (k + 1)) (h3 : (H.wds x).getD k 0 = (H.wds y).getD k 0) : x / H.bp k = y / H.bp k := by
  rw [h_div_succ x k, h_div_succ y k, h, h3]

set_option maxHeartbeats 1600000 in
set_option maxRecDepth 100000 in
/-- caliperref01.Compare. -/
theorem rcompare_any (va vb : Value) (x y : Nat) (w : World) (ha : HN w va x) (hb : HN w vb y) :
    Calls Tryd.prog 66 #[va, vb] w fun e w' => e = .returned (.int .i64 (cmpI x y)) ∧ w = w' := by
  obtain ⟨A, ca, rfl, hca, hma, hra⟩ := ha
  obtain ⟨B, cb, rfl, hcb, hmb, hrb⟩ := hb
  unfold maxLen at hma hmb
  have GA := Lib.hid fun (i : Int) (h0 : 0 ≤ i) (h1 : i ≤ 9223372036854775807) => rget_any A (H.lw x) ca (H.wds x) i w hra rfl h0 h1
  have GB := Lib.hid fun (i : Int) (h0 : 0 ≤ i) (h1 : i ≤ 9223372036854775807) => rget_any B (H.lw y) cb (H.wds y) i w hrb rfl h0 h1
  have H0 : Hid (∀ k, H.lw x ≤ k → H.lw y ≤ k → x / H.bp k = y / H.bp k) := Lib.hid fun k h1 h2 => by
    rw [Nat.div_eq_of_lt (Nat.lt_of_lt_of_le (H.lw_lt x) (H.bp_mono h1)), Nat.div_eq_of_lt (Nat.lt_of_lt_of_le (H.lw_lt y) (H.bp_mono h2))]
  obtain ⟨M, hM⟩ : ∃ M : Nat, M = max (H.lw x) (H.lw y) := ⟨_, rfl⟩
  have hM1 : H.lw x ≤ M := by omega
  have hM2 : H.lw y ≤ M := by omega
  have hM3 : M ≤ 9223372036854775807 := by omega
  have hM4 : max ((H.lw x : Nat) : Int) ((H.lw y : Nat) : Int) = (M : Int) := by omega
  clear hra hrb hM
  go_enter Tryd.func66, Tryd.ntmps66
  go_wp2_with fail
  go_loopw [5] (fun l wr => ∃ k : Nat, l = .int .i64 k ∧ k ≤ M ∧ wr = w ∧ Hid (x / H.bp k = y / H.bp k)) (fun l _ => (intOf l).toNat)
  case atStart => exact ⟨M, rfl, Nat.le_refl _, rfl, Lib.hid (H0.out M hM1 hM2)⟩
  case round =>
    obtain ⟨k, rfl, hk, rfl, hd⟩ := hrel
    by_cases h0 : k = 0
    · subst h0
      have e := hd.out
      rw [H.bp_zero, Nat.div_one, Nat.div_one] at e
      subst e
      go_wp2
      go_ret
      exact ⟨by rw [cmpI_eq]; rfl, rfl⟩
    · obtain ⟨m, rfl⟩ : ∃ m, k = m + 1 := ⟨k - 1, by omega⟩
      have ga := GA.out (m : Int) (by omega) (by omega)
      have gb := GB.out (m : Int) (by omega) (by omega)
      rw [show ((m : Int)).toNat = m by omega] at ga gb
      obtain ⟨p, hp⟩ : ∃ p, p = (H.wds x).getD m 0 := ⟨_, rfl⟩
      obtain ⟨q, hq⟩ : ∃ q, q = (H.wds y).getD m 0 := ⟨_, rfl⟩
      rw [← hp] at ga
      rw [← hq] at gb
      have Ga := Lib.hid ga
      have Gb := Lib.hid gb
      have Hp := Lib.hid hp
      have Hq := Lib.hid hq
      clear hp hq ga gb
      rcases Nat.lt_trichotomy p q with hlt | heq | hgt
      · have t1 : decide ((p : Int) < (q : Int)) = true := by simp; omega
        have txpq : decide (p < q) = true := by simp; omega
        have hxy := h_less hd.out (by rw [← Hp.out, ← Hq.out]; exact hlt)
        have e : cmpI (x : Int) (y : Int) = -1 := cmpI_lt (by omega)
        have E := Lib.hid e
        clear hxy e hlt
        go_wp2_with fail
        refine Ga.out.mono ?_
        rintro e w3 ⟨rfl, rfl⟩
        go_wp2_with fail
        refine Gb.out.mono ?_
        rintro e w3 ⟨rfl, rfl⟩
        go_wp2
        go_ret
        exact ⟨by rw [E.out]; rfl, rfl⟩
      · have t1 : decide ((p : Int) < (q : Int)) = false := by simp; omega
        have txpq : decide (p < q) = false := by simp; omega
        have t2 : decide ((q : Int) < (p : Int)) = false := by simp; omega
        have txqp : decide (q < p) = false := by simp; omega
        have hn := Lib.hid (h_same hd.out (by rw [← Hp.out, ← Hq.out]; exact heq))
        clear heq
        go_wp2_with fail
        refine Ga.out.mono ?_
        rintro e w3 ⟨rfl, rfl⟩
        go_wp2_with fail
        refine Gb.out.mono ?_
        rintro e w3 ⟨rfl, rfl⟩
        go_wp2
        exact ⟨⟨m, rfl, by omega, trivial, hn⟩, by simp [intOf]⟩
      · have t1 : decide ((p : Int) < (q : Int)) = false := by simp; omega
        have txpq : decide (p < q) = false := by simp; omega
        have t2 : decide ((q : Int) < (p : Int)) = true := by simp; omega
        have txqp : decide (q < p) = true := by simp; omega
        have hxy := h_less (x := y) (y := x) hd.out.symm (by rw [← Hp.out, ← Hq.out]; exact hgt)
        have e : cmpI (x : Int) (y : Int) = 1 := cmpI_gt (by omega)
        have E := Lib.hid e
        clear hxy e hgt
        go_wp2_with fail
        refine Ga.out.mono ?_
        rintro e w3 ⟨rfl, rfl⟩
        go_wp2_with fail
        refine Gb.out.mono ?_
        rintro e w3 ⟨rfl, rfl⟩
        go_wp2
        go_ret
        exact ⟨by rw [E.out]; rfl, rfl⟩
end Go.Proofs.YtfciahfdmnnejaaDoor
