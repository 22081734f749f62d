/-
  Sums of half words: caliperref01.Plus, caliperref01.Add.
-/
import Derived.Test.YtfciahfdmnnejaaDoorR9
namespace Go.Proofs.YtfciahfdmnnejaaDoor
open Go.RowKit Go.Sort

theorem h_lw_half (x : Nat) : H.lw x ≤ 2 * lw x := H.lw_le (by rw [← bp_half]; exact lw_lt x)
theorem h_add_step {lo wx wy : List Nat} {k c t d T xi yi : Nat} (hl : lo.length = k) (hv : H.val lo + c * H.bp k = H.val (wx.take k) + H.val (wy.take k)) (hx : xi = wx.getD k 0) (hy : yi = wy.getD k 0) (hT : T = xi + yi + c) (htd : t + 4294967296 * d = T) :
    H.val (lo ++ [t]) + d * H.bp (k + 1) = H.val (wx.take (k + 1)) + H.val (wy.take (k + 1)) := by
  rw [H.val_snoc, hl, h_take_succ, h_take_succ, ← hx, ← hy, H.bp_succ]
  have e : H.bp k * (t + 4294967296 * d) = H.bp k * (xi + yi + c) := by rw [htd, hT]
  rw [Nat.mul_add, Nat.mul_add, Nat.mul_add] at e
  have e1 : d * (4294967296 * H.bp k) = H.bp k * (4294967296 * d) := by rw [← Nat.mul_assoc, Nat.mul_comm d, Nat.mul_comm]
  have e3 : c * H.bp k = H.bp k * c := Nat.mul_comm ..
  omega

set_option maxHeartbeats 1600000 in
set_option maxRecDepth 100000 in
/-- caliperref01.Plus. -/
theorem rplus_any (va vb : Value) (x y : Nat) (w : World) (ha : HN w va x) (hb : HN w vb y) (hs : H.lw x + H.lw y ≤ 1048576) :
    Calls Tryd.prog 70 #[va, vb] w fun e w' => ∃ v, e = .returned v ∧ HN w' v (x + y) ∧ Below w.heap.size w w' := by
  obtain ⟨i0, hi, hz0, hz1, hz2⟩ := info_parts info30
  obtain ⟨A, ca, rfl, hca, hma, hra⟩ := ha
  obtain ⟨B, cb, rfl, hcb, hmb, hrb⟩ := hb
  obtain ⟨M, hM⟩ : ∃ M, M = max (H.lw x) (H.lw y) := ⟨_, rfl⟩
  have hmx : H.lw x ≤ M := by omega
  have hmy : H.lw y ≤ M := by omega
  have hM1 : M ≤ 1048576 := by omega
  have hxy : x + y < H.bp (M + 1) := by
    have h1 := H.lw_lt x
    have h2 := H.lw_lt y
    have h3 := H.bp_mono hmx
    have h4 := H.bp_mono hmy
    rw [H.bp_succ]
    have := H.bp_pos M
    omega
  have Hxy := Lib.hid hxy
  have HM := Lib.hid hM
  clear hxy hM
  go_enter Tryd.func70, Tryd.ntmps70
  go_wp2_with fail
  have ho0 := Lib.hid (World.ownsRow_made (base := w.heap.size) (e := 30) (size := 1) w #[] 0 (Nat.le_refl _) (Nat.zero_le _) rfl)
  have hb0 : Below w.heap.size w (w.alloc (.cells #[] 30)) := (Below.refl _ _).alloc (Nat.le_refl _) _
  go_loopw [5, 6, 7] (fun l c i wr => ∃ (k cn : Nat) (lo : List Nat), k ≤ M + 1 ∧ i = .int .i64 k ∧ c = .int .u64 cn ∧ cn < 4294967296 ∧ Hid (wr.ownsRow w.heap.size 30 1 l k (lo.map U)) ∧ Hid (lo.length = k) ∧ Hid (H.okw lo) ∧
      Hid (H.val lo + cn * H.bp k = H.val ((H.wds x).take k) + H.val ((H.wds y).take k)) ∧ Below w.heap.size w wr)
    (fun _ _ i _ => M + 1 - (intOf i).toNat)
  case atStart => exact ⟨0, 0, [], Nat.zero_le _, rfl, rfl, by omega, Lib.hid (by simpa using ho0.out), rfl, H.okw_nil, Lib.hid (by simp [H.val]), hb0⟩
  case round =>
    obtain ⟨k, cn, lo, hk, rfl, rfl, hcn, ho, hl1, hl2, hl3, hbe⟩ := hrel
    by_cases hgo : k < H.lw x ∨ k < H.lw y ∨ 0 < cn
    · have hkM : k < M + 1 := by
        rcases Nat.lt_or_ge k (M + 1) with h | h
        · exact h
        · exfalso
          have h0 : 0 < cn := by omega
          have e := hl3.out
          rw [List.take_of_length_le (show (H.wds x).length ≤ k from by show H.lw x ≤ k; omega), List.take_of_length_le (show (H.wds y).length ≤ k from by show H.lw y ≤ k; omega), H.val_wds, H.val_wds, show k = M + 1 by omega] at e
          have := Nat.mul_le_mul_right (H.bp (M + 1)) h0
          have := Hxy.out
          omega
      have hg1 := fun W (h : RW W A (H.wds x)) => rget_any A (H.lw x) ca (H.wds x) (k : Int) W h rfl (by omega) (by omega)
      have hg2 := fun W (h : RW W B (H.wds y)) => rget_any B (H.lw y) cb (H.wds y) (k : Int) W h rfl (by omega) (by omega)
      rw [Int.toNat_natCast] at hg1 hg2
      have hxw := H.wds_get x k
      have hyw := H.wds_get y k
      obtain ⟨xi, hxi⟩ : ∃ xi : Nat, xi = (H.wds x).getD k 0 := ⟨_, rfl⟩
      obtain ⟨yi, hyi⟩ : ∃ yi : Nat, yi = (H.wds y).getD k 0 := ⟨_, rfl⟩
      rw [← hxi] at hg1 hxw
      rw [← hyi] at hg2 hyw
      obtain ⟨T, hT⟩ : ∃ T, T = xi + yi + cn := ⟨_, rfl⟩
      have eT : (xi : Int) + (yi : Int) + (cn : Int) = (T : Int) := by omega
      have hd32 : T / 4294967296 < 4294967296 := by omega
      have ht32 : T % 4294967296 < 4294967296 := Nat.mod_lt _ (by omega)
      have em : (T : Int) % 4294967296 = ((T % 4294967296 : Nat) : Int) := by omega
      have ed : (T : Int) / 4294967296 = ((T / 4294967296 : Nat) : Int) := by omega
      obtain ⟨d, hd⟩ : ∃ d, d = T / 4294967296 := ⟨_, rfl⟩
      obtain ⟨t, ht⟩ : ∃ t, t = T % 4294967296 := ⟨_, rfl⟩
      rw [← hd] at ed hd32
      rw [← ht] at em ht32
      have hstep := h_add_step (lo := lo) (wx := H.wds x) (wy := H.wds y) hl1.out hl3.out hxi hyi hT (show t + 4294967296 * d = T by omega)
      have hT64 : T ≤ 18446744073709551615 := by omega
      have Hg1 := Lib.hid hg1
      have Hg2 := Lib.hid hg2
      have Hstep := Lib.hid hstep
      have ra := Lib.hid (hra.below hbe)
      have rb := Lib.hid (hrb.below hbe)
      have Hge := Lib.hid (fun g hg => (ho.out.lt g hg).1)
      clear hg1 hg2 hstep hxi hyi hT hd ht
      have hcases : (k < H.lw x) ∨ (¬ k < H.lw x ∧ k < H.lw y) ∨ (¬ k < H.lw x ∧ ¬ k < H.lw y ∧ 0 < cn) := by omega
      clear hgo
      rcases hcases with h1 | ⟨h1, h2⟩ | ⟨h1, h2, h3⟩
      all_goals
        go_wp2_with fail
        refine (Hg1.out _ ra.out).mono ?_
        rintro e w' ⟨rfl, rfl⟩
        go_wp2_with fail
        refine (Hg2.out _ rb.out).mono ?_
        rintro e w' ⟨rfl, rfl⟩
        go_wp2_with (at_builtin; refine wpList_append_own _ rfl (.tmp 35) (.tmp 38) 25 rfl w.heap.size 30 i0 (.int .u64 0) 1 8 Tryd.underlying25 hi hz0 hz1 hz2 rfl (by decide) _ k (lo.map U) rfl (ho.out.alloc _) ⟨wr.heap.size, 0, none⟩ 1 1 [U t] rfl rfl ?c1 ?c2 ?c3 ?c4 ?c5 ?_)
        case c1 =>
          intro j u hj
          match j, hj with
          | 0, hj => simp at hj; subst hj; simp [Addr.add]
        case c2 => intro u hu; simp at hu; subst hu; rfl
        case c3 => unfold maxLen; omega
        case c4 => omega
        case c5 => have := hbe.size; simp; omega
        intro v' w4 hown4 hgrow4 _
        have Hown4 := Lib.hid hown4
        have hb4 := (hbe.alloc hbe.size _).grown hgrow4 (by have := hbe.size; simp; omega) (fun g hg => Hge.out g hg)
        clear hown4 hgrow4
        go_wp2
        refine ⟨⟨k + 1, d, lo ++ [t], by omega, rfl, rfl, hd32, Lib.hid (by simpa using Hown4.out), Lib.hid (by rw [List.length_append, hl1.out]; rfl), H.okw_append hl2.out (H.okw_cons ht32 H.okw_nil), Hstep, hb4⟩, by simp [intOf]; omega⟩
    · have h1 : ¬ k < H.lw x := by omega
      have h2 : ¬ k < H.lw y := by omega
      obtain rfl : cn = 0 := by omega
      have hv := hl3.out
      rw [List.take_of_length_le (show (H.wds x).length ≤ k from by show H.lw x ≤ k; omega), List.take_of_length_le (show (H.wds y).length ≤ k from by show H.lw y ≤ k; omega), H.val_wds, H.val_wds, Nat.zero_mul, Nat.add_zero] at hv
      obtain ⟨A4, c4, rfl, hr4, hl4, hc4, hm4⟩ := own_rw ho.out
      have hN := hn_of_rw hr4 hl4 hl2.out hc4 hm4
      have ht := rtrim_any A4 k c4 _ wr hr4 hl4 hc4 hm4
      rw [hv] at hN
      obtain ⟨z, hz⟩ : ∃ z, z = tl lo k := ⟨_, rfl⟩
      rw [← hz] at ht hN
      have Ht := Lib.hid ht
      have HN' := Lib.hid hN
      clear hr4 hN ht hz hl4 hv hgo
      go_wp2_with fail
      refine Ht.out.mono ?_
      rintro e w5 ⟨rfl, rfl⟩
      go_wp2
      go_ret
      exact ⟨_, rfl, HN'.out, hbe⟩

set_option maxHeartbeats 1600000 in
set_option maxRecDepth 100000 in
/-- caliperref01.Add. -/
theorem radd_any (va vb : Value) (x y : Nat) (w : World) (ha : Num w va x) (hb : Num w vb y) (hs : lw x + lw y ≤ 262144) :
    Calls Tryd.prog 45 #[va, vb] w fun e w' => ∃ v, e = .returned v ∧ Num w' v (x + y) ∧ Below w.heap.size w w' := by
  have hx := h_lw_half x
  have hy := h_lw_half y
  have hxy := H.lw_add x y
  go_enter Tryd.func45, Tryd.ntmps45
  go_wp2_with fail
  refine (rhalves_any _ x _ ha (by omega)).mono ?_
  rintro e w1 ⟨v1, rfl, n1, g1⟩
  have hb1 := hb.below g1
  go_wp2_with fail
  refine (rhalves_any _ y _ hb1 (by omega)).mono ?_
  rintro e w2 ⟨v2, rfl, n2, g2⟩
  have b2 := g1.trans (g2.mono g1.size)
  replace n1 := n1.below g2
  clear g1 g2 hb1
  go_wp2_with fail
  refine (rplus_any _ _ x y _ n1 n2 (by omega)).mono ?_
  rintro e w3 ⟨v3, rfl, n3, g3⟩
  have b3 := b2.trans (g3.mono b2.size)
  clear b2 g3 n1 n2
  go_wp2_with fail
  refine (rwords_any _ (x + y) _ n3 (by omega)).mono ?_
  rintro e w4 ⟨v4, rfl, n4, g4⟩
  have b4 := b3.trans (g4.mono b3.size)
  clear b3 g4 n3
  go_wp2
  go_ret
  exact ⟨v4, rfl, n4, b4⟩
end Go.Proofs.YtfciahfdmnnejaaDoor
