/-
  The document's shift over half words: caliperref01.Up.
-/
import Derived.Test.YtfciahfdmnnejaaDoorR2
namespace Go.Proofs.YtfciahfdmnnejaaDoor
open Go.RowKit Go.Sort

/-- The row of words behind an own slice of them. -/
theorem own_rw {w : World} {base n : Nat} {v : Value} {zs : List Nat} (h : w.ownsRow base 30 1 v n (zs.map U)) : ∃ A c, v = .slice A n c ∧ RW w A zs ∧ zs.length = n ∧ n ≤ c ∧ c ≤ maxLen := by
  have hl := h.1
  rw [List.length_map, Nat.mul_one] at hl
  rcases h.2 with ⟨rfl, rfl⟩ | ⟨g, cap, cur, rfl, h1, h2, h3, h4, h5, h6⟩
  · exact ⟨none, 0, rfl, .inl (List.length_eq_zero_iff.1 hl), hl, Nat.le_refl _, Nat.zero_le _⟩
  · refine ⟨some ⟨g, 0, none⟩, cap, rfl, .inr ⟨g, 0, rfl, Blk.lt h2, fun j hj => ?_⟩, hl, h3, h4⟩
    rw [h.cellAt (0 + j) (by omega), Nat.zero_add, List.getElem?_map, List.getD_eq_getElem?_getD, List.getElem?_eq_getElem hj]
    rfl
theorem own_made (w : World) (n : Nat) (hn : n ≤ maxLen) : (w.alloc (.cells (madeCells #[.int .u64 0] n) 30)).ownsRow w.heap.size 30 1 (.slice (some ⟨w.heap.size, 0, none⟩) n n) n ((List.replicate n 0).map U) := by
  have h := WB.made w n
  unfold WB Blk at h
  refine ⟨by simp, .inr ⟨w.heap.size, n, _, rfl, Nat.le_refl _, h, Nat.le_refl _, hn, by simp, ?_⟩⟩
  simp [List.take_of_length_le]

theorem h_shift {x r c : Nat} (hx : x < 4294967296) (hr : r < 32) (hc : c < 4294967296) :
    ∃ T : Nat, IntKind.u64.wrap (IntKind.u64.wrap ((x : Int) * 2 ^ r) + (c : Int)) = (T : Int) ∧ Hid (T = x * 2 ^ r + c) ∧ T < 18446744073709551616 := by
  have h1 : 2 ^ r ≤ 2147483648 := by
    have := Nat.pow_le_pow_right (show 0 < 2 by omega) (show r ≤ 31 by omega)
    exact Nat.le_trans this (by decide)
  have h2 : x * 2 ^ r ≤ 4294967295 * 2147483648 := Nat.mul_le_mul (by omega) h1
  have e : ((x : Int) * 2 ^ r) = ((x * 2 ^ r : Nat) : Int) := by simp
  refine ⟨x * 2 ^ r + c, ?_, rfl, ?_⟩
  · rw [e]
    generalize x * 2 ^ r = p at *
    rw [Mul64.wrapN p (by omega), show (p : Int) + (c : Int) = ((p + c : Nat) : Int) by omega, Mul64.wrapN (p + c) (by omega)]
  · generalize x * 2 ^ r = p at *
    omega
theorem h_up_step {lo ws : List Nat} {k r c t d T xi : Nat} (hl : lo.length = k) (hv : H.val lo + c * H.bp k = H.val (ws.take k) * 2 ^ r) (hx : xi = ws.getD k 0) (hT : T = xi * 2 ^ r + c) (htd : t + 4294967296 * d = T) :
    H.val (lo ++ [t]) + d * H.bp (k + 1) = H.val (ws.take (k + 1)) * 2 ^ r := by
  rw [H.val_snoc, hl, h_take_succ, Nat.add_mul, ← hv, ← hx, H.bp_succ]
  have e : H.bp k * (t + 4294967296 * d) = H.bp k * (xi * 2 ^ r + c) := by rw [htd, hT]
  rw [Nat.mul_add, Nat.mul_add] at e
  have e1 : d * (4294967296 * H.bp k) = H.bp k * (4294967296 * d) := by rw [← Nat.mul_assoc, Nat.mul_comm d, Nat.mul_comm]
  have e2 : H.bp k * xi * 2 ^ r = H.bp k * (xi * 2 ^ r) := Nat.mul_assoc ..
  have e3 : c * H.bp k = H.bp k * c := Nat.mul_comm ..
  omega
theorem h_up_end {lo : List Nat} {n q k r c x : Nat} (hl : lo.length = k) (hv : H.val lo + c * H.bp k = x * 2 ^ r) (hn : n = 32 * q + r) : H.val (List.replicate q 0 ++ lo ++ [c]) = x * 2 ^ n := by
  rw [List.append_assoc, H.val_append, H.val_replicate, List.length_replicate, H.val_snoc, hl, Nat.zero_add, Nat.mul_comm (H.bp k), hv, hn, Nat.pow_add, H.bp_two]
  rw [← Nat.mul_assoc, Nat.mul_comm (2 ^ (32 * q)) x, Nat.mul_assoc]
set_option maxHeartbeats 1600000 in
set_option maxRecDepth 100000 in
/-- caliperref01.Up: times 2 to the power of n. -/
theorem rup_any (va : Value) (x n : Nat) (w : World) (ha : HN w va x) (hs : H.lw x ≤ 1048576) (hn : n ≤ 1048576) :
    Calls Tryd.prog 63 #[va, .int .i64 n] w fun e w' => ∃ v, e = .returned v ∧ HN w' v (x * 2 ^ n) ∧ Below w.heap.size w w' := by
  obtain ⟨i0, hi, hz0, hz1, hz2⟩ := info_parts info30
  obtain ⟨A, ca, rfl, hca, hma, hra⟩ := ha
  obtain ⟨q, hq⟩ : ∃ q, q = n / 32 := ⟨_, rfl⟩
  obtain ⟨r, hr⟩ : ∃ r, r = n % 32 := ⟨_, rfl⟩
  have hr32 : r < 32 := by omega
  have hq1 : q ≤ 32768 := by omega
  have eq1 : (n : Int).tdiv 32 = (q : Int) := by rw [hq]; rfl
  have eq1' : (n : Int) / 32 = (q : Int) := by omega
  have er1 : (n : Int).tmod 32 = (r : Int) := by rw [hr]; rfl
  have er1' : (n : Int) % 32 = (r : Int) := by omega
  have Hn := Lib.hid (show n = 32 * q + r by omega)
  clear hq hr
  have hmk := fun W => make_row q (by omega) W
  go_enter Tryd.func63, Tryd.ntmps63
  go_wp2
  clear hmk
  have ho0 := Lib.hid (own_made w q (by unfold maxLen; omega))
  have hb0 : Below w.heap.size w (w.alloc (.cells (madeCells #[.int .u64 0] q) 30)) := (Below.refl _ _).alloc (Nat.le_refl _) _
  go_loopw [5, 6, 7] (fun l c i wr => ∃ (k cn : Nat) (lo : List Nat), k ≤ H.lw x ∧ i = .int .i64 k ∧ c = .int .u64 cn ∧ cn < 4294967296 ∧ Hid (wr.ownsRow w.heap.size 30 1 l (q + k) ((List.replicate q 0 ++ lo).map U)) ∧ Hid (lo.length = k) ∧ Hid (H.okw lo) ∧
      Hid (H.val lo + cn * H.bp k = H.val ((H.wds x).take k) * 2 ^ r) ∧ Below w.heap.size w wr)
    (fun _ _ i _ => H.lw x - (intOf i).toNat)
  case atStart => exact ⟨0, 0, [], Nat.zero_le _, rfl, rfl, by omega, Lib.hid (by simpa using ho0.out), rfl, H.okw_nil, Lib.hid (by simp [H.val]), hb0⟩
  case round =>
    obtain ⟨k, cn, lo, hk, rfl, rfl, hcn, ho, hl1, hl2, hl3, hbe⟩ := hrel
    by_cases hlt : k < H.lw x
    · obtain ⟨ba, oa, rfl, hba, hcella⟩ := hra.at_ (k := k) hlt
      have hxw := H.wds_get x k
      obtain ⟨xi, hxi⟩ : ∃ xi : Nat, xi = (H.wds x).getD k 0 := ⟨_, rfl⟩
      have hcx : wr.cell? ⟨ba, oa + k, none⟩ = some (U ((H.wds x).getD k 0)) := (hbe.cell (p := ⟨ba, oa + k, none⟩) hba).trans (hcella k hlt)
      rw [← hxi] at hcx hxw
      have Hxi := Lib.hid hxi
      clear hxi hcella
      obtain ⟨T, ew, hT, hT64⟩ := h_shift hxw hr32 hcn
      have em : (T : Int) % 4294967296 = ((T % 4294967296 : Nat) : Int) := by omega
      have ed : (T : Int) / 4294967296 = ((T / 4294967296 : Nat) : Int) := by omega
      have hd32 : T / 4294967296 < 4294967296 := by omega
      have ht32 : T % 4294967296 < 4294967296 := Nat.mod_lt _ (by omega)
      obtain ⟨d, hd⟩ : ∃ d, d = T / 4294967296 := ⟨_, rfl⟩
      obtain ⟨t, ht⟩ : ∃ t, t = T % 4294967296 := ⟨_, rfl⟩
      rw [← hd] at ed hd32
      rw [← ht] at em ht32
      have Htd := Lib.hid (show t + 4294967296 * d = T by rw [hd, ht]; omega)
      have Hge := Lib.hid (fun g hg => (ho.out.lt g hg).1)
      clear hd ht hT64
      go_wp2_with (at_builtin; refine wpList_append_own _ rfl (.tmp 28) (.tmp 31) 25 rfl w.heap.size 30 i0 (.int .u64 0) 1 8 Tryd.underlying25 hi hz0 hz1 hz2 rfl (by decide) _ (q + k) ((List.replicate q 0 ++ lo).map U) rfl (ho.out.alloc _) ⟨wr.heap.size, 0, none⟩ 1 1 [U t] rfl rfl ?c1 ?c2 ?c3 ?c4 ?c5 ?_)
      case c1 =>
        intro j u hj
        match j, hj with
        | 0, hj => simp at hj; subst hj; simp [Addr.add]
      case c2 => intro u hu; simp at hu; subst hu; rfl
      case c3 => unfold maxLen; omega
      case c4 => omega
      case c5 => have := hbe.size; simp; omega
      intro v' w4 hown4 hgrow4 _
      have Hown4 := Lib.hid hown4
      have hb4 := (hbe.alloc hbe.size _).grown hgrow4 (by have := hbe.size; simp; omega) (fun g hg => Hge.out g hg)
      clear hown4 hgrow4 hbe
      go_wp2
      refine ⟨⟨k + 1, d, lo ++ [t], by omega, rfl, rfl, hd32, Lib.hid ?_, Lib.hid (by rw [List.length_append, hl1.out]; rfl), H.okw_append hl2.out (H.okw_cons ht32 H.okw_nil), Lib.hid (h_up_step hl1.out hl3.out Hxi.out hT.out Htd.out), hb4⟩, by simp [intOf]; omega⟩
      have h := Hown4.out
      rw [show q + k + 1 = q + (k + 1) by omega] at h
      simpa using h
    · have hkk : k = H.lw x := by omega
      have hv := hl3.out
      rw [hkk, H.take_wds, H.val_wds, ← hkk] at hv
      have Hv := Lib.hid hv
      have Hge := Lib.hid (fun g hg => (ho.out.lt g hg).1)
      clear hv hkk
      go_wp2_with (at_builtin; refine wpList_append_own _ rfl (.tmp 35) (.tmp 37) 25 rfl w.heap.size 30 i0 (.int .u64 0) 1 8 Tryd.underlying25 hi hz0 hz1 hz2 rfl (by decide) _ (q + k) ((List.replicate q 0 ++ lo).map U) rfl (ho.out.alloc _) ⟨wr.heap.size, 0, none⟩ 1 1 [U cn] rfl rfl ?c1 ?c2 ?c3 ?c4 ?c5 ?_)
      case c1 =>
        intro j u hj
        match j, hj with
        | 0, hj => simp at hj; subst hj; simp [Addr.add]
      case c2 => intro u hu; simp at hu; subst hu; rfl
      case c3 => unfold maxLen; omega
      case c4 => omega
      case c5 => have := hbe.size; simp; omega
      intro v' w4 hown4 hgrow4 _
      have hb4 := (hbe.alloc hbe.size _).grown hgrow4 (by have := hbe.size; simp; omega) (fun g hg => Hge.out g hg)
      have hown5 : w4.ownsRow w.heap.size 30 1 v' (q + k + 1) ((List.replicate q 0 ++ lo ++ [cn]).map U) := by
        simpa using hown4
      obtain ⟨A4, c4, rfl, hr4, hl4, hc4, hm4⟩ := own_rw hown5
      have hok : H.okw (List.replicate q 0 ++ lo ++ [cn]) := H.okw_append (H.okw_append (H.okw_replicate q) hl2.out) (H.okw_cons hcn H.okw_nil)
      have hN := hn_of_rw hr4 hl4 hok hc4 hm4
      have ht := rtrim_any A4 (q + k + 1) c4 _ w4 hr4 hl4 hc4 hm4
      rw [h_up_end hl1.out Hv.out Hn.out] at hN
      obtain ⟨z, hz⟩ : ∃ z, z = tl (List.replicate q 0 ++ lo ++ [cn]) (q + k + 1) := ⟨_, rfl⟩
      rw [← hz] at ht hN
      have Ht := Lib.hid ht
      have HN' := Lib.hid hN
      clear hown4 hown5 hgrow4 hbe hr4 hok hN ht hz hl4
      go_wp2_with fail
      refine Ht.out.mono ?_
      rintro e w5 ⟨rfl, rfl⟩
      go_wp2
      go_ret
      exact ⟨_, rfl, HN'.out, hb4⟩
end Go.Proofs.YtfciahfdmnnejaaDoor
