/-
  Half words as words: caliperref01.Words.
-/
import Derived.Test.YtfciahfdmnnejaaDoorR4
namespace Go.Proofs.YtfciahfdmnnejaaDoor
open Go.RowKit Go.Sort

/-- What Trim leaves of a row of words is the number that they are worth. -/
theorem num_of_rw {w : World} {A : Option Addr} {n c : Nat} {o : List Nat} (h : RW w A o) (hl : o.length = n) (ho : okw o) (hc : n ≤ c) (hn : c ≤ maxLen) : Num w (.slice A (tl o n) c) (val o) := by
  subst hl
  have e := tl_len ho
  refine ⟨A, c, by rw [e]; rfl, ?_, hn, ?_⟩
  · show (wds (val o)).length ≤ c
    rw [← e]
    exact Nat.le_trans (tl_le _ _) hc
  · rw [← take_tl ho]; exact h.take _
theorem bp_half (k : Nat) : bp k = H.bp (2 * k) := by rw [bp_two, H.bp_two]; congr 1; omega
theorem words_step {zs ws : List Nat} {k a b : Nat} (hl : zs.length = k) (hv : val zs = H.val (ws.take (2 * k))) (ha : a = ws.getD (2 * k) 0) (hb : b = ws.getD (2 * k + 1) 0) :
    val (zs ++ [a + b * 4294967296]) = H.val (ws.take (2 * (k + 1))) := by
  rw [val_snoc, hl, hv, show 2 * (k + 1) = (2 * k + 1) + 1 by omega, h_take_succ, h_take_succ, ← ha, ← hb, bp_half, H.bp_succ, Nat.mul_add, Nat.add_assoc]
  congr 2
  rw [← Nat.mul_assoc, Nat.mul_comm 4294967296, Nat.mul_assoc, Nat.mul_assoc, Nat.mul_comm b]
set_option maxHeartbeats 1600000 in
set_option maxRecDepth 100000 in
/-- caliperref01.Words. -/
theorem rwords_any (va : Value) (x : Nat) (w : World) (ha : HN w va x) (hs : H.lw x ≤ 1048576) :
    Calls Tryd.prog 62 #[va] w fun e w' => ∃ v, e = .returned v ∧ Num w' v x ∧ Below w.heap.size w w' := by
  obtain ⟨i0, hi, hz0, hz1, hz2⟩ := info_parts info30
  obtain ⟨A, ca, rfl, hca, hma, hra⟩ := ha
  go_enter Tryd.func62, Tryd.ntmps62
  go_wp2
  have ho0 := Lib.hid (World.ownsRow_made (base := w.heap.size) (e := 30) (size := 1) w #[] 0 (Nat.le_refl _) (Nat.zero_le _) rfl)
  have hb0 : Below w.heap.size w (w.alloc (.cells #[] 30)) := (Below.refl _ _).alloc (Nat.le_refl _) _
  go_loopw [3, 4] (fun l i wr => ∃ (k : Nat) (zs : List Nat), 2 * k ≤ H.lw x + 1 ∧ i = .int .i64 ((2 * k : Nat) : Int) ∧ Hid (wr.ownsRow w.heap.size 30 1 l k (zs.map U)) ∧ Hid (zs.length = k) ∧ Hid (okw zs) ∧
      Hid (val zs = H.val ((H.wds x).take (2 * k))) ∧ Below w.heap.size w wr)
    (fun _ i _ => H.lw x + 1 - (intOf i).toNat)
  case atStart => exact ⟨0, [], by omega, rfl, ho0, rfl, okw_nil, Lib.hid (by simp [val, H.val]), hb0⟩
  case round =>
    obtain ⟨k, zs, hk, rfl, ho, hl1, hl2, hl3, hbe⟩ := hrel
    obtain ⟨j, hj⟩ : ∃ j, j = 2 * k := ⟨_, rfl⟩
    rw [← hj] at hk
    have Hj := Lib.hid hj
    rw [← hj]
    have hkj : k ≤ j := by omega
    clear hj
    by_cases hlt : j < H.lw x
    · obtain ⟨ba, oa, rfl, hba, hcella⟩ := hra.at_ (k := j) hlt
      have haw := H.wds_get x j
      have hbw := H.wds_get x (j + 1)
      have hcx : wr.cell? ⟨ba, oa + j, none⟩ = some (U ((H.wds x).getD j 0)) := (hbe.cell (p := ⟨ba, oa + j, none⟩) hba).trans (hcella j hlt)
      obtain ⟨a, hxa⟩ : ∃ a : Nat, a = (H.wds x).getD j 0 := ⟨_, rfl⟩
      rw [← hxa] at hcx haw
      have Hxa := Lib.hid hxa
      obtain ⟨b, hxb⟩ : ∃ b : Nat, b = (H.wds x).getD (j + 1) 0 := ⟨_, rfl⟩
      have hcy0 := fun (h : j + 1 < H.lw x) => (hbe.cell (p := ⟨ba, oa + (j + 1), none⟩) hba).trans (hcella (j + 1) h)
      rw [← hxb] at hcy0 hbw
      have hb0' : ¬ j + 1 < H.lw x → b = 0 := fun h => by rw [hxb, List.getD_eq_getElem?_getD, List.getElem?_eq_none (Nat.le_of_not_lt h)]; rfl
      have Hxb := Lib.hid hxb
      have hz64 : a + b * 4294967296 < 18446744073709551616 := by omega
      obtain ⟨z, hz⟩ : ∃ z, z = a + b * 4294967296 := ⟨_, rfl⟩
      rw [← hz] at hz64
      have ez : (a : Int) + (b : Int) * 4294967296 = (z : Int) := by omega
      have Hz := Lib.hid hz
      have Hge := Lib.hid (fun g hg => (ho.out.lt g hg).1)
      clear hxa hxb hcella hz
      by_cases hlt2 : j + 1 < H.lw x
      · have hcy := hcy0 hlt2
        clear hcy0 hb0'
        go_wp2_with (at_builtin; refine wpList_append_own _ rfl (.tmp 30) (.tmp 32) 25 rfl w.heap.size 30 i0 (.int .u64 0) 1 8 Tryd.underlying25 hi hz0 hz1 hz2 rfl (by decide) _ k (zs.map U) rfl (ho.out.alloc _) ⟨wr.heap.size, 0, none⟩ 1 1 [U z] rfl rfl ?c1 ?c2 ?c3 ?c4 ?c5 ?_)
        case c1 =>
          intro j u hj
          match j, hj with
          | 0, hj => simp at hj; subst hj; simp [Addr.add]
        case c2 => intro u hu; simp at hu; subst hu; rfl
        case c3 => unfold maxLen; omega
        case c4 => omega
        case c5 => have := hbe.size; simp; omega
        intro v' w4 hown4 hgrow4 _
        have Hown4 := Lib.hid hown4
        have hb4 := (hbe.alloc hbe.size _).grown hgrow4 (by have := hbe.size; simp; omega) (fun g hg => Hge.out g hg)
        clear hown4 hgrow4 hbe
        go_wp2
        refine ⟨⟨k + 1, zs ++ [z], ?_, ?_, Lib.hid (by simpa using Hown4.out), Lib.hid (by rw [List.length_append, hl1.out]; rfl), okw_append hl2.out (okw_cons hz64 okw_nil), Lib.hid ?_, hb4⟩, by simp [intOf]; omega⟩
        · have := Hj.out; omega
        · have := Hj.out
          exact congrArg (Value.int .i64) (by omega)
        · rw [Hz.out]
          exact words_step hl1.out hl3.out (by rw [← Hj.out]; exact Hxa.out) (by rw [← Hj.out]; exact Hxb.out)
      · have hb0'' := hb0' hlt2
        subst hb0''
        have ez' : z = a := by have := Hz.out; omega
        subst ez'
        clear hcy0 hb0' ez
        go_wp2_with (at_builtin; refine wpList_append_own _ rfl (.tmp 30) (.tmp 32) 25 rfl w.heap.size 30 i0 (.int .u64 0) 1 8 Tryd.underlying25 hi hz0 hz1 hz2 rfl (by decide) _ k (zs.map U) rfl (ho.out.alloc _) ⟨wr.heap.size, 0, none⟩ 1 1 [U z] rfl rfl ?c1 ?c2 ?c3 ?c4 ?c5 ?_)
        case c1 =>
          intro j u hj
          match j, hj with
          | 0, hj => simp at hj; subst hj; simp [Addr.add]
        case c2 => intro u hu; simp at hu; subst hu; rfl
        case c3 => unfold maxLen; omega
        case c4 => omega
        case c5 => have := hbe.size; simp; omega
        intro v' w4 hown4 hgrow4 _
        have Hown4 := Lib.hid hown4
        have hb4 := (hbe.alloc hbe.size _).grown hgrow4 (by have := hbe.size; simp; omega) (fun g hg => Hge.out g hg)
        clear hown4 hgrow4 hbe
        go_wp2
        refine ⟨⟨k + 1, zs ++ [z], ?_, ?_, Lib.hid (by simpa using Hown4.out), Lib.hid (by rw [List.length_append, hl1.out]; rfl), okw_append hl2.out (okw_cons hz64 okw_nil), Lib.hid ?_, hb4⟩, by simp [intOf]; omega⟩
        · have := Hj.out; omega
        · have := Hj.out
          exact congrArg (Value.int .i64) (by omega)
        · rw [Hz.out]
          exact words_step hl1.out hl3.out (by rw [← Hj.out]; exact Hxa.out) (by rw [← Hj.out]; exact Hxb.out)
    · have hv := hl3.out
      rw [List.take_of_length_le (show (H.wds x).length ≤ 2 * k from by have := Hj.out; show H.lw x ≤ 2 * k; omega), H.val_wds] at hv
      obtain ⟨A4, c4, rfl, hr4, hl4, hc4, hm4⟩ := own_rw ho.out
      have hN := num_of_rw hr4 hl4 hl2.out hc4 hm4
      have ht := rtrim_any A4 k c4 _ wr hr4 hl4 hc4 hm4
      rw [hv] at hN
      obtain ⟨z, hz⟩ : ∃ z, z = tl zs k := ⟨_, rfl⟩
      rw [← hz] at ht hN
      have Ht := Lib.hid ht
      have HN' := Lib.hid hN
      clear hr4 hN ht hz hl4 hv
      go_wp2_with fail
      refine Ht.out.mono ?_
      rintro e w5 ⟨rfl, rfl⟩
      go_wp2
      go_ret
      exact ⟨_, rfl, HN'.out, hbe⟩
end Go.Proofs.YtfciahfdmnnejaaDoor
