/-
  Words as half words: caliperref01.Halves.
-/
import Derived.Test.YtfciahfdmnnejaaDoorR6
import Derived.Deep.RegionHeld3
import Derived.Deep.AppendLies
namespace Go.Proofs.YtfciahfdmnnejaaDoor
open Go.RowKit Go.Sort

theorem val_take_succ' (ws : List Nat) (k : Nat) : val (ws.take (k + 1)) = val (ws.take k) + bp k * ws.getD k 0 := by
  rcases Nat.lt_or_ge k ws.length with h | h
  · exact val_take_succ ws k h
  · rw [List.take_of_length_le h, List.take_of_length_le (by omega), List.getD_eq_getElem?_getD, List.getElem?_eq_none h]
    simp
theorem halves_step {zs ws : List Nat} {k a b z : Nat} (hl : zs.length = 2 * k) (hv : H.val zs = val (ws.take k)) (hz : z = ws.getD k 0) (hab : a + 4294967296 * b = z) :
    H.val (zs ++ [a, b]) = val (ws.take (k + 1)) := by
  rw [H.val_append, hl, hv, val_take_succ', ← hz, bp_half, H.val_cons, H.val_cons, H.val_nil, Nat.mul_zero, Nat.add_zero, hab]

set_option maxHeartbeats 1600000 in
set_option maxRecDepth 100000 in
/-- caliperref01.Halves. -/
theorem rhalves_any (va : Value) (x : Nat) (w : World) (ha : Num w va x) (hs : lw x ≤ 1048576) :
    Calls Tryd.prog 71 #[va] w fun e w' => ∃ v, e = .returned v ∧ HN w' v x ∧ Below w.heap.size w w' := by
  obtain ⟨i0, hi, hz0, hz1, hz2⟩ := info_parts info30
  obtain ⟨A, ca, rfl, hca, hma, hra⟩ := ha
  go_enter Tryd.func71, Tryd.ntmps71
  go_wp2
  have ho0 := Lib.hid (World.ownsRow_made (base := w.heap.size) (e := 30) (size := 1) w #[] 0 (Nat.le_refl _) (Nat.zero_le _) rfl)
  have hb0 : Below w.heap.size w (w.alloc (.cells #[] 30)) := (Below.refl _ _).alloc (Nat.le_refl _) _
  go_loopw [3, 4] (fun l i wr => ∃ (k : Nat) (zs : List Nat), k ≤ lw x ∧ i = .int .i64 k ∧ Hid (wr.ownsRow w.heap.size 30 1 l (2 * k) (zs.map U)) ∧ Hid (zs.length = 2 * k) ∧ Hid (H.okw zs) ∧
      Hid (H.val zs = val ((wds x).take k)) ∧ Below w.heap.size w wr)
    (fun _ i _ => lw x - (intOf i).toNat)
  case atStart => exact ⟨0, [], by omega, rfl, ho0, rfl, H.okw_nil, Lib.hid (by simp [val, H.val]), hb0⟩
  case round =>
    obtain ⟨k, zs, hk, rfl, ho, hl1, hl2, hl3, hbe⟩ := hrel
    by_cases hlt : k < lw x
    · obtain ⟨ba, oa, rfl, hba, hcella⟩ := hra.at_ (k := k) hlt
      have haw := wds_get x k
      have hcx : wr.cell? ⟨ba, oa + k, none⟩ = some (U ((wds x).getD k 0)) := (hbe.cell (p := ⟨ba, oa + k, none⟩) hba).trans (hcella k hlt)
      obtain ⟨z, hz⟩ : ∃ z : Nat, z = (wds x).getD k 0 := ⟨_, rfl⟩
      rw [← hz] at hcx haw
      have Hz := Lib.hid hz
      have em : (z : Int) % 4294967296 = ((z % 4294967296 : Nat) : Int) := by omega
      have ed : (z : Int) / 4294967296 = ((z / 4294967296 : Nat) : Int) := by omega
      obtain ⟨b, hb⟩ : ∃ b, b = z / 4294967296 := ⟨_, rfl⟩
      obtain ⟨a, ha⟩ : ∃ a, a = z % 4294967296 := ⟨_, rfl⟩
      have hb32 : b < 4294967296 := by omega
      have ha32 : a < 4294967296 := by omega
      rw [← hb] at ed
      rw [← ha] at em
      have et : (z : Int).tmod 4294967296 = (a : Int) := by rw [ha]; rfl
      have Hab := Lib.hid (show a + 4294967296 * b = z by omega)
      have Hge := Lib.hid (fun g hg => (ho.out.lt g hg).1)
      clear hz hb ha hcella
      have hown := ho.out
      have hbw : wr.heap.size ≥ w.heap.size := hbe.size
      have hfar : ∀ r, u3.ownBlock = some r → ba ≠ r := fun r hr e => by have := Hge.out r hr; omega
      have hbaw : ba < wr.heap.size := Nat.lt_of_lt_of_le hba hbe.size
      have hne : some ba ≠ u3.ownBlock := fun e => hfar ba e.symm rfl
      go_wp2_with fail
      go_region_held3 (fun w' => w'.cell? ⟨ba, oa + k, none⟩ = some (U z))
        (first
          | go_keep
          | (rw [hgrow.cell_far _ (by simp; omega) hne]; assumption))
        ((refine step_append_lies _ (by rfl) _ _ _ (by rfl) w.heap.size 30 i0 _ 1 8 Tryd.underlying25 hi hz0 hz1 hz2 rfl (by omega) u3 (2 * k) (zs.map U) (by rfl) ((hown.alloc _).drew)
            ⟨wr.heap.size, 0, none⟩ 2 2 [U a, U b] (by rfl) (by rfl) (World.news_of_block (cs := #[U a, U b]) (t := 30) (fr := (0, 0)) (heap_alloc_new wr _)) (by simp [Value.oneCell'])
            (by omega) (by unfold maxLen; omega) (by omega) (by simp; omega) (wr.heap.size + 1) (by simp) ?_; intro gg cap w1 hown1 hgrow hat hlt1))
      have Hown4 := Lib.hid hown1
      have hb4 := ((hbe.alloc hbe.size _).drew).grown hgrow (by have := hbe.size; simp; omega) (fun g hg => Hge.out g hg)
      clear hown1 hgrow hbe hown hfar hne hat hlt1
      go_wp2
      refine ⟨⟨k + 1, zs ++ [a, b], by omega, rfl, Lib.hid ?_, Lib.hid ?_, H.okw_append hl2.out (H.okw_cons ha32 (H.okw_cons hb32 H.okw_nil)), Lib.hid (halves_step hl1.out hl3.out Hz.out Hab.out), hb4⟩, by simp [intOf]; omega⟩
      · have h := Hown4.out
        rw [List.map_append]
        exact h
      · rw [List.length_append, hl1.out]
        simp
        omega
    · have hv := hl3.out
      rw [show k = lw x by omega, take_wds, val_wds] at hv
      obtain ⟨A4, c4, rfl, hr4, hl4, hc4, hm4⟩ := own_rw ho.out
      have hN := hn_of_rw hr4 hl4 hl2.out hc4 hm4
      have ht := rtrim_any A4 (2 * k) c4 _ wr hr4 hl4 hc4 hm4
      rw [hv] at hN
      obtain ⟨z, hz⟩ : ∃ z, z = tl zs (2 * k) := ⟨_, rfl⟩
      rw [← hz] at ht hN
      have Ht := Lib.hid ht
      have HN' := Lib.hid hN
      clear hr4 hN ht hz hl4 hv
      go_wp2_with fail
      refine Ht.out.mono ?_
      rintro e w5 ⟨rfl, rfl⟩
      go_wp2
      go_ret
      exact ⟨_, rfl, HN'.out, hbe⟩
end Go.Proofs.YtfciahfdmnnejaaDoor
