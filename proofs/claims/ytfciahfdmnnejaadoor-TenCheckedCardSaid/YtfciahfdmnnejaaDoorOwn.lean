/-
  Words at the head of a block that is written to in place; what a call that writes to one block alone leaves of all others.
-/
import Derived.Test.YtfciahfdmnnejaaDoorMul
import Derived.Deep.OwnRows
namespace Go.Proofs.YtfciahfdmnnejaaDoor
open Go.RowKit

/-- The first words of block g are 'ws'. -/
def OW (w : World) (g : Nat) (ws : List Nat) : Prop := ∃ cur : Array Value, w.heap[g]? = some (.cells cur 30 (0, 0)) ∧ ∀ j, j < ws.length → cur[j]? = some (U (ws.getD j 0))
section
variable {w w' w'' : World} {g : Nat} {ws : List Nat}
theorem OW.lt (h : OW w g ws) : g < w.heap.size := by
  obtain ⟨cur, h, _⟩ := h
  exact Blk.lt (t := 30) (cs := cur) h
theorem OW.cell (h : OW w g ws) {j : Nat} (hj : j < ws.length) : w.cell? ⟨g, j, none⟩ = some (U (ws.getD j 0)) := by
  obtain ⟨cur, h, hc⟩ := h
  rw [Blk.cell (t := 30) (cs := cur) h]
  exact hc j hj
theorem OW.frozen (h : OW w g ws) (i : Nat) : w.frozen? ⟨g, i, none⟩ = false := by
  obtain ⟨cur, h, _⟩ := h
  exact Blk.frozen (t := 30) (cs := cur) h i
theorem OW.drew (h : OW w g ws) : OW w.drew g ws := h
theorem OW.drewN (h : OW w g ws) (n : Nat) : OW (w.drewN n) g ws := h
theorem OW.set_ (h : OW w g ws) (i u : Nat) : OW (w.setCell ⟨g, i, none⟩ (U u)) g (ws.set i u) := by
  obtain ⟨cur, h, hc⟩ := h
  refine ⟨cur.setIfInBounds i (U u), Blk.set_ (t := 30) (cs := cur) h i (U u), fun j hj => ?_⟩
  rw [List.length_set] at hj
  have h1 := hc j hj
  rcases Nat.eq_or_lt_of_le (Nat.le_refl i) with _ | h2
  · by_cases hij : i = j
    · subst hij
      have hlt : i < cur.size := (Array.getElem?_eq_some_iff.1 h1).1
      rw [Array.getElem?_setIfInBounds_self_of_lt hlt, List.getD_eq_getElem?_getD, List.getElem?_set_self hj]; rfl
    · rw [Array.getElem?_setIfInBounds_ne hij, h1, List.getD_eq_getElem?_getD, List.getD_eq_getElem?_getD, List.getElem?_set_ne hij]
  · omega
theorem OW.alloc (h : OW w g ws) (o : Obj) : OW (w.alloc o) g ws := by
  obtain ⟨cur, h, hc⟩ := h
  exact ⟨cur, Blk.alloc (t := 30) (cs := cur) h o, hc⟩
theorem OW.far (h : OW w g ws) {p : Addr} (hp : g ≠ p.block) (u : Value) : OW (w.setCell p u) g ws := by
  obtain ⟨cur, h, hc⟩ := h
  exact ⟨cur, Blk.far (t := 30) (cs := cur) h hp u, hc⟩
theorem OW.below {B : Nat} (h : OW w g ws) (hb : Below B w w') (hg : g < B) : OW w' g ws := by
  obtain ⟨cur, h, hc⟩ := h
  exact ⟨cur, Blk.below (t := 30) (cs := cur) h hb hg, hc⟩
theorem OW.grown {row : Option Nat} (h : OW w g ws) (hg : w.grownBy w' row) (hne : some g ≠ row) : OW w' g ws := by
  have hlt := h.lt
  obtain ⟨cur, h, hc⟩ := h
  exact ⟨cur, (hg.block g hlt hne).trans h, hc⟩
theorem OW.rw_ (h : OW w g ws) : RW w (some ⟨g, 0, none⟩) ws := .inr ⟨g, 0, rfl, h.lt, fun j hj => by rw [Nat.zero_add]; exact h.cell hj⟩
theorem OW.of_wb (h : WB w g ws) : OW w g ws := ⟨_, h, fun j hj => by rw [← Blk.cell (t := 30) h j]; exact h.cell hj⟩
/-- A row of the call's own that has something in it. -/
theorem OW.of_own {B : Nat} {v : Value} {n : Nat} (h : w.ownsRow B 30 1 v n (ws.map U)) (hn : 0 < n) :
    ∃ g c, v = .slice (some ⟨g, 0, none⟩) n c ∧ B ≤ g ∧ n ≤ c ∧ c ≤ maxLen ∧ ws.length = n ∧ OW w g ws := by
  obtain ⟨h1, h2⟩ := h
  rcases h2 with ⟨_, h3⟩ | ⟨g, c, cur, rfl, hB, hg, hc, hm, hs, ht⟩
  · omega
  · have hl : ws.length = n := by simpa using h1
    refine ⟨g, c, rfl, hB, hc, hm, hl, cur, hg, fun j hj => ?_⟩
    have e : (cur.toList.take (n * 1))[j]? = (ws.map U)[j]? := by rw [ht]
    rw [List.getElem?_take, if_pos (by omega), List.getElem?_map, List.getElem?_eq_getElem hj] at e
    rw [List.getD_eq_getElem?_getD, List.getElem?_eq_getElem hj]
    simpa using e
end

theorem grown_refl (w : World) (row : Option Nat) : w.grownBy w row := ⟨rfl, rfl, rfl, Nat.le_refl _, fun _ _ _ => rfl⟩
theorem grown_trans {a b c : World} {row : Option Nat} (h : a.grownBy b row) (k : b.grownBy c row) : a.grownBy c row :=
  ⟨k.os.trans h.os, k.tape.trans h.tape, k.output.trans h.output, Nat.le_trans h.size k.size, fun i hi hr => (k.block i (Nat.lt_of_lt_of_le hi h.size) hr).trans (h.block i hi hr)⟩
theorem grown_drewN {a b : World} {row : Option Nat} (h : a.grownBy b row) (n : Nat) : a.grownBy (b.drewN n) row := ⟨h.os, h.tape, h.output, h.size, h.block⟩
theorem grown_of_drewN {a b : World} {row : Option Nat} {n : Nat} (h : (a.drewN n).grownBy b row) : a.grownBy b row := ⟨h.os, h.tape, h.output, h.size, h.block⟩
theorem grown_drew {a b : World} {row : Option Nat} (h : a.grownBy b row) : a.grownBy b.drew row := ⟨h.os, h.tape, h.output, h.size, h.block⟩
theorem grown_set {a b : World} {g : Nat} (h : a.grownBy b (some g)) (i : Nat) (u : Value) : a.grownBy (b.setCell ⟨g, i, none⟩ u) (some g) :=
  ⟨h.os, h.tape, h.output, by simpa [World.setCell] using h.size, fun k hk hr => (Below.heap_setCell b ⟨g, i, none⟩ u k (fun e => hr (by rw [e]))).trans (h.block k hk hr)⟩
theorem RW.grown {w w' : World} {bb ob : Nat} {ws : List Nat} {g : Nat} (h : RW w (some ⟨bb, ob, none⟩) ws) (hg : w.grownBy w' (some g)) (hne : bb ≠ g) : RW w' (some ⟨bb, ob, none⟩) ws := by
  rcases h with h | ⟨b, off, e, hb, hc⟩
  · exact .inl h
  · cases e
    exact .inr ⟨bb, ob, rfl, Nat.lt_of_lt_of_le hb hg.size, fun j hj => hg.cell (hc j hj) (by simpa using hne)⟩
end Go.Proofs.YtfciahfdmnnejaaDoor
