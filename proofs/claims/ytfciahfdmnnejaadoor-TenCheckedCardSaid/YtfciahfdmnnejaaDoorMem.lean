/-
  Words in memory: a slice that reads as a list of words; a block that is known whole; a slice that reads as a number.
-/
import Derived.Test.YtfciahfdmnnejaaDoorProg
import Derived.Test.YtfciahfdmnnejaaDoorNat
import Derived.WalkKit
import Derived.Deep.Draws
namespace Go.Proofs.YtfciahfdmnnejaaDoor
open Go.RowKit

/-- A word as a value. -/
abbrev U (x : Nat) : Value := .int .u64 (x : Int)

/-- The address of a slice whose elements are the words 'ws'. -/
def RW (w : World) (A : Option Addr) (ws : List Nat) : Prop :=
  ws = [] ∨ ∃ b off, A = some ⟨b, off, none⟩ ∧ b < w.heap.size ∧ ∀ j, j < ws.length → w.cell? ⟨b, off + j, none⟩ = some (U (ws.getD j 0))

theorem RW.nil (w : World) (A : Option Addr) : RW w A [] := .inl rfl
theorem RW.at_ {w : World} {A : Option Addr} {ws : List Nat} (h : RW w A ws) {k : Nat} (hk : k < ws.length) :
    ∃ b off, A = some ⟨b, off, none⟩ ∧ b < w.heap.size ∧ ∀ j, j < ws.length → w.cell? ⟨b, off + j, none⟩ = some (U (ws.getD j 0)) := by
  rcases h with h | h
  · subst h; simp at hk
  · exact h
theorem RW.keep {w w' : World} {A : Option Addr} {ws : List Nat} (h : RW w A ws) (hs : w.heap.size ≤ w'.heap.size) (hk : ∀ p : Addr, p.block < w.heap.size → w'.cell? p = w.cell? p) : RW w' A ws := by
  rcases h with h | ⟨b, off, e, hb, hc⟩
  · exact .inl h
  · exact .inr ⟨b, off, e, by omega, fun j hj => (hk _ hb).trans (hc j hj)⟩
theorem RW.below {w w' : World} {A : Option Addr} {ws : List Nat} (h : RW w A ws) (hb : Below w.heap.size w w') : RW w' A ws := h.keep hb.size fun _ hp => hb.cell hp
theorem RW.below' {w0 w w' : World} {A : Option Addr} {ws : List Nat} (h : RW w A ws) (hb : Below w0.heap.size w w') (hlt : ∀ a, A = some a → ws ≠ [] → a.block < w0.heap.size) : RW w' A ws := by
  rcases h with h | ⟨b, off, e, hb', hc⟩
  · exact .inl h
  · by_cases hn : ws = []
    · exact .inl hn
    · have h1 := hlt _ e hn
      exact .inr ⟨b, off, e, by have := hb.size; omega, fun j hj => (hb.cell (p := ⟨b, off + j, none⟩) h1).trans (hc j hj)⟩
theorem RW.take {w : World} {A : Option Addr} {ws : List Nat} (h : RW w A ws) (n : Nat) : RW w A (ws.take n) := by
  rcases h with h | ⟨b, off, e, hb, hc⟩
  · subst h; exact .inl (by simp)
  · refine .inr ⟨b, off, e, hb, fun j hj => ?_⟩
    rw [List.length_take] at hj
    rw [hc j (by omega), List.getD_eq_getElem?_getD, List.getD_eq_getElem?_getD, List.getElem?_take, if_pos (by omega)]

/-- Block g is just these cells. -/
def Blk (w : World) (g : Nat) (t : TypeId) (cs : Array Value) : Prop := w.heap[g]? = some (.cells cs t (0, 0))

section
variable {w w' : World} {g : Nat} {t : TypeId} {cs : Array Value}
theorem Blk.lt (h : Blk w g t cs) : g < w.heap.size := by
  rcases Nat.lt_or_ge g w.heap.size with hlt | hge
  · exact hlt
  · unfold Blk at h; rw [Array.getElem?_eq_none hge] at h; cases h
theorem Blk.cell (h : Blk w g t cs) (i : Nat) : w.cell? ⟨g, i, none⟩ = cs[i]? := cell_of_row w g i cs t (0, 0) h
theorem Blk.frozen (h : Blk w g t cs) (i : Nat) : w.frozen? ⟨g, i, none⟩ = false := by
  unfold Blk at h
  simp [World.frozen?, h]
theorem Blk.new (w : World) (t : TypeId) (cs : Array Value) : Blk (w.alloc (.cells cs t)) w.heap.size t cs := heap_alloc_new w _
theorem Blk.drew (h : Blk w g t cs) : Blk w.drew g t cs := h
theorem Blk.drewN (h : Blk w g t cs) (n : Nat) : Blk (w.drewN n) g t cs := h
theorem Blk.alloc (h : Blk w g t cs) (o : Obj) : Blk (w.alloc o) g t cs := (Below.heap_alloc w o g h.lt).trans h
theorem Blk.set_ (h : Blk w g t cs) (i : Nat) (u : Value) : Blk (w.setCell ⟨g, i, none⟩ u) g t (cs.setIfInBounds i u) := by
  unfold Blk at h ⊢
  simp [World.setCell, Array.getElem?_modify, h]
theorem Blk.far (h : Blk w g t cs) {p : Addr} (hp : g ≠ p.block) (u : Value) : Blk (w.setCell p u) g t cs := (Below.heap_setCell w p u g hp).trans h
theorem Blk.below {B : Nat} (h : Blk w g t cs) (hb : Below B w w') (hg : g < B) : Blk w' g t cs := (hb.block g hg).trans h
end

/-- Block g holds the words 'ws' (elements of type 30: uint64). -/
def WB (w : World) (g : Nat) (ws : List Nat) : Prop := Blk w g 30 (ws.map U).toArray
section
variable {w w' : World} {g : Nat} {ws : List Nat}
theorem WB.lt (h : WB w g ws) : g < w.heap.size := Blk.lt h
theorem WB.cell (h : WB w g ws) {j : Nat} (hj : j < ws.length) : w.cell? ⟨g, j, none⟩ = some (U (ws.getD j 0)) := by
  rw [Blk.cell h, List.getElem?_toArray, List.getElem?_map, List.getD_eq_getElem?_getD, List.getElem?_eq_getElem hj]; rfl
theorem WB.frozen (h : WB w g ws) (i : Nat) : w.frozen? ⟨g, i, none⟩ = false := Blk.frozen h i
theorem WB.drew (h : WB w g ws) : WB w.drew g ws := h
theorem WB.drewN (h : WB w g ws) (n : Nat) : WB (w.drewN n) g ws := h
theorem WB.set_ (h : WB w g ws) (i : Nat) (u : Nat) : WB (w.setCell ⟨g, i, none⟩ (U u)) g (ws.set i u) := by
  have h1 := Blk.set_ h i (U u)
  unfold WB
  rw [List.map_set]
  simpa using h1
theorem WB.below {B : Nat} (h : WB w g ws) (hb : Below B w w') (hg : g < B) : WB w' g ws := Blk.below h hb hg
theorem WB.rw_ (h : WB w g ws) : RW w (some ⟨g, 0, none⟩) ws := .inr ⟨g, 0, rfl, h.lt, fun j hj => by rw [Nat.zero_add]; exact h.cell hj⟩
theorem WB.made (w : World) (n : Nat) : WB (w.alloc (.cells (madeCells #[.int .u64 0] n) 30)) w.heap.size (List.replicate n 0) := by
  have e : madeCells #[Value.int .u64 0] n = ((List.replicate n 0).map U).toArray := by
    apply Array.ext
    · simp [madeCells]
    · intro i h1 h2; simp [madeCells, Nat.mod_one]
  unfold WB
  rw [← e]
  exact Blk.new w 30 _
end

/-- A slice that reads as the number x: its words, without noughts at the end. -/
def Num (w : World) (v : Value) (x : Nat) : Prop := ∃ A c, v = .slice A (lw x) c ∧ lw x ≤ c ∧ c ≤ maxLen ∧ RW w A (wds x)
theorem Num.below {w w' : World} {v : Value} {x : Nat} (h : Num w v x) (hb : Below w.heap.size w w') : Num w' v x := by
  obtain ⟨A, c, e, h1, h2, h3⟩ := h
  exact ⟨A, c, e, h1, h2, h3.below hb⟩
theorem Num.drew {w : World} {v : Value} {x : Nat} (h : Num w v x) : Num w.drew v x := h
theorem Num.drewN {w : World} {v : Value} {x : Nat} (h : Num w v x) (n : Nat) : Num (w.drewN n) v x := h
theorem Num.len {w : World} {v : Value} {x : Nat} (h : Num w v x) : lw x ≤ maxLen := by
  obtain ⟨A, c, e, h1, h2, h3⟩ := h
  omega
theorem below_drewN {B : Nat} {a w : World} (h : Below B a w) (n : Nat) : Below B a (w.drewN n) := ⟨h.os, h.tape, h.output, h.size, h.block⟩
end Go.Proofs.YtfciahfdmnnejaaDoor
