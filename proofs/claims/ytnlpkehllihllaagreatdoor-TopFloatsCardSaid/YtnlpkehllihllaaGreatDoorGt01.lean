/-
  A part of the proofs that calipertop.TopBack, TopFloats and TopNearest return true for every input and leave it as it was: part 1 of 47.
-/
import Derived.Test.YtnlpkehllihllaaGreatDoorProg
import Derived.WalkKit
import Derived.Deep.Draws
import Derived.WalkSpells
import Derived.Lib.Hide
import Derived.Shelf.Bits.Mul64
import Derived.Shelf.Spec.BitsCarry
import Derived.Deep.OwnRows
/-
  Plain numbers and lists of words: what a list of 64-bit words is worth, and the one list without noughts at its end that is worth a given number. No program in sight.
-/
namespace Go.Proofs.YtnlpkehllihllaaGreatDoor

/-- What words are worth, the lowest first. -/
def val : List Nat → Nat
  | [] => 0
  | x :: xs => x + 18446744073709551616 * val xs

/-- Every word fits in 64 bits. -/
def okw (ws : List Nat) : Prop := ∀ x ∈ ws, x < 18446744073709551616

/-- The power of the base that stands at a place. -/
def bp (k : Nat) : Nat := 18446744073709551616 ^ k
theorem bp_zero : bp 0 = 1 := rfl
theorem bp_succ (k : Nat) : bp (k + 1) = 18446744073709551616 * bp k := by unfold bp; rw [Nat.pow_succ, Nat.mul_comm]
theorem bp_add (i k : Nat) : bp (i + k) = bp i * bp k := by unfold bp; rw [Nat.pow_add]
theorem bp_pos (k : Nat) : 0 < bp k := Nat.pow_pos (by omega)
theorem bp_two (k : Nat) : bp k = 2 ^ (64 * k) := by unfold bp; rw [Nat.pow_mul]

theorem val_nil : val [] = 0 := rfl
theorem val_cons (x : Nat) (xs : List Nat) : val (x :: xs) = x + 18446744073709551616 * val xs := rfl
theorem val_append (xs ys : List Nat) : val (xs ++ ys) = val xs + bp xs.length * val ys := by
  induction xs with
  | nil => simp [val, bp]
  | cons x xs ih => rw [List.cons_append, val_cons, val_cons, ih, List.length_cons, bp_succ, Nat.mul_add, Nat.mul_assoc, Nat.add_assoc]
theorem val_snoc (xs : List Nat) (y : Nat) : val (xs ++ [y]) = val xs + bp xs.length * y := by rw [val_append, val_cons, val_nil, Nat.mul_zero, Nat.add_zero]
theorem val_replicate (n : Nat) : val (List.replicate n 0) = 0 := by
  induction n with
  | zero => rfl
  | succ n ih => rw [List.replicate_succ, val_cons, ih]
theorem val_lt {ws : List Nat} (h : okw ws) : val ws < bp ws.length := by
  induction ws with
  | nil => simp [val, bp]
  | cons x xs ih =>
    have h1 : x < 18446744073709551616 := h x (by simp)
    have h2 := ih (fun y hy => h y (by simp [hy]))
    rw [val_cons, List.length_cons, bp_succ]
    have : val xs + 1 ≤ bp xs.length := h2
    have := Nat.mul_le_mul_left 18446744073709551616 this
    omega

theorem okw_nil : okw [] := fun _ h => by cases h
theorem okw_append {xs ys : List Nat} (h1 : okw xs) (h2 : okw ys) : okw (xs ++ ys) := fun x hx => by
  rcases List.mem_append.1 hx with h | h
  · exact h1 x h
  · exact h2 x h
theorem okw_take {ws : List Nat} (h : okw ws) (n : Nat) : okw (ws.take n) := fun x hx => h x (List.mem_of_mem_take hx)
theorem okw_drop {ws : List Nat} (h : okw ws) (n : Nat) : okw (ws.drop n) := fun x hx => h x (List.mem_of_mem_drop hx)
theorem okw_replicate (n : Nat) : okw (List.replicate n 0) := fun x hx => by rw [List.eq_of_mem_replicate hx]; omega
theorem rep_getD (n j : Nat) : (List.replicate n 0).getD j 0 = 0 := by
  rw [List.getD_eq_getElem?_getD, List.getElem?_replicate]; split <;> rfl
theorem okw_set {ws : List Nat} (h : okw ws) (i v : Nat) (hv : v < 18446744073709551616) : okw (ws.set i v) := fun x hx => by
  rcases List.mem_or_eq_of_mem_set hx with h' | h'
  · exact h x h'
  · rw [h']; exact hv
theorem okw_get {ws : List Nat} (h : okw ws) (i : Nat) : ws.getD i 0 < 18446744073709551616 := by
  rw [List.getD_eq_getElem?_getD]
  rcases Nat.lt_or_ge i ws.length with hi | hi
  · rw [List.getElem?_eq_getElem hi]; exact h _ (List.getElem_mem hi)
  · rw [List.getElem?_eq_none hi]; simp
theorem okw_cons {x : Nat} {xs : List Nat} (hx : x < 18446744073709551616) (h : okw xs) : okw (x :: xs) := fun y hy => by
  rcases List.mem_cons.1 hy with h' | h'
  · rw [h']; exact hx
  · exact h y h'

/-- One word put in another's place. -/
theorem val_set (ws : List Nat) (i v : Nat) (hi : i < ws.length) : val (ws.set i v) + ws.getD i 0 * bp i = val ws + v * bp i := by
  induction ws generalizing i with
  | nil => simp at hi
  | cons x xs ih =>
    cases i with
    | zero => simp [val, bp]; omega
    | succ i =>
      have h := ih i (by simpa using hi)
      simp only [List.set_cons_succ, val_cons, List.getD_cons_succ, bp_succ]
      have e1 : xs.getD i 0 * (18446744073709551616 * bp i) = 18446744073709551616 * (xs.getD i 0 * bp i) := by rw [Nat.mul_left_comm]
      have e2 : v * (18446744073709551616 * bp i) = 18446744073709551616 * (v * bp i) := by rw [Nat.mul_left_comm]
      rw [e1, e2]
      omega
theorem val_take_succ (ws : List Nat) (k : Nat) (hk : k < ws.length) : val (ws.take (k + 1)) = val (ws.take k) + bp k * ws.getD k 0 := by
  have e : ws.take (k + 1) = ws.take k ++ [ws.getD k 0] := by
    rw [List.take_succ_eq_append_getElem hk, List.getD_eq_getElem?_getD, List.getElem?_eq_getElem hk]; rfl
  rw [e, val_snoc, List.length_take, Nat.min_eq_left (by omega)]
theorem val_split (ws : List Nat) (k : Nat) (hk : k ≤ ws.length) : val ws = val (ws.take k) + bp k * val (ws.drop k) := by
  conv => lhs; rw [← List.take_append_drop k ws]
  rw [val_append, List.length_take, Nat.min_eq_left hk]

/-- How many of the first n words are left without the noughts at their end. -/
def tl (ws : List Nat) : Nat → Nat
  | 0 => 0
  | n + 1 => if ws.getD n 0 = 0 then tl ws n else n + 1
theorem tl_le (ws : List Nat) (n : Nat) : tl ws n ≤ n := by
  induction n with
  | zero => exact Nat.le_refl _
  | succ n ih => unfold tl; split <;> omega
theorem tl_hit (ws : List Nat) (n : Nat) (h : ws.getD n 0 = 0) : tl ws (n + 1) = tl ws n := by rw [tl, if_pos h]
theorem tl_miss (ws : List Nat) (n : Nat) (h : ws.getD n 0 ≠ 0) : tl ws (n + 1) = n + 1 := by rw [tl, if_neg h]
theorem tl_top (ws : List Nat) (n : Nat) : tl ws n = 0 ∨ ws.getD (tl ws n - 1) 0 ≠ 0 := by
  induction n with
  | zero => exact .inl rfl
  | succ n ih =>
    by_cases h : ws.getD n 0 = 0
    · rw [tl_hit _ _ h]; exact ih
    · rw [tl_miss _ _ h]; exact .inr h
theorem tl_zero (ws : List Nat) (n : Nat) (h : tl ws n = 0) : ∀ i, i < n → ws.getD i 0 = 0 := by
  induction n with
  | zero => intro i hi; omega
  | succ n ih =>
    intro i hi
    by_cases h0 : ws.getD n 0 = 0
    · rw [tl_hit _ _ h0] at h
      rcases Nat.lt_or_ge i n with h1 | h1
      · exact ih h i h1
      · rw [show i = n by omega]; exact h0
    · rw [tl_miss _ _ h0] at h; omega
theorem val_tl (ws : List Nat) (n : Nat) (hn : n ≤ ws.length) : val (ws.take (tl ws n)) = val (ws.take n) := by
  induction n with
  | zero => rfl
  | succ n ih =>
    by_cases h : ws.getD n 0 = 0
    · rw [tl_hit _ _ h, ih (by omega), val_take_succ _ _ (by omega), h, Nat.mul_zero, Nat.add_zero]
    · rw [tl_miss _ _ h]

/-- The last word is not 0. -/
def normal (ws : List Nat) : Prop := ws = [] ∨ ws.getD (ws.length - 1) 0 ≠ 0

/-- The words of a number: without noughts at the end. -/
def wds (n : Nat) : List Nat := if h : n = 0 then [] else n % 18446744073709551616 :: wds (n / 18446744073709551616)
termination_by n
decreasing_by omega
theorem wds_zero : wds 0 = [] := by rw [wds]; simp
theorem wds_pos {n : Nat} (h : n ≠ 0) : wds n = n % 18446744073709551616 :: wds (n / 18446744073709551616) := by rw [wds]; simp [h]
theorem val_wds (n : Nat) : val (wds n) = n := by
  induction n using Nat.strongRecOn with
  | _ n ih =>
    by_cases h : n = 0
    · subst h; rw [wds_zero]; rfl
    · rw [wds_pos h, val_cons, ih _ (by omega)]; omega
theorem okw_wds (n : Nat) : okw (wds n) := by
  induction n using Nat.strongRecOn with
  | _ n ih =>
    by_cases h : n = 0
    · subst h; rw [wds_zero]; exact okw_nil
    · rw [wds_pos h]; exact okw_cons (by omega) (ih _ (by omega))
theorem normal_cons {x : Nat} {xs : List Nat} (h : normal xs) (hx : xs = [] → x ≠ 0) : normal (x :: xs) := by
  rcases h with h | h
  · subst h; right; simpa using hx rfl
  · right
    cases xs with
    | nil => simpa using hx rfl
    | cons y ys => simpa using h
theorem normal_wds (n : Nat) : normal (wds n) := by
  induction n using Nat.strongRecOn with
  | _ n ih =>
    by_cases h : n = 0
    · subst h; rw [wds_zero]; exact .inl rfl
    · rw [wds_pos h]
      refine normal_cons (ih _ (by omega)) fun h0 => ?_
      have h1 := val_wds (n / 18446744073709551616)
      rw [h0] at h1
      have : n / 18446744073709551616 = 0 := h1.symm
      omega
theorem normal_tail {x : Nat} {xs : List Nat} (h : normal (x :: xs)) : normal xs := by
  cases xs with
  | nil => exact .inl rfl
  | cons y ys =>
    right
    rcases h with h | h
    · cases h
    · simpa using h
theorem normal_pos {ws : List Nat} (h : normal ws) (hne : ws ≠ []) : bp (ws.length - 1) ≤ val ws := by
  rcases h with h | h
  · exact absurd h hne
  · have hl : 0 < ws.length := List.length_pos_iff.2 hne
    have e := val_take_succ ws (ws.length - 1) (by omega)
    rw [show ws.length - 1 + 1 = ws.length by omega, List.take_length] at e
    rw [e]
    have := Nat.mul_le_mul_left (bp (ws.length - 1)) (Nat.one_le_iff_ne_zero.2 h)
    omega
/-- Words without noughts at their end are those of their number. -/
theorem wds_of {ws : List Nat} (h : okw ws) (hn : normal ws) : wds (val ws) = ws := by
  induction ws with
  | nil => exact wds_zero
  | cons x xs ih =>
    have hx : x < 18446744073709551616 := h x (by simp)
    have h1 := ih (fun y hy => h y (by simp [hy])) (normal_tail hn)
    have hne : val (x :: xs) ≠ 0 := by
      have := normal_pos hn (by simp)
      have := bp_pos ((x :: xs).length - 1)
      omega
    rw [wds_pos hne, val_cons]
    have e1 : (x + 18446744073709551616 * val xs) % 18446744073709551616 = x := by omega
    have e2 : (x + 18446744073709551616 * val xs) / 18446744073709551616 = val xs := by omega
    rw [e1, e2, h1]
/-- The noughts at the end taken off: the words of the number. -/
theorem take_tl {ws : List Nat} (h : okw ws) : ws.take (tl ws ws.length) = wds (val ws) := by
  have hv : val (ws.take (tl ws ws.length)) = val ws := by rw [val_tl _ _ (Nat.le_refl _), List.take_length]
  rw [← hv]
  refine (wds_of (okw_take h _) ?_).symm
  have hl := tl_le ws ws.length
  rcases tl_top ws ws.length with h0 | h0
  · left; rw [h0]; rfl
  · right
    rw [List.length_take, Nat.min_eq_left hl]
    have hpos : 0 < tl ws ws.length := by
      rcases Nat.eq_zero_or_pos (tl ws ws.length) with h1 | h1
      · rw [h1] at h0
        exact absurd (tl_zero ws ws.length h1 0 (by
          rcases Nat.eq_zero_or_pos ws.length with h2 | h2
          · have h3 : ws = [] := List.length_eq_zero_iff.1 h2
            subst h3; simp at h0
          · exact h2)) h0
      · exact h1
    rw [List.getD_eq_getElem?_getD, List.getElem?_take, if_pos (by omega), ← List.getD_eq_getElem?_getD]
    exact h0
theorem tl_len {ws : List Nat} (h : okw ws) : tl ws ws.length = (wds (val ws)).length := by
  rw [← take_tl h, List.length_take, Nat.min_eq_left (tl_le _ _)]
theorem tl_wds (n : Nat) : tl (wds n) (wds n).length = (wds n).length := by rw [tl_len (okw_wds n), val_wds]

/-- How many words a number has. -/
def lw (n : Nat) : Nat := (wds n).length
theorem wds_length (n : Nat) : (wds n).length = lw n := rfl
theorem take_wds (n : Nat) : (wds n).take (lw n) = wds n := List.take_of_length_le (Nat.le_refl _)
theorem lw_zero : lw 0 = 0 := by unfold lw; rw [wds_zero]; rfl
theorem lw_lt (n : Nat) : n < bp (lw n) := by have := val_lt (okw_wds n); rwa [val_wds] at this
theorem lw_ge {n : Nat} (h : n ≠ 0) : bp (lw n - 1) ≤ n := by
  have := normal_pos (normal_wds n) (by rw [wds_pos h]; simp)
  rwa [val_wds] at this
theorem bp_mono {i k : Nat} (h : i ≤ k) : bp i ≤ bp k := Nat.pow_le_pow_right (by omega) h
theorem bp_lt {i k : Nat} (h : i < k) : bp i < bp k := Nat.pow_lt_pow_right (by omega) h
theorem lw_le {n k : Nat} (h : n < bp k) : lw n ≤ k := by
  by_cases h0 : n = 0
  · subst h0; rw [lw_zero]; omega
  · have h1 := lw_ge h0
    by_cases h2 : lw n ≤ k
    · exact h2
    · have := bp_mono (show k ≤ lw n - 1 by omega)
      omega
theorem lw_pos {n : Nat} (h : n ≠ 0) : 0 < lw n := by unfold lw; rw [wds_pos h]; simp
theorem lw_eq_zero {n : Nat} : lw n = 0 ↔ n = 0 := by
  constructor
  · intro h
    by_cases h0 : n = 0
    · exact h0
    · have := lw_pos h0; omega
  · intro h; subst h; exact lw_zero
theorem lw_mul (x y : Nat) : lw (x * y) ≤ lw x + lw y := by
  refine lw_le ?_
  rw [bp_add]
  exact Nat.mul_lt_mul'' (lw_lt x) (lw_lt y)
theorem lw_mono {x y : Nat} (h : x ≤ y) : lw x ≤ lw y := lw_le (Nat.lt_of_le_of_lt h (lw_lt y))
theorem lw_add (x y : Nat) : lw (x + y) ≤ max (lw x) (lw y) + 1 := by
  refine lw_le ?_
  have h1 := lw_lt x
  have h2 := lw_lt y
  have h3 := bp_mono (Nat.le_max_left (lw x) (lw y))
  have h4 := bp_mono (Nat.le_max_right (lw x) (lw y))
  rw [bp_succ]
  have := bp_pos (max (lw x) (lw y))
  omega
theorem wds_get (n i : Nat) : (wds n).getD i 0 < 18446744073709551616 := okw_get (okw_wds n) i
/-- The word at a place, by division. -/
theorem wds_at (n i : Nat) : (wds n).getD i 0 = n / bp i % 18446744073709551616 := by
  induction i generalizing n with
  | zero =>
    by_cases h : n = 0
    · subst h; rw [wds_zero]; simp
    · rw [wds_pos h, bp_zero]; simp
  | succ i ih =>
    by_cases h : n = 0
    · subst h; rw [wds_zero]; simp
    · rw [wds_pos h, List.getD_cons_succ, ih, bp_succ, Nat.div_div_eq_div_mul]
theorem wds_word {n : Nat} (h : n < 18446744073709551616) (h0 : n ≠ 0) : wds n = [n] := by
  rw [wds_pos h0, show n / 18446744073709551616 = 0 by omega, wds_zero, Nat.mod_eq_of_lt h]
theorem lw_word {n : Nat} (h : n < 18446744073709551616) (h0 : n ≠ 0) : lw n = 1 := by unfold lw; rw [wds_word h h0]; rfl
theorem lw_one {n : Nat} (h : lw n = 1) : n < 18446744073709551616 ∧ n ≠ 0 := by
  have h1 := lw_lt n
  rw [h] at h1
  refine ⟨by simpa [bp] using h1, fun h0 => ?_⟩
  subst h0; rw [lw_zero] at h; omega
end Go.Proofs.YtnlpkehllihllaaGreatDoor

/-
  Words in memory: a slice that reads as a list of words; a block that is known whole; a slice that reads as a number.
-/
namespace Go.Proofs.YtnlpkehllihllaaGreatDoor
open Go.RowKit

/-- A word as a value. -/
abbrev U (x : Nat) : Value := .int .u64 (x : Int)

/-- The address of a slice whose elements are the words 'ws'. -/
def RW (w : World) (A : Option Addr) (ws : List Nat) : Prop :=
  ws = [] ∨ ∃ b off, A = some ⟨b, off, none⟩ ∧ b < w.heap.size ∧ ∀ j, j < ws.length → w.cell? ⟨b, off + j, none⟩ = some (U (ws.getD j 0))

theorem RW.nil (w : World) (A : Option Addr) : RW w A [] := .inl rfl
theorem RW.at_ {w : World} {A : Option Addr} {ws : List Nat} (h : RW w A ws) {k : Nat} (hk : k < ws.length) :
    ∃ b off, A = some ⟨b, off, none⟩ ∧ b < w.heap.size ∧ ∀ j, j < ws.length → w.cell? ⟨b, off + j, none⟩ = some (U (ws.getD j 0)) := by
  rcases h with h | h
  · subst h; simp at hk
  · exact h
theorem RW.keep {w w' : World} {A : Option Addr} {ws : List Nat} (h : RW w A ws) (hs : w.heap.size ≤ w'.heap.size) (hk : ∀ p : Addr, p.block < w.heap.size → w'.cell? p = w.cell? p) : RW w' A ws := by
  rcases h with h | ⟨b, off, e, hb, hc⟩
  · exact .inl h
  · exact .inr ⟨b, off, e, by omega, fun j hj => (hk _ hb).trans (hc j hj)⟩
theorem RW.below {w w' : World} {A : Option Addr} {ws : List Nat} (h : RW w A ws) (hb : Below w.heap.size w w') : RW w' A ws := h.keep hb.size fun _ hp => hb.cell hp
theorem RW.below' {w0 w w' : World} {A : Option Addr} {ws : List Nat} (h : RW w A ws) (hb : Below w0.heap.size w w') (hlt : ∀ a, A = some a → ws ≠ [] → a.block < w0.heap.size) : RW w' A ws := by
  rcases h with h | ⟨b, off, e, hb', hc⟩
  · exact .inl h
  · by_cases hn : ws = []
    · exact .inl hn
    · have h1 := hlt _ e hn
      exact .inr ⟨b, off, e, by have := hb.size; omega, fun j hj => (hb.cell (p := ⟨b, off + j, none⟩) h1).trans (hc j hj)⟩
theorem RW.take {w : World} {A : Option Addr} {ws : List Nat} (h : RW w A ws) (n : Nat) : RW w A (ws.take n) := by
  rcases h with h | ⟨b, off, e, hb, hc⟩
  · subst h; exact .inl (by simp)
  · refine .inr ⟨b, off, e, hb, fun j hj => ?_⟩
    rw [List.length_take] at hj
    rw [hc j (by omega), List.getD_eq_getElem?_getD, List.getD_eq_getElem?_getD, List.getElem?_take, if_pos (by omega)]

/-- Block g is just these cells. -/
def Blk (w : World) (g : Nat) (t : TypeId) (cs : Array Value) : Prop := w.heap[g]? = some (.cells cs t (0, 0))

section
variable {w w' : World} {g : Nat} {t : TypeId} {cs : Array Value}
theorem Blk.lt (h : Blk w g t cs) : g < w.heap.size := by
  rcases Nat.lt_or_ge g w.heap.size with hlt | hge
  · exact hlt
  · unfold Blk at h; rw [Array.getElem?_eq_none hge] at h; cases h
theorem Blk.cell (h : Blk w g t cs) (i : Nat) : w.cell? ⟨g, i, none⟩ = cs[i]? := cell_of_row w g i cs t (0, 0) h
theorem Blk.frozen (h : Blk w g t cs) (i : Nat) : w.frozen? ⟨g, i, none⟩ = false := by
  unfold Blk at h
  simp [World.frozen?, h]
theorem Blk.new (w : World) (t : TypeId) (cs : Array Value) : Blk (w.alloc (.cells cs t)) w.heap.size t cs := heap_alloc_new w _
theorem Blk.drew (h : Blk w g t cs) : Blk w.drew g t cs := h
theorem Blk.drewN (h : Blk w g t cs) (n : Nat) : Blk (w.drewN n) g t cs := h
theorem Blk.alloc (h : Blk w g t cs) (o : Obj) : Blk (w.alloc o) g t cs := (Below.heap_alloc w o g h.lt).trans h
theorem Blk.set_ (h : Blk w g t cs) (i : Nat) (u : Value) : Blk (w.setCell ⟨g, i, none⟩ u) g t (cs.setIfInBounds i u) := by
  unfold Blk at h ⊢
  simp [World.setCell, Array.getElem?_modify, h]
theorem Blk.far (h : Blk w g t cs) {p : Addr} (hp : g ≠ p.block) (u : Value) : Blk (w.setCell p u) g t cs := (Below.heap_setCell w p u g hp).trans h
theorem Blk.below {B : Nat} (h : Blk w g t cs) (hb : Below B w w') (hg : g < B) : Blk w' g t cs := (hb.block g hg).trans h
end

/-- Block g holds the words 'ws' (elements of type 26: uint64). -/
def WB (w : World) (g : Nat) (ws : List Nat) : Prop := Blk w g 26 (ws.map U).toArray
section
variable {w w' : World} {g : Nat} {ws : List Nat}
theorem WB.lt (h : WB w g ws) : g < w.heap.size := Blk.lt h
theorem WB.cell (h : WB w g ws) {j : Nat} (hj : j < ws.length) : w.cell? ⟨g, j, none⟩ = some (U (ws.getD j 0)) := by
  rw [Blk.cell h, List.getElem?_toArray, List.getElem?_map, List.getD_eq_getElem?_getD, List.getElem?_eq_getElem hj]; rfl
theorem WB.frozen (h : WB w g ws) (i : Nat) : w.frozen? ⟨g, i, none⟩ = false := Blk.frozen h i
theorem WB.drew (h : WB w g ws) : WB w.drew g ws := h
theorem WB.drewN (h : WB w g ws) (n : Nat) : WB (w.drewN n) g ws := h
theorem WB.set_ (h : WB w g ws) (i : Nat) (u : Nat) : WB (w.setCell ⟨g, i, none⟩ (U u)) g (ws.set i u) := by
  have h1 := Blk.set_ h i (U u)
  unfold WB
  rw [List.map_set]
  simpa using h1
theorem WB.below {B : Nat} (h : WB w g ws) (hb : Below B w w') (hg : g < B) : WB w' g ws := Blk.below h hb hg
theorem WB.rw_ (h : WB w g ws) : RW w (some ⟨g, 0, none⟩) ws := .inr ⟨g, 0, rfl, h.lt, fun j hj => by rw [Nat.zero_add]; exact h.cell hj⟩
theorem WB.made (w : World) (n : Nat) : WB (w.alloc (.cells (madeCells #[.int .u64 0] n) 26)) w.heap.size (List.replicate n 0) := by
  have e : madeCells #[Value.int .u64 0] n = ((List.replicate n 0).map U).toArray := by
    apply Array.ext
    · simp [madeCells]
    · intro i h1 h2; simp [madeCells, Nat.mod_one]
  unfold WB
  rw [← e]
  exact Blk.new w 26 _
end

/-- A slice that reads as the number x: its words, without noughts at the end. -/
def Num (w : World) (v : Value) (x : Nat) : Prop := ∃ A c, v = .slice A (lw x) c ∧ lw x ≤ c ∧ c ≤ maxLen ∧ RW w A (wds x)
theorem Num.below {w w' : World} {v : Value} {x : Nat} (h : Num w v x) (hb : Below w.heap.size w w') : Num w' v x := by
  obtain ⟨A, c, e, h1, h2, h3⟩ := h
  exact ⟨A, c, e, h1, h2, h3.below hb⟩
theorem Num.drew {w : World} {v : Value} {x : Nat} (h : Num w v x) : Num w.drew v x := h
theorem Num.drewN {w : World} {v : Value} {x : Nat} (h : Num w v x) (n : Nat) : Num (w.drewN n) v x := h
theorem Num.len {w : World} {v : Value} {x : Nat} (h : Num w v x) : lw x ≤ maxLen := by
  obtain ⟨A, c, e, h1, h2, h3⟩ := h
  omega
theorem below_drewN {B : Nat} {a w : World} (h : Below B a w) (n : Nat) : Below B a (w.drewN n) := ⟨h.os, h.tape, h.output, h.size, h.block⟩
end Go.Proofs.YtnlpkehllihllaaGreatDoor

/-
  Small functions: nat.at, cmp.Compare, Add64, Sub64, Mul64, Len64.
-/
namespace Go.Proofs.YtnlpkehllihllaaGreatDoor
open Go.RowKit

theorem ret_int {k : IntKind} {a b : Int} (h : a = b) : Ending.returned (.int k a) = .returned (.int k b) := by rw [h]
theorem ret_bool {a b : Bool} (h : a = b) : Ending.returned (.bool a) = .returned (.bool b) := by rw [h]

set_option maxHeartbeats 400000 in
/-- nat.at: the word at a place; 0 behind the last one. -/
theorem at_any (A : Option Addr) (n c : Nat) (ws : List Nat) (i : Int) (w : World) (hr : RW w A ws) (hl : ws.length = n) (hi0 : 0 ≤ i) (hi : i ≤ 9223372036854775807) :
    Calls Tryz.prog 28 #[.slice A n c, .int .i64 i] w fun e w' => e = .returned (U (ws.getD i.toNat 0)) ∧ w = w' := by
  have Hl := Lib.hid hl
  clear hl
  by_cases h : i < n
  · obtain ⟨b, off, rfl, hb, hcell⟩ := hr.at_ (k := i.toNat) (by rw [Hl.out]; omega)
    have hcm := hcell i.toNat (by rw [Hl.out]; omega)
    obtain ⟨x, hx⟩ : ∃ x : Nat, x = ws.getD i.toNat 0 := ⟨_, rfl⟩
    rw [← hx] at hcm
    have Hx := Lib.hid hx
    rw [← hx]
    clear hx hcell
    go_enter Tryz.func28, Tryz.ntmps28
    go_wp2
    go_ret
    exact ⟨rfl, rfl⟩
  · have e : ws.getD i.toNat 0 = 0 := by rw [List.getD_eq_getElem?_getD, List.getElem?_eq_none (by rw [Hl.out]; omega)]; rfl
    rw [e]
    clear e
    go_enter Tryz.func28, Tryz.ntmps28
    go_wp2
    go_ret
    exact ⟨rfl, rfl⟩

/-- A power that is cut. -/
def cutI (n : Int) : Int := min (max n (-5000)) 5000

/-- cmp.Compare. -/
def cmpI (a b : Int) : Int := if a < b then -1 else if b < a then 1 else 0
set_option maxHeartbeats 400000 in
theorem compare_int (a b : Int) (w : World) : Calls Tryz.prog 56 #[.int .i64 a, .int .i64 b] w fun e w' => e = .returned (.int .i64 (cmpI a b)) ∧ w = w' := by
  go_enter Tryz.func56, Tryz.ntmps56
  go_wp2
  all_goals
    go_ret
    exact ⟨ret_int (by unfold cmpI; omega), rfl⟩
set_option maxHeartbeats 400000 in
theorem compare_u64 (a b : Int) (w : World) : Calls Tryz.prog 57 #[.int .u64 a, .int .u64 b] w fun e w' => e = .returned (.int .i64 (cmpI a b)) ∧ w = w' := by
  go_enter Tryz.func57, Tryz.ntmps57
  go_wp2
  all_goals
    go_ret
    exact ⟨ret_int (by unfold cmpI; omega), rfl⟩

/-- math/bits.Add64: the sum and the carry. -/
def sumI (x y c : Int) : Int := (x + y + c) % 18446744073709551616
def carI (x y c : Int) : Int := (x + y + c) / 18446744073709551616
theorem sumI_nat (x y c : Nat) : sumI x y c = ((x + y + c) % 18446744073709551616 : Nat) := by unfold sumI; omega
theorem carI_nat (x y c : Nat) : carI x y c = ((x + y + c) / 18446744073709551616 : Nat) := by unfold carI; omega
theorem run_add64' (x y c : Int) (hx0 : 0 ≤ x) (hy0 : 0 ≤ y) (hc0 : 0 ≤ c) (hc : c ≤ 1) (w : World) :
    (callFunc 27 #[.int .u64 x, .int .u64 y, .int .u64 c]).run Tryz.prog w = .ok (.value (.tuple #[.int .u64 (sumI x y c), .int .u64 (carI x y c)])) w := by
  obtain ⟨x, rfl⟩ := Int.eq_ofNat_of_zero_le hx0
  obtain ⟨y, rfl⟩ := Int.eq_ofNat_of_zero_le hy0
  obtain ⟨c, rfl⟩ := Int.eq_ofNat_of_zero_le hc0
  rw [run_callFunc_extern Tryz.func27 (by kernel_rfl) (by kernel_rfl) (by kernel_rfl) (e := add64Entry) (by kernel_rfl), run_add64 x y c (by omega) (by omega) (by omega) (by omega)]
  rw [sumI_nat, carI_nat]
  simp only [Result.andThen]
  congr 5 <;> omega

/-- math/bits.Sub64: the difference and the borrow. -/
def difI (x y b : Int) : Int := (x + 18446744073709551616 - y - b) % 18446744073709551616
def borI (x y b : Int) : Int := if x < y + b then 1 else 0
theorem run_sub64' (x y b : Int) (hx0 : 0 ≤ x) (hy0 : 0 ≤ y) (hb0 : 0 ≤ b) (hb : b ≤ 1) (hy : y ≤ 18446744073709551615) (w : World) :
    (callFunc 126 #[.int .u64 x, .int .u64 y, .int .u64 b]).run Tryz.prog w = .ok (.value (.tuple #[.int .u64 (difI x y b), .int .u64 (borI x y b)])) w := by
  obtain ⟨x, rfl⟩ := Int.eq_ofNat_of_zero_le hx0
  obtain ⟨y, rfl⟩ := Int.eq_ofNat_of_zero_le hy0
  obtain ⟨b, rfl⟩ := Int.eq_ofNat_of_zero_le hb0
  rw [run_callFunc_extern Tryz.func126 (by kernel_rfl) (by kernel_rfl) (by kernel_rfl) (e := sub64Entry) (by kernel_rfl), run_sub64 x y b (by omega)]
  have e1 : difI x y b = (((x + 18446744073709551616 - y - b) % 18446744073709551616 : Nat) : Int) := by unfold difI; omega
  have e2 : borI x y b = ((if x < y + b then 1 else 0 : Nat) : Int) := by unfold borI; split <;> split <;> omega
  rw [e1, e2]
  rfl

/-- math/bits.Mul64: the high word and the low word. -/
def mulhI (x y : Int) : Int := x * y / 18446744073709551616
def mullI (x y : Int) : Int := x * y % 18446744073709551616
theorem mulhI_nat (x y : Nat) : mulhI x y = ((x * y / 18446744073709551616 : Nat) : Int) := by unfold mulhI; rw [← Int.natCast_mul]; omega
theorem mullI_nat (x y : Nat) : mullI x y = ((x * y % 18446744073709551616 : Nat) : Int) := by unfold mullI; rw [← Int.natCast_mul]; omega
set_option maxHeartbeats 1000000 in
theorem mul64_nat (x y : Nat) (hx : x < 18446744073709551616) (hy : y < 18446744073709551616) (w : World) :
    Calls Tryz.prog 92 #[.int .u64 x, .int .u64 y] w fun e w' => e = .returned (.tuple #[.int .u64 ((x * y / 18446744073709551616 : Nat) : Int), .int .u64 ((x * y % 18446744073709551616 : Nat) : Int)]) ∧ w = w' := by
  obtain ⟨bd, bt, bw, hhi⟩ := Lib.mul64_hi x y hx hy
  have ba := Lib.half_mul_le (a := x / 4294967296) (b := y / 4294967296) (by omega) (by omega)
  have bb := Lib.half_mul_le (a := x / 4294967296) (b := y % 4294967296) (by omega) (by omega)
  have bc := Lib.half_mul_le (a := x % 4294967296) (b := y / 4294967296) (by omega) (by omega)
  have ba' : x / 4294967296 * (y / 4294967296) < 18446744073709551616 := by omega
  have bb' : x / 4294967296 * (y % 4294967296) < 18446744073709551616 := by omega
  have bc' : x % 4294967296 * (y / 4294967296) < 18446744073709551616 := by omega
  have bh1 : x / 4294967296 * (y / 4294967296) + (x / 4294967296 * (y % 4294967296) + x % 4294967296 * (y % 4294967296) / 4294967296) / 4294967296 < 18446744073709551616 := by omega
  have bh : x / 4294967296 * (y / 4294967296) + (x / 4294967296 * (y % 4294967296) + x % 4294967296 * (y % 4294967296) / 4294967296) / 4294967296 + ((x / 4294967296 * (y % 4294967296) + x % 4294967296 * (y % 4294967296) / 4294967296) % 4294967296 + x % 4294967296 * (y / 4294967296)) / 4294967296 < 18446744073709551616 := by omega
  go_enter Tryz.func92, Tryz.ntmps92
  go_wp2
  simp only [Mul64.maskN x hx, Mul64.maskN y hy, Mul64.divN, Mul64.mulN, Mul64.addN, Mul64.wrapN _ bd, Mul64.wrapN _ bb', Mul64.wrapN _ bt, Mul64.maskN _ bt, Mul64.wrapN _ bc', Mul64.wrapN _ bw, Mul64.wrapN _ ba', Mul64.wrapN _ bh1, Mul64.wrapN _ bh, Mul64.wrapM (x * y)]
  rw [hhi]
  go_ret2
  exact ⟨rfl, rfl⟩
theorem mul64_any (x y : Int) (hx0 : 0 ≤ x) (hx : x ≤ 18446744073709551615) (hy0 : 0 ≤ y) (hy : y ≤ 18446744073709551615) (w : World) :
    Calls Tryz.prog 92 #[.int .u64 x, .int .u64 y] w fun e w' => e = .returned (.tuple #[.int .u64 (mulhI x y), .int .u64 (mullI x y)]) ∧ w = w' := by
  obtain ⟨x, rfl⟩ := Int.eq_ofNat_of_zero_le hx0
  obtain ⟨y, rfl⟩ := Int.eq_ofNat_of_zero_le hy0
  rw [mulhI_nat, mullI_nat]
  exact mul64_nat x y (by omega) (by omega) w
end Go.Proofs.YtnlpkehllihllaaGreatDoor

/-
  The plain arithmetic of a product of words, word by word.
-/
namespace Go.Proofs.YtnlpkehllihllaaGreatDoor

theorem mul_bound {x y : Nat} (hx : x < 18446744073709551616) (hy : y < 18446744073709551616) : x * y ≤ 18446744073709551615 * 18446744073709551615 := Nat.mul_le_mul (by omega) (by omega)

/-- What a step of the inner loop leaves: the new word, the new carry. -/
theorem mul_word (x y c o : Nat) (hx : x < 18446744073709551616) (hy : y < 18446744073709551616) (hc : c < 18446744073709551616) (ho : o < 18446744073709551616) :
    ∃ t d : Nat, t < 18446744073709551616 ∧ d < 18446744073709551616 ∧ t + 18446744073709551616 * d = x * y + c + o ∧
      (sumI (o : Int) (sumI (mullI x y) c 0) 0 = (t : Int)) ∧ (mulhI x y + carI (mullI x y) c 0 + carI (o : Int) (sumI (mullI x y) c 0) 0 = (d : Int)) ∧
      0 ≤ mullI x y ∧ 0 ≤ sumI (mullI x y) c 0 ∧ sumI (mullI x y) c 0 ≤ 18446744073709551615 ∧
      0 ≤ mulhI x y + carI (mullI x y) c 0 ∧ mulhI x y + carI (mullI x y) c 0 ≤ 18446744073709551615 := by
  have hb := mul_bound hx hy
  rw [mulhI_nat, mullI_nat]
  generalize x * y = p at *
  have e1 : sumI ((p % 18446744073709551616 : Nat) : Int) c 0 = (((p % 18446744073709551616 + c) % 18446744073709551616 : Nat) : Int) := sumI_nat (p % 18446744073709551616) c 0
  have e2 : carI ((p % 18446744073709551616 : Nat) : Int) c 0 = (((p % 18446744073709551616 + c) / 18446744073709551616 : Nat) : Int) := carI_nat (p % 18446744073709551616) c 0
  rw [e1, e2]
  have e3 : sumI (o : Int) (((p % 18446744073709551616 + c) % 18446744073709551616 : Nat) : Int) 0 = (((o + (p % 18446744073709551616 + c) % 18446744073709551616) % 18446744073709551616 : Nat) : Int) := sumI_nat o _ 0
  have e4 : carI (o : Int) (((p % 18446744073709551616 + c) % 18446744073709551616 : Nat) : Int) 0 = (((o + (p % 18446744073709551616 + c) % 18446744073709551616) / 18446744073709551616 : Nat) : Int) := carI_nat o _ 0
  rw [e3, e4]
  refine ⟨(o + (p % 18446744073709551616 + c) % 18446744073709551616) % 18446744073709551616,
    p / 18446744073709551616 + (p % 18446744073709551616 + c) / 18446744073709551616 + (o + (p % 18446744073709551616 + c) % 18446744073709551616) / 18446744073709551616, ?_, ?_, ?_, rfl, ?_, ?_, ?_, ?_, ?_, ?_⟩ <;> omega

/-- A step of the inner loop. -/
theorem mul_inner (o : List Nat) (i m x c v t d : Nat) (wy : List Nat) (hm : m < wy.length) (hi : i + m < o.length)
    (hv : val o + c * bp (i + m) = v + x * val (wy.take m) * bp i) (ht : t + 18446744073709551616 * d = x * wy.getD m 0 + c + o.getD (i + m) 0) :
    val (o.set (i + m) t) + d * bp (i + (m + 1)) = v + x * val (wy.take (m + 1)) * bp i := by
  have h1 := val_set o (i + m) t hi
  rw [val_take_succ wy m hm, Nat.mul_add, Nat.add_mul]
  have e1 : d * bp (i + (m + 1)) = 18446744073709551616 * d * bp (i + m) := by rw [← Nat.add_assoc, bp_succ, ← Nat.mul_assoc, Nat.mul_comm d]
  have e2 : x * (bp m * wy.getD m 0) * bp i = x * wy.getD m 0 * bp (i + m) := by
    rw [bp_add, Nat.mul_comm (bp m), ← Nat.mul_assoc, Nat.mul_assoc, Nat.mul_comm (bp m)]
  rw [e1, e2]
  have e3 : (t + 18446744073709551616 * d) * bp (i + m) = (x * wy.getD m 0 + c + o.getD (i + m) 0) * bp (i + m) := by rw [ht]
  rw [Nat.add_mul, Nat.add_mul, Nat.add_mul] at e3
  omega

theorem val_small (o : List Nat) (m : Nat) (h : val o < bp m) : ∀ j, m ≤ j → o.getD j 0 = 0 := by
  induction o generalizing m with
  | nil => intro j _; simp
  | cons x xs ih =>
    intro j hj
    cases j with
    | zero =>
      have : m = 0 := by omega
      subst this
      rw [val_cons, bp_zero] at h
      simp; omega
    | succ j =>
      rw [List.getD_cons_succ]
      cases m with
      | zero =>
        rw [val_cons, bp_zero] at h
        exact ih 0 (by rw [bp_zero]; omega) j (by omega)
      | succ m =>
        rw [val_cons, bp_succ] at h
        exact ih m (by
          rcases Nat.lt_or_ge (val xs) (bp m) with h' | h'
          · exact h'
          · have := Nat.mul_le_mul_left 18446744073709551616 h'; omega) j (by omega)

/-- The outer loop's round, behind the inner loop: the carry is put in its place. -/
theorem mul_outer (o o' : List Nat) (i ly x y c : Nat) (hl : i + ly < o'.length) (ho : o'.getD (i + ly) 0 = 0)
    (hv : val o' + c * bp (i + ly) = val o + x * y * bp i) : val (o'.set (i + ly) c) = val o + x * bp i * y := by
  have h1 := val_set o' (i + ly) c hl
  rw [ho, Nat.zero_mul, Nat.add_zero, hv] at h1
  rw [h1, Nat.mul_assoc, Nat.mul_comm y, Nat.mul_assoc]
end Go.Proofs.YtnlpkehllihllaaGreatDoor

/-
  The walk of nat.trim.
-/
namespace Go.Proofs.YtnlpkehllihllaaGreatDoor
open Go.RowKit

set_option maxHeartbeats 400000 in
/-- nat.trim: the same address, up to the last word that is not 0. -/
theorem trim_any (A : Option Addr) (n c : Nat) (ws : List Nat) (w : World) (hr : RW w A ws) (hl : ws.length = n) (hc : n ≤ c) (hm : c ≤ maxLen) :
    Calls Tryz.prog 29 #[.slice A n c] w fun e w' => e = .returned (.slice A (tl ws n) (tl ws n)) ∧ w = w' := by
  unfold maxLen at hm
  have Hl := Lib.hid hl
  clear hl
  go_enter Tryz.func29, Tryz.ntmps29
  go_wp2
  go_loop [3] (fun i => ∃ k : Nat, k ≤ n ∧ i = .int .i64 k ∧ Hid (tl ws n = tl ws k)) (fun i => (intOf i).toNat)
  case atStart => exact ⟨n, Nat.le_refl _, rfl, rfl⟩
  case round =>
    obtain ⟨k, hk, rfl, ht⟩ := hrel
    by_cases h0 : k = 0
    · subst h0
      have e0 := Lib.hid (show tl ws n = 0 from ht.out)
      go_wp2
      go_ret
      rw [e0.out]; exact ⟨rfl, rfl⟩
    · obtain ⟨b, off, rfl, hb, hcell⟩ := hr.at_ (k := k - 1) (by rw [Hl.out]; omega)
      obtain ⟨m, rfl⟩ : ∃ m, k = m + 1 := ⟨k - 1, by omega⟩
      have hcm := hcell m (by rw [Hl.out]; omega)
      obtain ⟨x, hx⟩ : ∃ x : Nat, x = ws.getD m 0 := ⟨_, rfl⟩
      rw [← hx] at hcm
      have Hx := Lib.hid hx
      clear hx hcell
      by_cases hz : x = 0
      · subst hz
        go_wp2
        go_round
        case rel => exact ⟨m, by omega, rfl, by rw [ht.out]; exact tl_hit _ _ Hx.out.symm⟩
        case measure => simp [intOf]
      · have hz' : ((x : Int) == 0) = false := by simp; omega
        have e0 := ht.out
        rw [tl_miss _ _ (by rw [← Hx.out]; exact hz)] at e0
        have E0 := Lib.hid e0
        clear e0
        go_wp2
        go_ret
        rw [E0.out]; exact ⟨rfl, rfl⟩
end Go.Proofs.YtnlpkehllihllaaGreatDoor

/-
  The walk of nat.Mul.
-/
namespace Go.Proofs.YtnlpkehllihllaaGreatDoor
open Go.RowKit

theorem info30 : (Tryz.prog.info? 26).map (fun i => (i.zero, i.size, i.bytes)) = some (some (.int .u64 0), 1, 8) := by kernel_rfl
/-- make([]uint64, n) at api.Nat. -/
theorem make_nat (n : Nat) (hn : n ≤ 17592186044416) (W : World) :
    (Instr.makeSlice 23 (.int .i64 (n : Int)) (.int .i64 (n : Int))).run Tryz.prog W = .ok (.slice (some ⟨W.heap.size, 0, none⟩) n n) (W.alloc (.cells (madeCells #[.int .u64 0] n) 26)) :=
  run_make_row' (P := Tryz.prog) 23 26 (.int .u64 0) 8 Tryz.underlying23 info30 rfl .i64 .i64 n (by omega) (by omega) W

/-- What trim leaves of a block of words is the number that they are worth. -/
theorem num_of_wb {w : World} {g n : Nat} {o : List Nat} (h : WB w g o) (hl : o.length = n) (ho : okw o) (hn : n ≤ maxLen) : Num w (.slice (some ⟨g, 0, none⟩) (tl o n) (tl o n)) (val o) := by
  subst hl
  have e := tl_len ho
  refine ⟨some ⟨g, 0, none⟩, tl o o.length, by rw [e]; rfl, by rw [e]; exact Nat.le_refl _, ?_, ?_⟩
  · exact Nat.le_trans (tl_le _ _) hn
  · rw [← take_tl ho]; exact h.rw_.take _

set_option maxHeartbeats 1600000 in
set_option maxRecDepth 100000 in
/-- nat.Mul: the product. -/
theorem mul_any (va vb : Value) (x y : Nat) (w : World) (ha : Num w va x) (hb : Num w vb y) (hs : lw x + lw y ≤ 17592186044416) :
    Calls Tryz.prog 59 #[va, vb] w fun e w' => ∃ v, e = .returned v ∧ Num w' v (x * y) ∧ Below w.heap.size w w' := by
  obtain ⟨A, ca, rfl, hca, hma, hra⟩ := ha
  obtain ⟨B, cb, rfl, hcb, hmb, hrb⟩ := hb
  have hmk := fun W => make_nat (lw x + lw y) hs W
  rw [Int.natCast_add] at hmk
  go_enter Tryz.func59, Tryz.ntmps59
  go_wp2
  have hw0 : WB (w.alloc (.cells (madeCells #[.int .u64 0] (lw x + lw y)) 26)) w.heap.size (List.replicate (lw x + lw y) 0) := WB.made w _
  have hb0 : Below w.heap.size w (w.alloc (.cells (madeCells #[.int .u64 0] (lw x + lw y)) 26)) := (Below.refl _ _).alloc (Nat.le_refl _) _
  clear hmk
  go_loopw [22] (fun i wr => ∃ (k : Nat) (o : List Nat), k ≤ lw x ∧ i = .int .i64 k ∧ Hid (WB wr w.heap.size o) ∧ Hid (o.length = lw x + lw y) ∧ Hid (okw o) ∧ Hid (val o = val ((wds x).take k) * y) ∧ Below w.heap.size w wr)
    (fun i _ => lw x - (intOf i).toNat)
  case atStart => exact ⟨0, _, Nat.zero_le _, rfl, hw0, List.length_replicate, okw_replicate _, Lib.hid (by rw [val_replicate]; simp [val]), hb0⟩
  case round =>
    obtain ⟨k, o, hk, rfl, ho1, ho2, ho3, ho4, hbe⟩ := hrel
    by_cases hlt : k < lw x
    · obtain ⟨ba, oa, rfl, hba, hcella⟩ := hra.at_ (k := k) hlt
      have hcx : wr.cell? ⟨ba, oa + k, none⟩ = some (U ((wds x).getD k 0)) := (hbe.cell (p := ⟨ba, oa + k, none⟩) hba).trans (hcella k hlt)
      have hxw := wds_get x k
      obtain ⟨xi, hxi⟩ : ∃ xi : Nat, xi = (wds x).getD k 0 := ⟨_, rfl⟩
      rw [← hxi] at hcx hxw
      have Hxi := Lib.hid hxi
      clear hxi hcella
      obtain ⟨wo, rfl⟩ : ∃ wo : World, wo = wr := ⟨_, rfl⟩
      have Hz : Hid (∀ t, k + lw y ≤ t → o.getD t 0 = 0) := Lib.hid (fun t ht => val_small o (k + lw y) (by
        rw [ho4.out, bp_add]
        exact Nat.mul_lt_mul'' (Nat.lt_of_lt_of_le (val_lt (okw_take (okw_wds x) k)) (bp_mono (List.length_take_le _ _))) (lw_lt y)) t ht)
      go_wp2
      go_loopw [8, 29] (fun c j wr => ∃ (m cn : Nat) (o' : List Nat), m ≤ lw y ∧ j = .int .i64 m ∧ c = .int .u64 cn ∧ cn < 18446744073709551616 ∧ Hid (WB wr w.heap.size o') ∧ Hid (o'.length = lw x + lw y) ∧ Hid (okw o') ∧
          Hid (∀ t, k + lw y ≤ t → o'.getD t 0 = 0) ∧ Hid (val o' + cn * bp (k + m) = val o + xi * val ((wds y).take m) * bp k) ∧ Below w.heap.size w wr)
        (fun _ j _ => lw y - (intOf j).toNat)
      case atStart => exact ⟨0, 0, o, Nat.zero_le _, rfl, rfl, by omega, ho1, ho2, ho3, Hz, Lib.hid (by simp [val]), hbe⟩
      case round =>
        obtain ⟨m, cn, o', hm, rfl, rfl, hcn, hp1, hp2, hp3, hp4, hp5, hbe'⟩ := hrel
        by_cases hlm : m < lw y
        · obtain ⟨bb, ob, rfl, hbb, hcellb⟩ := hrb.at_ (k := m) hlm
          have hcy : wr.cell? ⟨bb, ob + m, none⟩ = some (U ((wds y).getD m 0)) := (hbe'.cell (p := ⟨bb, ob + m, none⟩) hbb).trans (hcellb m hlm)
          have hyw := wds_get y m
          obtain ⟨yi, hyi⟩ : ∃ yi : Nat, yi = (wds y).getD m 0 := ⟨_, rfl⟩
          rw [← hyi] at hcy hyw
          have Hyi := Lib.hid hyi
          have hco : wr.cell? ⟨w.heap.size, k + m, none⟩ = some (U (o'.getD (k + m) 0)) := hp1.out.cell (by rw [hp2.out]; omega)
          have hfo : wr.frozen? ⟨w.heap.size, k + m, none⟩ = false := hp1.out.frozen _
          have how := okw_get hp3.out (k + m)
          obtain ⟨oi, hoi⟩ : ∃ oi : Nat, oi = o'.getD (k + m) 0 := ⟨_, rfl⟩
          rw [← hoi] at hco how
          have Hoi := Lib.hid hoi
          clear hoi hyi hcellb
          obtain ⟨t, d, ht, hd, htd, et, ed, b1, b2, b3, b4, b5⟩ := mul_word xi yi cn oi hxw hyw hcn how
          have ha1 := fun W => run_add64' (mullI xi yi) cn 0 b1 (by omega) (by omega) (by omega) W
          have ha2 := fun W => run_add64' oi (sumI (mullI xi yi) cn 0) 0 (by omega) b2 (by omega) (by omega) W
          rw [et] at ha2
          have Het := Lib.hid et
          have Hed := Lib.hid ed
          clear et ed
          go_wp2_with (go_at_call 92; refine (mul64_any _ _ (by omega) (by omega) (by omega) (by omega) _).mono ?_; rintro e w' ⟨rfl, rfl⟩)
          go_roundw
          case rel =>
            refine ⟨m + 1, d, o'.set (k + m) t, by omega, by go_num, ?_, hd, hp1.out.set_ _ _, Lib.hid (by rw [List.length_set]; exact hp2.out), okw_set hp3.out _ _ ht, Lib.hid fun j hj => ?_, Lib.hid ?_, hbe'.setCell (Nat.le_refl _) _⟩
            · exact congrArg (Value.int .u64) ((congrArg IntKind.u64.wrap Hed.out).trans (Mul64.wrapN d hd))
            · rw [List.getD_eq_getElem?_getD, List.getElem?_set_ne (by omega), ← List.getD_eq_getElem?_getD]; exact hp4.out j hj
            · exact mul_inner o' k m xi cn (val o) t d (wds y) hlm (by rw [hp2.out]; omega) hp5.out (by rw [← Hyi.out, ← Hoi.out]; exact htd)
          case measure => simp [intOf]; omega
        · obtain rfl : m = lw y := by omega
          have hco : wr.cell? ⟨w.heap.size, k + lw y, none⟩ = some (U (o'.getD (k + lw y) 0)) := hp1.out.cell (by rw [hp2.out]; omega)
          have hfo : wr.frozen? ⟨w.heap.size, k + lw y, none⟩ = false := hp1.out.frozen _
          go_wp2
          go_roundw
          case rel =>
            refine ⟨k + 1, o'.set (k + lw y) cn, by omega, by go_num, hp1.out.set_ _ _, Lib.hid (by rw [List.length_set]; exact hp2.out), okw_set hp3.out _ _ hcn, Lib.hid ?_, hbe'.setCell (Nat.le_refl _) _⟩
            rw [mul_outer o o' k (lw y) xi y cn (by rw [hp2.out]; omega) (hp4.out _ (Nat.le_refl _)) (by rw [hp5.out, take_wds, val_wds]), ho4.out, val_take_succ _ _ hlt, ← Hxi.out, Nat.add_mul, Nat.mul_comm xi]
          case measure => simp [intOf]; omega
    · go_wp2_with (go_at_call 29; refine (trim_any _ _ _ o _ ho1.out.rw_ ho2.out (Nat.le_refl _) (by unfold maxLen; omega)).mono ?_; rintro e w' ⟨rfl, rfl⟩)
      go_ret
      refine ⟨_, rfl, ?_, hbe⟩
      have hkk : k = lw x := by omega
      have e := ho4.out
      rw [hkk, take_wds, val_wds] at e
      rw [← e]
      exact num_of_wb ho1.out ho2.out ho3.out (by unfold maxLen; omega)
end Go.Proofs.YtnlpkehllihllaaGreatDoor

/-
  Words at the head of a block that is written to in place; what a call that writes to one block alone leaves of all others.
-/
namespace Go.Proofs.YtnlpkehllihllaaGreatDoor
open Go.RowKit

/-- The first words of block g are 'ws'. -/
def OW (w : World) (g : Nat) (ws : List Nat) : Prop := ∃ cur : Array Value, w.heap[g]? = some (.cells cur 26 (0, 0)) ∧ ∀ j, j < ws.length → cur[j]? = some (U (ws.getD j 0))
section
variable {w w' w'' : World} {g : Nat} {ws : List Nat}
theorem OW.lt (h : OW w g ws) : g < w.heap.size := by
  obtain ⟨cur, h, _⟩ := h
  exact Blk.lt (t := 26) (cs := cur) h
theorem OW.cell (h : OW w g ws) {j : Nat} (hj : j < ws.length) : w.cell? ⟨g, j, none⟩ = some (U (ws.getD j 0)) := by
  obtain ⟨cur, h, hc⟩ := h
  rw [Blk.cell (t := 26) (cs := cur) h]
  exact hc j hj
theorem OW.frozen (h : OW w g ws) (i : Nat) : w.frozen? ⟨g, i, none⟩ = false := by
  obtain ⟨cur, h, _⟩ := h
  exact Blk.frozen (t := 26) (cs := cur) h i
theorem OW.drew (h : OW w g ws) : OW w.drew g ws := h
theorem OW.drewN (h : OW w g ws) (n : Nat) : OW (w.drewN n) g ws := h
theorem OW.set_ (h : OW w g ws) (i u : Nat) : OW (w.setCell ⟨g, i, none⟩ (U u)) g (ws.set i u) := by
  obtain ⟨cur, h, hc⟩ := h
  refine ⟨cur.setIfInBounds i (U u), Blk.set_ (t := 26) (cs := cur) h i (U u), fun j hj => ?_⟩
  rw [List.length_set] at hj
  have h1 := hc j hj
  rcases Nat.eq_or_lt_of_le (Nat.le_refl i) with _ | h2
  · by_cases hij : i = j
    · subst hij
      have hlt : i < cur.size := (Array.getElem?_eq_some_iff.1 h1).1
      rw [Array.getElem?_setIfInBounds_self_of_lt hlt, List.getD_eq_getElem?_getD, List.getElem?_set_self hj]; rfl
    · rw [Array.getElem?_setIfInBounds_ne hij, h1, List.getD_eq_getElem?_getD, List.getD_eq_getElem?_getD, List.getElem?_set_ne hij]
  · omega
theorem OW.alloc (h : OW w g ws) (o : Obj) : OW (w.alloc o) g ws := by
  obtain ⟨cur, h, hc⟩ := h
  exact ⟨cur, Blk.alloc (t := 26) (cs := cur) h o, hc⟩
theorem OW.far (h : OW w g ws) {p : Addr} (hp : g ≠ p.block) (u : Value) : OW (w.setCell p u) g ws := by
  obtain ⟨cur, h, hc⟩ := h
  exact ⟨cur, Blk.far (t := 26) (cs := cur) h hp u, hc⟩
theorem OW.below {B : Nat} (h : OW w g ws) (hb : Below B w w') (hg : g < B) : OW w' g ws := by
  obtain ⟨cur, h, hc⟩ := h
  exact ⟨cur, Blk.below (t := 26) (cs := cur) h hb hg, hc⟩
theorem OW.grown {row : Option Nat} (h : OW w g ws) (hg : w.grownBy w' row) (hne : some g ≠ row) : OW w' g ws := by
  have hlt := h.lt
  obtain ⟨cur, h, hc⟩ := h
  exact ⟨cur, (hg.block g hlt hne).trans h, hc⟩
theorem OW.rw_ (h : OW w g ws) : RW w (some ⟨g, 0, none⟩) ws := .inr ⟨g, 0, rfl, h.lt, fun j hj => by rw [Nat.zero_add]; exact h.cell hj⟩
theorem OW.of_wb (h : WB w g ws) : OW w g ws := ⟨_, h, fun j hj => by rw [← Blk.cell (t := 26) h j]; exact h.cell hj⟩
/-- A row of the call's own that has something in it. -/
theorem OW.of_own {B : Nat} {v : Value} {n : Nat} (h : w.ownsRow B 26 1 v n (ws.map U)) (hn : 0 < n) :
    ∃ g c, v = .slice (some ⟨g, 0, none⟩) n c ∧ B ≤ g ∧ n ≤ c ∧ c ≤ maxLen ∧ ws.length = n ∧ OW w g ws := by
  obtain ⟨h1, h2⟩ := h
  rcases h2 with ⟨_, h3⟩ | ⟨g, c, cur, rfl, hB, hg, hc, hm, hs, ht⟩
  · omega
  · have hl : ws.length = n := by simpa using h1
    refine ⟨g, c, rfl, hB, hc, hm, hl, cur, hg, fun j hj => ?_⟩
    have e : (cur.toList.take (n * 1))[j]? = (ws.map U)[j]? := by rw [ht]
    rw [List.getElem?_take, if_pos (by omega), List.getElem?_map, List.getElem?_eq_getElem hj] at e
    rw [List.getD_eq_getElem?_getD, List.getElem?_eq_getElem hj]
    simpa using e
end

theorem grown_refl (w : World) (row : Option Nat) : w.grownBy w row := ⟨rfl, rfl, rfl, Nat.le_refl _, fun _ _ _ => rfl⟩
theorem grown_trans {a b c : World} {row : Option Nat} (h : a.grownBy b row) (k : b.grownBy c row) : a.grownBy c row :=
  ⟨k.os.trans h.os, k.tape.trans h.tape, k.output.trans h.output, Nat.le_trans h.size k.size, fun i hi hr => (k.block i (Nat.lt_of_lt_of_le hi h.size) hr).trans (h.block i hi hr)⟩
theorem grown_drewN {a b : World} {row : Option Nat} (h : a.grownBy b row) (n : Nat) : a.grownBy (b.drewN n) row := ⟨h.os, h.tape, h.output, h.size, h.block⟩
theorem grown_of_drewN {a b : World} {row : Option Nat} {n : Nat} (h : (a.drewN n).grownBy b row) : a.grownBy b row := ⟨h.os, h.tape, h.output, h.size, h.block⟩
theorem grown_drew {a b : World} {row : Option Nat} (h : a.grownBy b row) : a.grownBy b.drew row := ⟨h.os, h.tape, h.output, h.size, h.block⟩
theorem grown_set {a b : World} {g : Nat} (h : a.grownBy b (some g)) (i : Nat) (u : Value) : a.grownBy (b.setCell ⟨g, i, none⟩ u) (some g) :=
  ⟨h.os, h.tape, h.output, by simpa [World.setCell] using h.size, fun k hk hr => (Below.heap_setCell b ⟨g, i, none⟩ u k (fun e => hr (by rw [e]))).trans (h.block k hk hr)⟩
theorem RW.grown {w w' : World} {bb ob : Nat} {ws : List Nat} {g : Nat} (h : RW w (some ⟨bb, ob, none⟩) ws) (hg : w.grownBy w' (some g)) (hne : bb ≠ g) : RW w' (some ⟨bb, ob, none⟩) ws := by
  rcases h with h | ⟨b, off, e, hb, hc⟩
  · exact .inl h
  · cases e
    exact .inr ⟨bb, ob, rfl, Nat.lt_of_lt_of_le hb hg.size, fun j hj => hg.cell (hc j hj) (by simpa using hne)⟩
end Go.Proofs.YtnlpkehllihllaaGreatDoor

/-
  The walks of slices.Clone at words, nat.Norm, nat.Of.
-/
namespace Go.Proofs.YtnlpkehllihllaaGreatDoor
open Go.RowKit

/-- What the call owns, read as words. -/
theorem rw_of_owns {w : World} {base n : Nat} {v : Value} {ws : List Nat} (h : w.ownsRow base 26 1 v n (ws.map U)) : ∃ A c, v = .slice A n c ∧ n ≤ c ∧ c ≤ maxLen ∧ ws.length = n ∧ RW w A ws := by
  have hl : ws.length = n := by simpa using h.1
  rcases h.2 with ⟨rfl, rfl⟩ | ⟨g, cap, cur, rfl, hb, hh, hn, hm, hc, ht⟩
  · exact ⟨none, 0, rfl, Nat.le_refl _, Nat.zero_le _, hl, .inl (List.length_eq_zero_iff.1 hl)⟩
  · refine ⟨_, cap, rfl, hn, hm, hl, .inr ⟨g, 0, rfl, Blk.lt hh, fun j hj => ?_⟩⟩
    rw [Nat.zero_add, Blk.cell (t := 26) hh]
    have e : (cur.toList.take (n * 1))[j]? = (ws.map U)[j]? := by rw [ht]
    rw [List.getElem?_take, if_pos (by omega), List.getElem?_map, List.getElem?_eq_getElem hj] at e
    rw [List.getD_eq_getElem?_getD, List.getElem?_eq_getElem hj]
    simpa using e

set_option maxHeartbeats 1000000 in
set_option maxRecDepth 100000 in
/-- slices.Clone at api.Nat. -/
theorem clone_any (A : Option Addr) (n c : Nat) (ws : List Nat) (w : World) (hr : RW w A ws) (hl : ws.length = n) (hs : n ≤ 17592186044416) :
    Calls Tryz.prog 55 #[.slice A n c] w fun e w' => ∃ A' c', e = .returned (.slice A' n c') ∧ n ≤ c' ∧ c' ≤ maxLen ∧ RW w' A' ws ∧ Below w.heap.size w w' := by
  obtain ⟨i0, hi, hz0, hz1, hz2⟩ := info_parts info30
  have q26 : ∀ (w : World) (a : Option Addr) (n c n' c' : Nat), (binOp .eql 23 (.slice a n c) (.slice none n' c')).run Tryz.prog w = .ok (.bool a.isNone) w := fun w a n c n' c' => Lib.run_eql_slice_nil w _ _ a n c n' c' Tryz.underlying23
  have Hl := Lib.hid hl
  clear hl
  rcases A with _ | ad
  · have hnil : ws = [] := by
      rcases hr with h | ⟨b, off, e, _⟩
      · exact h
      · cases e
    have Hnil := Lib.hid hnil
    clear hnil
    go_enter Tryz.func55, Tryz.ntmps55
    go_wp2
    go_ret
    have h0 : n = 0 := by have := Hl.out; rw [Hnil.out] at this; exact this.symm
    subst h0
    exact ⟨none, 0, rfl, Nat.le_refl _, Nat.zero_le _, .inl Hnil.out, Below.refl _ _⟩
  · have Hr := Lib.hid hr
    clear hr
    go_enter Tryz.func55, Tryz.ntmps55
    go_wp2_with (at_builtin; refine wpList_append_own _ rfl _ _ 23 rfl w.heap.size 26 i0 (.int .u64 0) 1 8 Tryz.underlying23 hi hz0 hz1 hz2 rfl (by decide) _ _ _ rfl (World.ownsRow_made w #[] 0 (Nat.le_refl _) (Nat.zero_le _) rfl) ad n c (ws.map U) rfl ?qc1 ?qc2 ?qc3 ?qc4 ?qc5 ?qc6 ?_)
    case qc1 => rw [List.length_map, Hl.out, Nat.mul_one]
    case qc2 =>
      intro j u hj
      have hjl : j < ws.length := by
        have := (List.getElem?_eq_some_iff.1 hj).1
        simpa using this
      obtain ⟨b, off, e, hb, hc⟩ := Hr.out.at_ hjl
      obtain rfl : ad = ⟨b, off, none⟩ := Option.some.inj e
      rw [Addr.add_lit]
      refine Lib.cell?_alloc_some _ ?_
      rw [hc j hjl]
      rw [List.getElem?_map, List.getElem?_eq_getElem hjl] at hj
      rw [List.getD_eq_getElem?_getD, List.getElem?_eq_getElem hjl]
      exact hj
    case qc3 => intro u hu; obtain ⟨x, _, rfl⟩ := List.mem_map.1 hu; rfl
    case qc4 => unfold maxLen; omega
    case qc5 => omega
    case qc6 => simp
    intro v' w1 hown hgrow _
    obtain ⟨A', c', rfl, h1, h2, _, h4⟩ := rw_of_owns (n := n) (ws := ws) (by simpa using hown)
    have Hown := Lib.hid hown
    clear hown
    go_wp2
    go_ret
    exact ⟨A', c', rfl, h1, h2, h4, ((Below.refl _ w).alloc (Nat.le_refl _) _).grown hgrow (by simp) (by intro k hk; simp [Value.ownBlock] at hk; omega)⟩

set_option maxHeartbeats 400000 in
/-- nat.Norm. -/
theorem norm_any (A : Option Addr) (n c : Nat) (ws : List Nat) (w : World) (hr : RW w A ws) (hl : ws.length = n) (hc : n ≤ c) (hm : c ≤ maxLen) (ho : okw ws) (hs : n ≤ 17592186044416) :
    Calls Tryz.prog 30 #[.slice A n c] w fun e w' => ∃ v, e = .returned v ∧ Num w' v (val ws) ∧ Below w.heap.size w w' := by
  have ht := tl_le ws n
  have Hl := Lib.hid hl
  have hlt : (ws.take (tl ws n)).length = tl ws n := by rw [List.length_take, hl]; omega
  have Hlt := Lib.hid hlt
  have hv : ws.take (tl ws n) = wds (val ws) := by have := take_tl ho; rwa [hl] at this
  have Hv := Lib.hid hv
  clear hl hlt hv
  go_enter Tryz.func30, Tryz.ntmps30
  go_wp2_with (first
    | (go_at_call 29; refine (trim_any _ _ _ ws _ hr Hl.out hc hm).mono ?_; rintro e w' ⟨rfl, rfl⟩)
    | (go_at_call 55; refine (clone_any _ _ _ _ _ (hr.take _) Hlt.out (by omega)).mono ?_; rintro e w' ⟨A', c', rfl, h1, h2, h3, h4⟩))
  go_ret
  rw [Hv.out] at h3
  have e : lw (val ws) = tl ws n := by rw [← Hlt.out, Hv.out]; rfl
  exact ⟨_, rfl, ⟨A', c', by rw [e]; rfl, by rw [e]; exact h1, h2, h3⟩, h4⟩

set_option maxHeartbeats 400000 in
/-- nat.Of. -/
theorem of_any (x : Nat) (w : World) (hx : x < 18446744073709551616) :
    Calls Tryz.prog 12 #[.int .u64 x] w fun e w' => ∃ v, e = .returned v ∧ Num w' v x ∧ Below w.heap.size w w' := by
  have hw : WB (w.alloc (.cells #[.int .u64 x] 26)) w.heap.size [x] := Blk.new w 26 _
  have hb : Below w.heap.size w (w.alloc (.cells #[.int .u64 x] 26)) := (Below.refl _ _).alloc (Nat.le_refl _) _
  have Hw := Lib.hid hw
  clear hw
  go_enter Tryz.func12, Tryz.ntmps12
  go_wp2_with (go_at_call 30; go_must (refine (norm_any (some ⟨w.heap.size, 0, none⟩) 1 1 [x] _ Hw.out.rw_ rfl (Nat.le_refl _) (by unfold maxLen; omega) (okw_cons hx okw_nil) (by omega)).mono ?_); rintro e w' ⟨v, rfl, h1, h2⟩)
  go_ret
  have e : val [x] = x := by simp [val]
  rw [e] at h1
  exact ⟨v, rfl, h1, hb.trans (h2.mono (by simp))⟩
end Go.Proofs.YtnlpkehllihllaaGreatDoor

/-
  The plain arithmetic of shifts, word by word.
-/
namespace Go.Proofs.YtnlpkehllihllaaGreatDoor

theorem two64 : (2 : Nat) ^ 64 = 18446744073709551616 := rfl
theorem pow_split {r : Nat} (hr : r ≤ 64) : (2 : Nat) ^ r * 2 ^ (64 - r) = 18446744073709551616 := by
  rw [← Nat.pow_add, show r + (64 - r) = 64 by omega]
theorem pow_lt64 {r : Nat} (hr : r < 64) : (2 : Nat) ^ r < 18446744073709551616 := by
  rw [← two64]; exact Nat.pow_lt_pow_right (by omega) hr

/-- A word shifted up: what stays in its place, joined to what lies there, and what goes on to the next. -/
theorem shl_word (x r o : Nat) (hx : x < 18446744073709551616) (hr : r < 64) (ho : o < 2 ^ r) :
    ∃ t h : Nat, t < 18446744073709551616 ∧ h < 2 ^ r ∧ bits .or .u64 (o : Int) (IntKind.u64.wrap ((x : Int) * 2 ^ r)) = (t : Int) ∧ (x : Int) / 2 ^ (64 - r) = (h : Int) ∧ t + 18446744073709551616 * h = o + x * 2 ^ r := by
  have hp := pow_split (r := r) (by omega)
  have hp0 : 0 < 2 ^ r := Nat.two_pow_pos r
  have hq0 : 0 < 2 ^ (64 - r) := Nat.two_pow_pos _
  have hl := pow_lt64 hr
  have e0 : (x : Int) * 2 ^ r = ((x * 2 ^ r : Nat) : Int) := by rw [Int.natCast_mul, Int.natCast_pow]; rfl
  have e1 : x * 2 ^ r % 18446744073709551616 = 2 ^ r * (x % 2 ^ (64 - r)) := by
    rw [← hp, Nat.mul_comm x, Nat.mul_mod_mul_left]
  have hm : x % 2 ^ (64 - r) < 2 ^ (64 - r) := Nat.mod_lt _ hq0
  have hb : 2 ^ r * (x % 2 ^ (64 - r)) + o < 18446744073709551616 := by
    have h1 : x % 2 ^ (64 - r) + 1 ≤ 2 ^ (64 - r) := hm
    have h2 := Nat.mul_le_mul_left (2 ^ r) h1
    rw [hp, Nat.mul_add, Nat.mul_one] at h2
    omega
  refine ⟨2 ^ r * (x % 2 ^ (64 - r)) + o, x / 2 ^ (64 - r), hb, ?_, ?_, ?_, ?_⟩
  · rw [Nat.div_lt_iff_lt_mul hq0, hp]; exact hx
  · rw [e0, Mul64.wrapM, e1, u64_or_nat o _ (by omega) (by omega), Nat.or_comm, ← Nat.two_pow_add_eq_or_of_lt ho]
  · rw [show ((2 : Int) ^ (64 - r)) = ((2 ^ (64 - r) : Nat) : Int) from by rw [Int.natCast_pow]; rfl]; exact (Int.natCast_ediv _ _).symm
  · have e2 := Nat.div_add_mod x (2 ^ (64 - r))
    have e3 : 18446744073709551616 * (x / 2 ^ (64 - r)) = 2 ^ r * (2 ^ (64 - r) * (x / 2 ^ (64 - r))) := by rw [← Nat.mul_assoc, hp]
    rw [e3]
    have e4 : x * 2 ^ r = 2 ^ r * (2 ^ (64 - r) * (x / 2 ^ (64 - r))) + 2 ^ r * (x % 2 ^ (64 - r)) := by rw [← Nat.mul_add, e2, Nat.mul_comm]
    omega

/-- A round of the loop of Shl. -/
theorem shl_round (o wx : List Nat) (k q r t h x : Nat) (hk : k < wx.length) (hl : k + q + 1 < o.length) (hx : x = wx.getD k 0)
    (hz : o.getD (k + q + 1) 0 = 0) (hv : val o = val (wx.take k) * 2 ^ r * bp q) (ht : t + 18446744073709551616 * h = o.getD (k + q) 0 + x * 2 ^ r) :
    val ((o.set (k + q) t).set (k + q + 1) h) = val (wx.take (k + 1)) * 2 ^ r * bp q := by
  have h1 := val_set o (k + q) t (by omega)
  have h2 := val_set (o.set (k + q) t) (k + q + 1) h (by rw [List.length_set]; exact hl)
  have e0 : (o.set (k + q) t).getD (k + q + 1) 0 = 0 := by
    rw [List.getD_eq_getElem?_getD, List.getElem?_set_ne (by omega), ← List.getD_eq_getElem?_getD]; exact hz
  rw [e0, Nat.zero_mul, Nat.add_zero] at h2
  rw [h2, val_take_succ wx k hk, ← hx, Nat.add_mul, Nat.add_mul, ← hv, bp_succ]
  have e1 : (t + 18446744073709551616 * h) * bp (k + q) = (o.getD (k + q) 0 + x * 2 ^ r) * bp (k + q) := by rw [ht]
  rw [Nat.add_mul, Nat.add_mul] at e1
  have e2 : h * (18446744073709551616 * bp (k + q)) = 18446744073709551616 * h * bp (k + q) := by rw [Nat.mul_comm 18446744073709551616 h, Nat.mul_assoc]
  have e3 : bp k * x * 2 ^ r * bp q = x * 2 ^ r * bp (k + q) := by
    rw [bp_add, Nat.mul_assoc, Nat.mul_comm (bp k) x, Nat.mul_assoc, Nat.mul_assoc, Nat.mul_left_comm (bp k)]
  rw [e2, e3]
  omega
end Go.Proofs.YtnlpkehllihllaaGreatDoor
