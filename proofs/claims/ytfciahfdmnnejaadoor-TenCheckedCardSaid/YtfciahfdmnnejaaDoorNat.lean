/-
  Plain numbers and lists of words: what a list of 64-bit words is worth, and the one list without noughts at its end that is worth a given number. No program in sight.
-/
namespace Go.Proofs.YtfciahfdmnnejaaDoor

/-- What words are worth, the lowest first. -/
def val : List Nat → Nat
  | [] => 0
  | x :: xs => x + 18446744073709551616 * val xs

/-- Every word fits in 64 bits. -/
def okw (ws : List Nat) : Prop := ∀ x ∈ ws, x < 18446744073709551616

/-- The power of the base that stands at a place. -/
def bp (k : Nat) : Nat := 18446744073709551616 ^ k
theorem bp_zero : bp 0 = 1 := rfl
theorem bp_succ (k : Nat) : bp (k + 1) = 18446744073709551616 * bp k := by unfold bp; rw [Nat.pow_succ, Nat.mul_comm]
theorem bp_add (i k : Nat) : bp (i + k) = bp i * bp k := by unfold bp; rw [Nat.pow_add]
theorem bp_pos (k : Nat) : 0 < bp k := Nat.pow_pos (by omega)
theorem bp_two (k : Nat) : bp k = 2 ^ (64 * k) := by unfold bp; rw [Nat.pow_mul]

theorem val_nil : val [] = 0 := rfl
theorem val_cons (x : Nat) (xs : List Nat) : val (x :: xs) = x + 18446744073709551616 * val xs := rfl
theorem val_append (xs ys : List Nat) : val (xs ++ ys) = val xs + bp xs.length * val ys := by
  induction xs with
  | nil => simp [val, bp]
  | cons x xs ih => rw [List.cons_append, val_cons, val_cons, ih, List.length_cons, bp_succ, Nat.mul_add, Nat.mul_assoc, Nat.add_assoc]
theorem val_snoc (xs : List Nat) (y : Nat) : val (xs ++ [y]) = val xs + bp xs.length * y := by rw [val_append, val_cons, val_nil, Nat.mul_zero, Nat.add_zero]
theorem val_replicate (n : Nat) : val (List.replicate n 0) = 0 := by
  induction n with
  | zero => rfl
  | succ n ih => rw [List.replicate_succ, val_cons, ih]
theorem val_lt {ws : List Nat} (h : okw ws) : val ws < bp ws.length := by
  induction ws with
  | nil => simp [val, bp]
  | cons x xs ih =>
    have h1 : x < 18446744073709551616 := h x (by simp)
    have h2 := ih (fun y hy => h y (by simp [hy]))
    rw [val_cons, List.length_cons, bp_succ]
    have : val xs + 1 ≤ bp xs.length := h2
    have := Nat.mul_le_mul_left 18446744073709551616 this
    omega

theorem okw_nil : okw [] := fun _ h => by cases h
theorem okw_append {xs ys : List Nat} (h1 : okw xs) (h2 : okw ys) : okw (xs ++ ys) := fun x hx => by
  rcases List.mem_append.1 hx with h | h
  · exact h1 x h
  · exact h2 x h
theorem okw_take {ws : List Nat} (h : okw ws) (n : Nat) : okw (ws.take n) := fun x hx => h x (List.mem_of_mem_take hx)
theorem okw_drop {ws : List Nat} (h : okw ws) (n : Nat) : okw (ws.drop n) := fun x hx => h x (List.mem_of_mem_drop hx)
theorem okw_replicate (n : Nat) : okw (List.replicate n 0) := fun x hx => by rw [List.eq_of_mem_replicate hx]; omega
theorem rep_getD (n j : Nat) : (List.replicate n 0).getD j 0 = 0 := by
  rw [List.getD_eq_getElem?_getD, List.getElem?_replicate]; split <;> rfl
theorem okw_set {ws : List Nat} (h : okw ws) (i v : Nat) (hv : v < 18446744073709551616) : okw (ws.set i v) := fun x hx => by
  rcases List.mem_or_eq_of_mem_set hx with h' | h'
  · exact h x h'
  · rw [h']; exact hv
theorem okw_get {ws : List Nat} (h : okw ws) (i : Nat) : ws.getD i 0 < 18446744073709551616 := by
  rw [List.getD_eq_getElem?_getD]
  rcases Nat.lt_or_ge i ws.length with hi | hi
  · rw [List.getElem?_eq_getElem hi]; exact h _ (List.getElem_mem hi)
  · rw [List.getElem?_eq_none hi]; simp
theorem okw_cons {x : Nat} {xs : List Nat} (hx : x < 18446744073709551616) (h : okw xs) : okw (x :: xs) := fun y hy => by
  rcases List.mem_cons.1 hy with h' | h'
  · rw [h']; exact hx
  · exact h y h'

/-- One word put in another's place. -/
theorem val_set (ws : List Nat) (i v : Nat) (hi : i < ws.length) : val (ws.set i v) + ws.getD i 0 * bp i = val ws + v * bp i := by
  induction ws generalizing i with
  | nil => simp at hi
  | cons x xs ih =>
    cases i with
    | zero => simp [val, bp]; omega
    | succ i =>
      have h := ih i (by simpa using hi)
      simp only [List.set_cons_succ, val_cons, List.getD_cons_succ, bp_succ]
      have e1 : xs.getD i 0 * (18446744073709551616 * bp i) = 18446744073709551616 * (xs.getD i 0 * bp i) := by rw [Nat.mul_left_comm]
      have e2 : v * (18446744073709551616 * bp i) = 18446744073709551616 * (v * bp i) := by rw [Nat.mul_left_comm]
      rw [e1, e2]
      omega
theorem val_take_succ (ws : List Nat) (k : Nat) (hk : k < ws.length) : val (ws.take (k + 1)) = val (ws.take k) + bp k * ws.getD k 0 := by
  have e : ws.take (k + 1) = ws.take k ++ [ws.getD k 0] := by
    rw [List.take_succ_eq_append_getElem hk, List.getD_eq_getElem?_getD, List.getElem?_eq_getElem hk]; rfl
  rw [e, val_snoc, List.length_take, Nat.min_eq_left (by omega)]
theorem val_split (ws : List Nat) (k : Nat) (hk : k ≤ ws.length) : val ws = val (ws.take k) + bp k * val (ws.drop k) := by
  conv => lhs; rw [← List.take_append_drop k ws]
  rw [val_append, List.length_take, Nat.min_eq_left hk]

/-- How many of the first n words are left without the noughts at their end. -/
def tl (ws : List Nat) : Nat → Nat
  | 0 => 0
  | n + 1 => if ws.getD n 0 = 0 then tl ws n else n + 1
theorem tl_le (ws : List Nat) (n : Nat) : tl ws n ≤ n := by
  induction n with
  | zero => exact Nat.le_refl _
  | succ n ih => unfold tl; split <;> omega
theorem tl_hit (ws : List Nat) (n : Nat) (h : ws.getD n 0 = 0) : tl ws (n + 1) = tl ws n := by rw [tl, if_pos h]
theorem tl_miss (ws : List Nat) (n : Nat) (h : ws.getD n 0 ≠ 0) : tl ws (n + 1) = n + 1 := by rw [tl, if_neg h]
theorem tl_top (ws : List Nat) (n : Nat) : tl ws n = 0 ∨ ws.getD (tl ws n - 1) 0 ≠ 0 := by
  induction n with
  | zero => exact .inl rfl
  | succ n ih =>
    by_cases h : ws.getD n 0 = 0
    · rw [tl_hit _ _ h]; exact ih
    · rw [tl_miss _ _ h]; exact .inr h
theorem tl_zero (ws : List Nat) (n : Nat) (h : tl ws n = 0) : ∀ i, i < n → ws.getD i 0 = 0 := by
  induction n with
  | zero => intro i hi; omega
  | succ n ih =>
    intro i hi
    by_cases h0 : ws.getD n 0 = 0
    · rw [tl_hit _ _ h0] at h
      rcases Nat.lt_or_ge i n with h1 | h1
      · exact ih h i h1
      · rw [show i = n by omega]; exact h0
    · rw [tl_miss _ _ h0] at h; omega
theorem val_tl (ws : List Nat) (n : Nat) (hn : n ≤ ws.length) : val (ws.take (tl ws n)) = val (ws.take n) := by
  induction n with
  | zero => rfl
  | succ n ih =>
    by_cases h : ws.getD n 0 = 0
    · rw [tl_hit _ _ h, ih (by omega), val_take_succ _ _ (by omega), h, Nat.mul_zero, Nat.add_zero]
    · rw [tl_miss _ _ h]

/-- The last word is not 0. -/
def normal (ws : List Nat) : Prop := ws = [] ∨ ws.getD (ws.length - 1) 0 ≠ 0

/-- The words of a number: without noughts at the end. -/
def wds (n : Nat) : List Nat := if h : n = 0 then [] else n % 18446744073709551616 :: wds (n / 18446744073709551616)
termination_by n
decreasing_by omega
theorem wds_zero : wds 0 = [] := by rw [wds]; simp
theorem wds_pos {n : Nat} (h : n ≠ 0) : wds n = n % 18446744073709551616 :: wds (n / 18446744073709551616) := by rw [wds]; simp [h]
theorem val_wds (n : Nat) : val (wds n) = n := by
  induction n using Nat.strongRecOn with
  | _ n ih =>
    by_cases h : n = 0
    · subst h; rw [wds_zero]; rfl
    · rw [wds_pos h, val_cons, ih _ (by omega)]; omega
theorem okw_wds (n : Nat) : okw (wds n) := by
  induction n using Nat.strongRecOn with
  | _ n ih =>
    by_cases h : n = 0
    · subst h; rw [wds_zero]; exact okw_nil
    · rw [wds_pos h]; exact okw_cons (by omega) (ih _ (by omega))
theorem normal_cons {x : Nat} {xs : List Nat} (h : normal xs) (hx : xs = [] → x ≠ 0) : normal (x :: xs) := by
  rcases h with h | h
  · subst h; right; simpa using hx rfl
  · right
    cases xs with
    | nil => simpa using hx rfl
    | cons y ys => simpa using h
theorem normal_wds (n : Nat) : normal (wds n) := by
  induction n using Nat.strongRecOn with
  | _ n ih =>
    by_cases h : n = 0
    · subst h; rw [wds_zero]; exact .inl rfl
    · rw [wds_pos h]
      refine normal_cons (ih _ (by omega)) fun h0 => ?_
      have h1 := val_wds (n / 18446744073709551616)
      rw [h0] at h1
      have : n / 18446744073709551616 = 0 := h1.symm
      omega
theorem normal_tail {x : Nat} {xs : List Nat} (h : normal (x :: xs)) : normal xs := by
  cases xs with
  | nil => exact .inl rfl
  | cons y ys =>
    right
    rcases h with h | h
    · cases h
    · simpa using h
theorem normal_pos {ws : List Nat} (h : normal ws) (hne : ws ≠ []) : bp (ws.length - 1) ≤ val ws := by
  rcases h with h | h
  · exact absurd h hne
  · have hl : 0 < ws.length := List.length_pos_iff.2 hne
    have e := val_take_succ ws (ws.length - 1) (by omega)
    rw [show ws.length - 1 + 1 = ws.length by omega, List.take_length] at e
    rw [e]
    have := Nat.mul_le_mul_left (bp (ws.length - 1)) (Nat.one_le_iff_ne_zero.2 h)
    omega
/-- Words without noughts at their end are those of their number. -/
theorem wds_of {ws : List Nat} (h : okw ws) (hn : normal ws) : wds (val ws) = ws := by
  induction ws with
  | nil => exact wds_zero
  | cons x xs ih =>
    have hx : x < 18446744073709551616 := h x (by simp)
    have h1 := ih (fun y hy => h y (by simp [hy])) (normal_tail hn)
    have hne : val (x :: xs) ≠ 0 := by
      have := normal_pos hn (by simp)
      have := bp_pos ((x :: xs).length - 1)
      omega
    rw [wds_pos hne, val_cons]
    have e1 : (x + 18446744073709551616 * val xs) % 18446744073709551616 = x := by omega
    have e2 : (x + 18446744073709551616 * val xs) / 18446744073709551616 = val xs := by omega
    rw [e1, e2, h1]
/-- The noughts at the end taken off: the words of the number. -/
theorem take_tl {ws : List Nat} (h : okw ws) : ws.take (tl ws ws.length) = wds (val ws) := by
  have hv : val (ws.take (tl ws ws.length)) = val ws := by rw [val_tl _ _ (Nat.le_refl _), List.take_length]
  rw [← hv]
  refine (wds_of (okw_take h _) ?_).symm
  have hl := tl_le ws ws.length
  rcases tl_top ws ws.length with h0 | h0
  · left; rw [h0]; rfl
  · right
    rw [List.length_take, Nat.min_eq_left hl]
    have hpos : 0 < tl ws ws.length := by
      rcases Nat.eq_zero_or_pos (tl ws ws.length) with h1 | h1
      · rw [h1] at h0
        exact absurd (tl_zero ws ws.length h1 0 (by
          rcases Nat.eq_zero_or_pos ws.length with h2 | h2
          · have h3 : ws = [] := List.length_eq_zero_iff.1 h2
            subst h3; simp at h0
          · exact h2)) h0
      · exact h1
    rw [List.getD_eq_getElem?_getD, List.getElem?_take, if_pos (by omega), ← List.getD_eq_getElem?_getD]
    exact h0
theorem tl_len {ws : List Nat} (h : okw ws) : tl ws ws.length = (wds (val ws)).length := by
  rw [← take_tl h, List.length_take, Nat.min_eq_left (tl_le _ _)]
theorem tl_wds (n : Nat) : tl (wds n) (wds n).length = (wds n).length := by rw [tl_len (okw_wds n), val_wds]

/-- How many words a number has. -/
def lw (n : Nat) : Nat := (wds n).length
theorem wds_length (n : Nat) : (wds n).length = lw n := rfl
theorem take_wds (n : Nat) : (wds n).take (lw n) = wds n := List.take_of_length_le (Nat.le_refl _)
theorem lw_zero : lw 0 = 0 := by unfold lw; rw [wds_zero]; rfl
theorem lw_lt (n : Nat) : n < bp (lw n) := by have := val_lt (okw_wds n); rwa [val_wds] at this
theorem lw_ge {n : Nat} (h : n ≠ 0) : bp (lw n - 1) ≤ n := by
  have := normal_pos (normal_wds n) (by rw [wds_pos h]; simp)
  rwa [val_wds] at this
theorem bp_mono {i k : Nat} (h : i ≤ k) : bp i ≤ bp k := Nat.pow_le_pow_right (by omega) h
theorem bp_lt {i k : Nat} (h : i < k) : bp i < bp k := Nat.pow_lt_pow_right (by omega) h
theorem lw_le {n k : Nat} (h : n < bp k) : lw n ≤ k := by
  by_cases h0 : n = 0
  · subst h0; rw [lw_zero]; omega
  · have h1 := lw_ge h0
    by_cases h2 : lw n ≤ k
    · exact h2
    · have := bp_mono (show k ≤ lw n - 1 by omega)
      omega
theorem lw_pos {n : Nat} (h : n ≠ 0) : 0 < lw n := by unfold lw; rw [wds_pos h]; simp
theorem lw_eq_zero {n : Nat} : lw n = 0 ↔ n = 0 := by
  constructor
  · intro h
    by_cases h0 : n = 0
    · exact h0
    · have := lw_pos h0; omega
  · intro h; subst h; exact lw_zero
theorem lw_mul (x y : Nat) : lw (x * y) ≤ lw x + lw y := by
  refine lw_le ?_
  rw [bp_add]
  exact Nat.mul_lt_mul'' (lw_lt x) (lw_lt y)
theorem lw_mono {x y : Nat} (h : x ≤ y) : lw x ≤ lw y := lw_le (Nat.lt_of_le_of_lt h (lw_lt y))
theorem lw_add (x y : Nat) : lw (x + y) ≤ max (lw x) (lw y) + 1 := by
  refine lw_le ?_
  have h1 := lw_lt x
  have h2 := lw_lt y
  have h3 := bp_mono (Nat.le_max_left (lw x) (lw y))
  have h4 := bp_mono (Nat.le_max_right (lw x) (lw y))
  rw [bp_succ]
  have := bp_pos (max (lw x) (lw y))
  omega
theorem wds_get (n i : Nat) : (wds n).getD i 0 < 18446744073709551616 := okw_get (okw_wds n) i
/-- The word at a place, by division. -/
theorem wds_at (n i : Nat) : (wds n).getD i 0 = n / bp i % 18446744073709551616 := by
  induction i generalizing n with
  | zero =>
    by_cases h : n = 0
    · subst h; rw [wds_zero]; simp
    · rw [wds_pos h, bp_zero]; simp
  | succ i ih =>
    by_cases h : n = 0
    · subst h; rw [wds_zero]; simp
    · rw [wds_pos h, List.getD_cons_succ, ih, bp_succ, Nat.div_div_eq_div_mul]
theorem wds_word {n : Nat} (h : n < 18446744073709551616) (h0 : n ≠ 0) : wds n = [n] := by
  rw [wds_pos h0, show n / 18446744073709551616 = 0 by omega, wds_zero, Nat.mod_eq_of_lt h]
theorem lw_word {n : Nat} (h : n < 18446744073709551616) (h0 : n ≠ 0) : lw n = 1 := by unfold lw; rw [wds_word h h0]; rfl
theorem lw_one {n : Nat} (h : lw n = 1) : n < 18446744073709551616 ∧ n ≠ 0 := by
  have h1 := lw_lt n
  rw [h] at h1
  refine ⟨by simpa [bp] using h1, fun h0 => ?_⟩
  subst h0; rw [lw_zero] at h; omega
end Go.Proofs.YtfciahfdmnnejaaDoor
