/-
  The plain arithmetic of one digit of a long division, word by word.
-/
import Derived.Test.YtfciahfdmnnejaaDoorShrP
import Derived.Test.YtfciahfdmnnejaaDoorMulP
namespace Go.Proofs.YtfciahfdmnnejaaDoor

theorem set_ne {ws : List Nat} {i j v : Nat} (h : j ≠ i) : (ws.set i v).getD j 0 = ws.getD j 0 := by
  rw [List.getD_eq_getElem?_getD, List.getElem?_set_ne (by omega), ← List.getD_eq_getElem?_getD]
theorem set_self {ws : List Nat} {i v : Nat} (h : i < ws.length) : (ws.set i v).getD i 0 = v := by
  rw [List.getD_eq_getElem?_getD, List.getElem?_set_self h]; rfl
theorem val_noughts {ws : List Nat} (h : ∀ j, ws.getD j 0 = 0) : val ws = 0 := by
  induction ws with
  | nil => rfl
  | cons x xs ih =>
    have h0 := h 0
    have h1 := ih (fun j => by have := h (j + 1); rwa [List.getD_cons_succ] at this)
    rw [List.getD_cons_zero] at h0
    rw [val_cons, h0, h1]
/-- Words that are noughts from a place on are less than the base's power of it. -/
theorem val_lt_zero {ws : List Nat} {N : Nat} (h : okw ws) (hz : ∀ j, N ≤ j → ws.getD j 0 = 0) : val ws < bp N := by
  rcases Nat.lt_or_ge ws.length N with h1 | h1
  · exact Nat.lt_of_lt_of_le (val_lt h) (bp_mono (by omega))
  · rw [val_split ws N h1, val_noughts (ws := ws.drop N) (fun j => by
      rw [List.getD_eq_getElem?_getD, List.getElem?_drop, ← List.getD_eq_getElem?_getD]; exact hz _ (by omega)), Nat.mul_zero, Nat.add_zero]
    have := val_lt (okw_take h N)
    rwa [List.length_take, Nat.min_eq_left h1] at this
/-- The word at a place of any words, by division. -/
theorem get_at {ws : List Nat} (h : okw ws) (i : Nat) : ws.getD i 0 = val ws / bp i % 18446744073709551616 := by
  induction ws generalizing i with
  | nil => simp [val]
  | cons x xs ih =>
    have hx : x < 18446744073709551616 := h x (by simp)
    cases i with
    | zero => rw [List.getD_cons_zero, val_cons, bp_zero, Nat.div_one]; omega
    | succ i =>
      rw [List.getD_cons_succ, ih (fun y hy => h y (by simp [hy])), val_cons, bp_succ, ← Nat.div_div_eq_div_mul]
      congr 2
      omega

/-- A round of the loop that takes away: what stands in the word, what is carried, what is borrowed. -/
theorem dig_word (x y c o b0 : Nat) (hx : x < 18446744073709551616) (hy : y < 18446744073709551616) (hc : c < 18446744073709551616) (ho : o < 18446744073709551616) (hb : b0 ≤ 1) :
    ∃ t d b : Nat, t < 18446744073709551616 ∧ d < 18446744073709551616 ∧ b ≤ 1 ∧ t + x * y + c + b0 = o + 18446744073709551616 * (d + b) ∧ d * 18446744073709551616 ≤ x * y + c ∧
      (difI (o : Int) (sumI (mullI x y) c 0) b0 = (t : Int)) ∧ (mulhI x y + carI (mullI x y) c 0 = (d : Int)) ∧ (borI (o : Int) (sumI (mullI x y) c 0) b0 = (b : Int)) ∧
      0 ≤ mullI x y ∧ 0 ≤ sumI (mullI x y) c 0 ∧ sumI (mullI x y) c 0 ≤ 18446744073709551615 := by
  have hb := mul_bound hx hy
  rw [mulhI_nat, mullI_nat]
  generalize x * y = p at *
  have e1 : sumI ((p % 18446744073709551616 : Nat) : Int) c 0 = (((p % 18446744073709551616 + c) % 18446744073709551616 : Nat) : Int) := sumI_nat (p % 18446744073709551616) c 0
  have e2 : carI ((p % 18446744073709551616 : Nat) : Int) c 0 = (((p % 18446744073709551616 + c) / 18446744073709551616 : Nat) : Int) := carI_nat (p % 18446744073709551616) c 0
  rw [e1, e2]
  obtain ⟨l, hl⟩ : ∃ l, l = (p % 18446744073709551616 + c) % 18446744073709551616 := ⟨_, rfl⟩
  obtain ⟨d, hd⟩ : ∃ d, d = p / 18446744073709551616 + (p % 18446744073709551616 + c) / 18446744073709551616 := ⟨_, rfl⟩
  rw [← hl]
  have hld : l + 18446744073709551616 * d = p + c := by omega
  have hl64 : l < 18446744073709551616 := by omega
  have hd64 : d < 18446744073709551616 := by omega
  have hdd : ((p / 18446744073709551616 : Nat) : Int) + (((p % 18446744073709551616 + c) / 18446744073709551616 : Nat) : Int) = (d : Int) := by omega
  clear hl hd e1 e2 hb
  unfold difI borI
  by_cases h : o < l + b0
  · refine ⟨o + 18446744073709551616 - l - b0, d, 1, by omega, hd64, by omega, by omega, by omega, ?_, hdd, ?_, by omega, by omega, by omega⟩
    · omega
    · rw [if_pos (by omega)]; rfl
  · refine ⟨o - l - b0, d, 0, by omega, hd64, by omega, by omega, by omega, ?_, hdd, ?_, by omega, by omega, by omega⟩
    · omega
    · rw [if_neg (by omega)]; rfl
/-- The whole, behind a round of the loop that takes away. -/
theorem dig_sub (us : List Nat) (off i g c b0 t d b V0 : Nat) (vs : List Nat) (hi : off + i < us.length)
    (hv : val us + g * val (vs.take i) * bp off = V0 + (c + b0) * bp (off + i)) (ht : t + g * vs.getD i 0 + c + b0 = us.getD (off + i) 0 + 18446744073709551616 * (d + b)) :
    val (us.set (off + i) t) + g * val (vs.take (i + 1)) * bp off = V0 + (d + b) * bp (off + (i + 1)) := by
  have h1 := val_set us (off + i) t hi
  have e0 : val (vs.take (i + 1)) = val (vs.take i) + bp i * vs.getD i 0 := by
    rcases Nat.lt_or_ge i vs.length with h | h
    · exact val_take_succ vs i h
    · rw [List.take_of_length_le (by omega), List.take_of_length_le (by omega), List.getD_eq_getElem?_getD, List.getElem?_eq_none h]; simp
  rw [e0, Nat.mul_add, Nat.add_mul]
  have e1 : (d + b) * bp (off + (i + 1)) = 18446744073709551616 * (d + b) * bp (off + i) := by rw [← Nat.add_assoc, bp_succ, ← Nat.mul_assoc, Nat.mul_comm (d + b)]
  have e2 : g * (bp i * vs.getD i 0) * bp off = g * vs.getD i 0 * bp (off + i) := by
    rw [bp_add, Nat.mul_comm (bp i), ← Nat.mul_assoc, Nat.mul_assoc, Nat.mul_comm (bp i)]
  rw [e1, e2]
  have e3 : (t + g * vs.getD i 0 + c + b0) * bp (off + i) = (us.getD (off + i) 0 + 18446744073709551616 * (d + b)) * bp (off + i) := by rw [ht]
  rw [Nat.add_mul, Nat.add_mul, Nat.add_mul, Nat.add_mul] at e3
  rw [Nat.add_mul] at hv
  omega
theorem dig_carry {g i c d : Nat} {vs : List Nat} (h : c * bp i ≤ g * val (vs.take i)) (hd : d * 18446744073709551616 ≤ g * vs.getD i 0 + c) : d * bp (i + 1) ≤ g * val (vs.take (i + 1)) := by
  have e0 : val (vs.take (i + 1)) = val (vs.take i) + bp i * vs.getD i 0 := by
    rcases Nat.lt_or_ge i vs.length with h | h
    · exact val_take_succ vs i h
    · rw [List.take_of_length_le (by omega), List.take_of_length_le (by omega), List.getD_eq_getElem?_getD, List.getElem?_eq_none h]; simp
  rw [e0, Nat.mul_add, bp_succ]
  have h1 := Nat.mul_le_mul_right (bp i) hd
  rw [Nat.add_mul] at h1
  have e1 : d * (18446744073709551616 * bp i) = d * 18446744073709551616 * bp i := by rw [Nat.mul_assoc]
  have e2 : g * (bp i * vs.getD i 0) = g * vs.getD i 0 * bp i := by rw [Nat.mul_comm (bp i), Nat.mul_assoc]
  rw [e1, e2]
  omega
/-- A round of the loop that puts back. -/
theorem back_word (o y c : Nat) (ho : o < 18446744073709551616) (hy : y < 18446744073709551616) (hc : c ≤ 1) :
    ∃ t d : Nat, t < 18446744073709551616 ∧ d ≤ 1 ∧ t + 18446744073709551616 * d = o + y + c ∧ sumI (o : Int) y c = (t : Int) ∧ carI (o : Int) y c = (d : Int) :=
  ⟨(o + y + c) % 18446744073709551616, (o + y + c) / 18446744073709551616, by omega, by omega, by omega, sumI_nat o y c, carI_nat o y c⟩
theorem back_add (us : List Nat) (off i c t d V0 : Nat) (vs : List Nat) (hi : off + i < us.length)
    (hv : val us + c * bp (off + i) = V0 + val (vs.take i) * bp off) (ht : t + 18446744073709551616 * d = us.getD (off + i) 0 + vs.getD i 0 + c) :
    val (us.set (off + i) t) + d * bp (off + (i + 1)) = V0 + val (vs.take (i + 1)) * bp off := by
  have h1 := val_set us (off + i) t hi
  have e0 : val (vs.take (i + 1)) = val (vs.take i) + bp i * vs.getD i 0 := by
    rcases Nat.lt_or_ge i vs.length with h | h
    · exact val_take_succ vs i h
    · rw [List.take_of_length_le (by omega), List.take_of_length_le (by omega), List.getD_eq_getElem?_getD, List.getElem?_eq_none h]; simp
  rw [e0, Nat.add_mul]
  have e1 : d * bp (off + (i + 1)) = 18446744073709551616 * d * bp (off + i) := by rw [← Nat.add_assoc, bp_succ, ← Nat.mul_assoc, Nat.mul_comm d]
  have e2 : bp i * vs.getD i 0 * bp off = vs.getD i 0 * bp (off + i) := by
    rw [bp_add, Nat.mul_comm (bp i), Nat.mul_assoc, Nat.mul_comm (bp i)]
  rw [e1, e2]
  have e3 : (t + 18446744073709551616 * d) * bp (off + i) = (us.getD (off + i) 0 + vs.getD i 0 + c) * bp (off + i) := by rw [ht]
  rw [Nat.add_mul, Nat.add_mul, Nat.add_mul] at e3
  omega

/-- Behind the loop that takes away: nothing is carried on. -/
theorem dig_end {us : List Nat} {off n g c b V0 V : Nat} (hv : val us + g * V * bp off = V0 + (c + b) * bp (off + (n + 1))) (hc : c * bp (n + 1) ≤ g * V) (hg : g < 18446744073709551616) (hV : V < bp n) :
    val us + g * (V * bp off) = V0 + b * bp (off + (n + 1)) := by
  have h1 : g * V < bp (n + 1) := by
    rw [bp_succ]
    exact Nat.mul_lt_mul'' hg hV
  have h2 : c = 0 := by
    rcases Nat.eq_zero_or_pos c with h | h
    · exact h
    · have := Nat.mul_le_mul_right (bp (n + 1)) h
      omega
  subst h2
  rw [Nat.zero_add] at hv
  rw [← Nat.mul_assoc]
  exact hv
/-- One more is put back: what was borrowed goes down by what is carried. -/
theorem back_end {us us' : List Nat} {g c V0 D P : Nat} (hg : 0 < g) (hv : val us + g * D = V0 + P) (hb : val us' + c * P = val us + D) (hc : c ≤ 1) :
    val us' + (g - 1) * D = V0 + (1 - c) * P := by
  obtain ⟨k, rfl⟩ : ∃ k, g = k + 1 := ⟨g - 1, by omega⟩
  rw [Nat.add_mul, Nat.one_mul] at hv
  rw [Nat.add_sub_cancel]
  rcases Nat.eq_zero_or_pos c with h | h
  · subst h; rw [Nat.zero_mul] at hb; rw [Nat.sub_zero, Nat.one_mul]; omega
  · obtain rfl : c = 1 := by omega
    rw [Nat.one_mul] at hb; rw [Nat.sub_self, Nat.zero_mul]; omega
/-- Something is borrowed: the guess is too great. -/
theorem guess_over {g V0 D P u Q : Nat} (hv : u + g * D = V0 + P) (hu : u < P) (hQ : Q = V0 / D) (hD : 0 < D) : Q < g := by
  rw [hQ, Nat.div_lt_iff_lt_mul hD]
  omega
/-- Nothing is borrowed: the guess is right. -/
theorem guess_right {g V0 D u Q : Nat} (hv : u + g * D = V0) (hQ : Q = V0 / D) (hD : 0 < D) (hg : Q ≤ g) : g = Q ∧ u < D := by
  have h1 : g ≤ Q := by rw [hQ, Nat.le_div_iff_mul_le hD]; omega
  have h2 : g = Q := by omega
  refine ⟨h2, ?_⟩
  subst h2
  have h3 := Nat.div_add_mod V0 D
  have h4 := Nat.mod_lt V0 hD
  rw [← hQ, Nat.mul_comm D] at h3
  omega
theorem guess_top {V0 D Q : Nat} (h : V0 < D * 18446744073709551616) (hQ : Q = V0 / D) (hD : 0 < D) : Q ≤ 18446744073709551615 := by
  have : Q < 18446744073709551616 := by rw [hQ, Nat.div_lt_iff_lt_mul hD, Nat.mul_comm]; exact h
  omega
/-- The first guess is not too small. -/
theorem guess_first {V0 V off m Q h : Nat} (hQ : Q = V0 / (V * bp off)) (hV : V / bp m = h) (hh : 0 < h) : Q ≤ V0 / bp (off + m) / h := by
  rw [Nat.le_div_iff_mul_le hh, Nat.le_div_iff_mul_le (bp_pos _)]
  have h1 : Q * (V * bp off) ≤ V0 := by rw [hQ]; exact Nat.div_mul_le_self _ _
  have h2 : h * bp m ≤ V := by rw [← hV]; exact Nat.div_mul_le_self _ _
  have h3 := Nat.mul_le_mul_left Q (Nat.mul_le_mul_right (bp off) h2)
  have e : Q * h * bp (off + m) = Q * (h * bp m * bp off) := by
    rw [Nat.mul_assoc, Nat.mul_assoc, ← bp_add, Nat.add_comm m]
  omega
/-- The two highest words. -/
theorem two_high {us : List Nat} (h : okw us) {N : Nat} (hN : val us < bp (N + 2)) : val us / bp N = us.getD (N + 1) 0 * 18446744073709551616 + us.getD N 0 := by
  rw [get_at h, get_at h]
  have e : val us / bp (N + 1) = val us / bp N / 18446744073709551616 := by rw [bp_succ, Nat.mul_comm, ← Nat.div_div_eq_div_mul]
  have h1 : val us / bp N < 18446744073709551616 * 18446744073709551616 := by
    rw [Nat.div_lt_iff_lt_mul (bp_pos _)]
    rw [bp_succ, bp_succ, ← Nat.mul_assoc] at hN
    exact hN
  rw [e]
  generalize val us / bp N = z at *
  omega
/-- The highest word of a number. -/
theorem top_word {V n : Nat} (hn : lw V = n + 1) : V / bp n = (wds V).getD n 0 ∧ 0 < (wds V).getD n 0 := by
  have h0 : V ≠ 0 := fun h => by subst h; rw [lw_zero] at hn; omega
  have h1 := lw_lt V
  have h2 := lw_ge h0
  rw [hn] at h1 h2
  have h3 : V / bp n < 18446744073709551616 := by
    rw [Nat.div_lt_iff_lt_mul (bp_pos _)]
    rwa [bp_succ] at h1
  have h4 : 0 < V / bp n := Nat.div_pos (by simpa using h2) (bp_pos _)
  rw [wds_at, Nat.mod_eq_of_lt h3]
  exact ⟨rfl, h4⟩
/-- A word of what is left of any words, shifted down. -/
theorem shr_atw {ws : List Nat} {x n q r i K a b t : Nat} (hok : okw ws) (hx : x = val ws) (hn : n = 64 * q + r) (hK : K = i + q) (hr : r < 64) (ha : a = ws.getD K 0) (hb : b = ws.getD (K + 1) 0) (ht : t = (a / 2 ^ r + b * 2 ^ (64 - r)) % 18446744073709551616) :
    t = x / 2 ^ n / bp i % 18446744073709551616 := by
  rw [get_at hok, ← hx, ← wds_at] at ha
  rw [get_at hok, ← hx, ← wds_at] at hb
  exact shr_at hn hK hr ha hb ht
theorem shr_word0 (a b : Nat) (ha : a < 18446744073709551616) : bits .or .u64 (a : Int) (IntKind.u64.wrap ((b : Int) * 18446744073709551616)) = (a : Int) ∧ a = (a / 2 ^ 0 + b * 2 ^ (64 - 0)) % 18446744073709551616 := by
  constructor
  · have e : IntKind.u64.wrap ((b : Int) * 18446744073709551616) = ((0 : Nat) : Int) := by rw [IntKind.wrap_u64]; omega
    rw [e, u64_or_nat a 0 ha (by omega), Nat.or_zero]
  · rw [Nat.pow_zero, Nat.div_one, Nat.sub_zero, two64]; omega
theorem shr_endw {o : List Nat} {x n q r m L : Nat} (hn : n = 64 * q + r) (hm : m + q = L) (hx : x < bp L) (hl : o.length = m) (h : ∀ j, j < m → o.getD j 0 = x / 2 ^ n / bp j % 18446744073709551616) : val o = x / 2 ^ n := by
  have h1 := val_words hl h m (Nat.le_refl _)
  rw [List.take_of_length_le (by omega)] at h1
  rw [h1]
  refine Nat.mod_eq_of_lt ?_
  rw [Nat.div_lt_iff_lt_mul (Nat.two_pow_pos n)]
  refine Nat.lt_of_lt_of_le hx ?_
  rw [← hm, bp_add]
  refine Nat.mul_le_mul_left _ ?_
  rw [bp_two]
  exact Nat.pow_le_pow_right (by omega) (by omega)
end Go.Proofs.YtfciahfdmnnejaaDoor
