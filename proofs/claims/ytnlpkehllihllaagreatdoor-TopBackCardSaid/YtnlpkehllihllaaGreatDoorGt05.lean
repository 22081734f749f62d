/-
  A part of the proofs that calipertop.TopBack, TopFloats and TopNearest return true for every input and leave it as it was: part 5 of 47.
-/
import Derived.Test.YtnlpkehllihllaaGreatDoorGt01
import Derived.Test.YtnlpkehllihllaaGreatDoorGt02
/-
  The plain arithmetic of a shift down, word by word.
-/
namespace Go.Proofs.YtnlpkehllihllaaGreatDoor

/-- A word of what is left of a number that is shifted down by some bits: out of two neighbours. -/
theorem shr_split (z r : Nat) (hr : r ≤ 64) : z / 2 ^ r % 18446744073709551616 = (z % 18446744073709551616 / 2 ^ r + (z / 18446744073709551616 % 18446744073709551616) * 2 ^ (64 - r)) % 18446744073709551616 := by
  have hp := pow_split hr
  have hp0 : 0 < 2 ^ r := Nat.two_pow_pos r
  obtain ⟨a, ha⟩ : ∃ a, a = z % 18446744073709551616 := ⟨_, rfl⟩
  obtain ⟨z1, hz1⟩ : ∃ z1, z1 = z / 18446744073709551616 := ⟨_, rfl⟩
  obtain ⟨y, hy⟩ : ∃ y, y = z1 % 18446744073709551616 := ⟨_, rfl⟩
  obtain ⟨z2, hz2⟩ : ∃ z2, z2 = z1 / 18446744073709551616 := ⟨_, rfl⟩
  have e1 : z = a + 2 ^ r * (2 ^ (64 - r) * z1) := by rw [← Nat.mul_assoc, hp]; omega
  have e2 : z / 2 ^ r = a / 2 ^ r + 2 ^ (64 - r) * z1 := by
    rw [e1]
    exact Nat.add_mul_div_left a (2 ^ (64 - r) * z1) hp0
  have e3 : z1 = y + 18446744073709551616 * z2 := by omega
  rw [← ha, ← hz1, ← hy, e2, e3, Nat.mul_add, ← Nat.add_assoc, Nat.mul_comm (2 ^ (64 - r)) y]
  rw [show 2 ^ (64 - r) * (18446744073709551616 * z2) = 18446744073709551616 * (2 ^ (64 - r) * z2) from Nat.mul_left_comm ..]
  exact Nat.add_mul_mod_self_left ..
/-- The two parts joined are their sum. -/
theorem shr_word (x y r : Nat) (hx : x < 18446744073709551616) (hy : y < 18446744073709551616) (hr0 : 0 < r) (hr : r < 64) :
    ∃ t : Nat, t < 18446744073709551616 ∧ bits .or .u64 ((x / 2 ^ r : Nat) : Int) (IntKind.u64.wrap ((y : Int) * 2 ^ (64 - r))) = (t : Int) ∧ t = (x / 2 ^ r + y * 2 ^ (64 - r)) % 18446744073709551616 := by
  have hp := pow_split (r := r) (by omega)
  have ho : x / 2 ^ r < 2 ^ (64 - r) := by
    rw [Nat.div_lt_iff_lt_mul (Nat.two_pow_pos r), Nat.mul_comm, hp]
    exact hx
  obtain ⟨t, h, h1, _, h3, _, h5⟩ := shl_word y (64 - r) (x / 2 ^ r) hy (by omega) ho
  exact ⟨t, h1, h3, by omega⟩
theorem shr_at {x n q r i K a b t : Nat} (hn : n = 64 * q + r) (hK : K = i + q) (hr : r < 64) (ha : a = (wds x).getD K 0) (hb : b = (wds x).getD (K + 1) 0) (ht : t = (a / 2 ^ r + b * 2 ^ (64 - r)) % 18446744073709551616) :
    t = x / 2 ^ n / bp i % 18446744073709551616 := by
  have e1 : x / 2 ^ n / bp i = x / bp K / 2 ^ r := by
    rw [Nat.div_div_eq_div_mul, Nat.div_div_eq_div_mul]
    congr 1
    rw [hn, hK, bp_two, bp_two, ← Nat.pow_add, ← Nat.pow_add]
    congr 1
    omega
  have e2 : x / bp (K + 1) = x / bp K / 18446744073709551616 := by rw [bp_succ, Nat.mul_comm, ← Nat.div_div_eq_div_mul]
  rw [e1, shr_split _ r (by omega), ht, ha, hb, wds_at, wds_at, e2]
/-- Words that are a number's words, one by one, are worth it. -/
theorem val_words {o : List Nat} {X m : Nat} (hl : o.length = m) (h : ∀ j, j < m → o.getD j 0 = X / bp j % 18446744073709551616) : ∀ j, j ≤ m → val (o.take j) = X % bp j
  | 0, _ => by rw [List.take_zero, val_nil, bp_zero, Nat.mod_one]
  | j + 1, hj => by
    rw [val_take_succ o j (by omega), val_words hl h j (by omega), h j (by omega), bp_succ, Nat.mul_comm 18446744073709551616, Nat.mod_mul]
theorem shr_end {o : List Nat} {x n q r m : Nat} (hn : n = 64 * q + r) (hm : m + q = lw x) (hl : o.length = m) (h : ∀ j, j < m → o.getD j 0 = x / 2 ^ n / bp j % 18446744073709551616) : val o = x / 2 ^ n := by
  have h1 := val_words hl h m (Nat.le_refl _)
  rw [List.take_of_length_le (by omega)] at h1
  rw [h1]
  refine Nat.mod_eq_of_lt ?_
  rw [Nat.div_lt_iff_lt_mul (Nat.two_pow_pos n)]
  refine Nat.lt_of_lt_of_le (lw_lt x) ?_
  rw [← hm, bp_add]
  refine Nat.mul_le_mul_left _ ?_
  rw [bp_two]
  exact Nat.pow_le_pow_right (by omega) (by omega)
end Go.Proofs.YtnlpkehllihllaaGreatDoor

/-
  The plain arithmetic of one digit of a long division, word by word.
-/
namespace Go.Proofs.YtnlpkehllihllaaGreatDoor

theorem set_ne {ws : List Nat} {i j v : Nat} (h : j ≠ i) : (ws.set i v).getD j 0 = ws.getD j 0 := by
  rw [List.getD_eq_getElem?_getD, List.getElem?_set_ne (by omega), ← List.getD_eq_getElem?_getD]
theorem set_self {ws : List Nat} {i v : Nat} (h : i < ws.length) : (ws.set i v).getD i 0 = v := by
  rw [List.getD_eq_getElem?_getD, List.getElem?_set_self h]; rfl
theorem val_noughts {ws : List Nat} (h : ∀ j, ws.getD j 0 = 0) : val ws = 0 := by
  induction ws with
  | nil => rfl
  | cons x xs ih =>
    have h0 := h 0
    have h1 := ih (fun j => by have := h (j + 1); rwa [List.getD_cons_succ] at this)
    rw [List.getD_cons_zero] at h0
    rw [val_cons, h0, h1]
/-- Words that are noughts from a place on are less than the base's power of it. -/
theorem val_lt_zero {ws : List Nat} {N : Nat} (h : okw ws) (hz : ∀ j, N ≤ j → ws.getD j 0 = 0) : val ws < bp N := by
  rcases Nat.lt_or_ge ws.length N with h1 | h1
  · exact Nat.lt_of_lt_of_le (val_lt h) (bp_mono (by omega))
  · rw [val_split ws N h1, val_noughts (ws := ws.drop N) (fun j => by
      rw [List.getD_eq_getElem?_getD, List.getElem?_drop, ← List.getD_eq_getElem?_getD]; exact hz _ (by omega)), Nat.mul_zero, Nat.add_zero]
    have := val_lt (okw_take h N)
    rwa [List.length_take, Nat.min_eq_left h1] at this
/-- The word at a place of any words, by division. -/
theorem get_at {ws : List Nat} (h : okw ws) (i : Nat) : ws.getD i 0 = val ws / bp i % 18446744073709551616 := by
  induction ws generalizing i with
  | nil => simp [val]
  | cons x xs ih =>
    have hx : x < 18446744073709551616 := h x (by simp)
    cases i with
    | zero => rw [List.getD_cons_zero, val_cons, bp_zero, Nat.div_one]; omega
    | succ i =>
      rw [List.getD_cons_succ, ih (fun y hy => h y (by simp [hy])), val_cons, bp_succ, ← Nat.div_div_eq_div_mul]
      congr 2
      omega

/-- A round of the loop that takes away: what stands in the word, what is carried, what is borrowed. -/
theorem dig_word (x y c o b0 : Nat) (hx : x < 18446744073709551616) (hy : y < 18446744073709551616) (hc : c < 18446744073709551616) (ho : o < 18446744073709551616) (hb : b0 ≤ 1) :
    ∃ t d b : Nat, t < 18446744073709551616 ∧ d < 18446744073709551616 ∧ b ≤ 1 ∧ t + x * y + c + b0 = o + 18446744073709551616 * (d + b) ∧ d * 18446744073709551616 ≤ x * y + c ∧
      (difI (o : Int) (sumI (mullI x y) c 0) b0 = (t : Int)) ∧ (mulhI x y + carI (mullI x y) c 0 = (d : Int)) ∧ (borI (o : Int) (sumI (mullI x y) c 0) b0 = (b : Int)) ∧
      0 ≤ mullI x y ∧ 0 ≤ sumI (mullI x y) c 0 ∧ sumI (mullI x y) c 0 ≤ 18446744073709551615 := by
  have hb := mul_bound hx hy
  rw [mulhI_nat, mullI_nat]
  generalize x * y = p at *
  have e1 : sumI ((p % 18446744073709551616 : Nat) : Int) c 0 = (((p % 18446744073709551616 + c) % 18446744073709551616 : Nat) : Int) := sumI_nat (p % 18446744073709551616) c 0
  have e2 : carI ((p % 18446744073709551616 : Nat) : Int) c 0 = (((p % 18446744073709551616 + c) / 18446744073709551616 : Nat) : Int) := carI_nat (p % 18446744073709551616) c 0
  rw [e1, e2]
  obtain ⟨l, hl⟩ : ∃ l, l = (p % 18446744073709551616 + c) % 18446744073709551616 := ⟨_, rfl⟩
  obtain ⟨d, hd⟩ : ∃ d, d = p / 18446744073709551616 + (p % 18446744073709551616 + c) / 18446744073709551616 := ⟨_, rfl⟩
  rw [← hl]
  have hld : l + 18446744073709551616 * d = p + c := by omega
  have hl64 : l < 18446744073709551616 := by omega
  have hd64 : d < 18446744073709551616 := by omega
  have hdd : ((p / 18446744073709551616 : Nat) : Int) + (((p % 18446744073709551616 + c) / 18446744073709551616 : Nat) : Int) = (d : Int) := by omega
  clear hl hd e1 e2 hb
  unfold difI borI
  by_cases h : o < l + b0
  · refine ⟨o + 18446744073709551616 - l - b0, d, 1, by omega, hd64, by omega, by omega, by omega, ?_, hdd, ?_, by omega, by omega, by omega⟩
    · omega
    · rw [if_pos (by omega)]; rfl
  · refine ⟨o - l - b0, d, 0, by omega, hd64, by omega, by omega, by omega, ?_, hdd, ?_, by omega, by omega, by omega⟩
    · omega
    · rw [if_neg (by omega)]; rfl
/-- The whole, behind a round of the loop that takes away. -/
theorem dig_sub (us : List Nat) (off i g c b0 t d b V0 : Nat) (vs : List Nat) (hi : off + i < us.length)
    (hv : val us + g * val (vs.take i) * bp off = V0 + (c + b0) * bp (off + i)) (ht : t + g * vs.getD i 0 + c + b0 = us.getD (off + i) 0 + 18446744073709551616 * (d + b)) :
    val (us.set (off + i) t) + g * val (vs.take (i + 1)) * bp off = V0 + (d + b) * bp (off + (i + 1)) := by
  have h1 := val_set us (off + i) t hi
  have e0 : val (vs.take (i + 1)) = val (vs.take i) + bp i * vs.getD i 0 := by
    rcases Nat.lt_or_ge i vs.length with h | h
    · exact val_take_succ vs i h
    · rw [List.take_of_length_le (by omega), List.take_of_length_le (by omega), List.getD_eq_getElem?_getD, List.getElem?_eq_none h]; simp
  rw [e0, Nat.mul_add, Nat.add_mul]
  have e1 : (d + b) * bp (off + (i + 1)) = 18446744073709551616 * (d + b) * bp (off + i) := by rw [← Nat.add_assoc, bp_succ, ← Nat.mul_assoc, Nat.mul_comm (d + b)]
  have e2 : g * (bp i * vs.getD i 0) * bp off = g * vs.getD i 0 * bp (off + i) := by
    rw [bp_add, Nat.mul_comm (bp i), ← Nat.mul_assoc, Nat.mul_assoc, Nat.mul_comm (bp i)]
  rw [e1, e2]
  have e3 : (t + g * vs.getD i 0 + c + b0) * bp (off + i) = (us.getD (off + i) 0 + 18446744073709551616 * (d + b)) * bp (off + i) := by rw [ht]
  rw [Nat.add_mul, Nat.add_mul, Nat.add_mul, Nat.add_mul] at e3
  rw [Nat.add_mul] at hv
  omega
theorem dig_carry {g i c d : Nat} {vs : List Nat} (h : c * bp i ≤ g * val (vs.take i)) (hd : d * 18446744073709551616 ≤ g * vs.getD i 0 + c) : d * bp (i + 1) ≤ g * val (vs.take (i + 1)) := by
  have e0 : val (vs.take (i + 1)) = val (vs.take i) + bp i * vs.getD i 0 := by
    rcases Nat.lt_or_ge i vs.length with h | h
    · exact val_take_succ vs i h
    · rw [List.take_of_length_le (by omega), List.take_of_length_le (by omega), List.getD_eq_getElem?_getD, List.getElem?_eq_none h]; simp
  rw [e0, Nat.mul_add, bp_succ]
  have h1 := Nat.mul_le_mul_right (bp i) hd
  rw [Nat.add_mul] at h1
  have e1 : d * (18446744073709551616 * bp i) = d * 18446744073709551616 * bp i := by rw [Nat.mul_assoc]
  have e2 : g * (bp i * vs.getD i 0) = g * vs.getD i 0 * bp i := by rw [Nat.mul_comm (bp i), Nat.mul_assoc]
  rw [e1, e2]
  omega
/-- A round of the loop that puts back. -/
theorem back_word (o y c : Nat) (ho : o < 18446744073709551616) (hy : y < 18446744073709551616) (hc : c ≤ 1) :
    ∃ t d : Nat, t < 18446744073709551616 ∧ d ≤ 1 ∧ t + 18446744073709551616 * d = o + y + c ∧ sumI (o : Int) y c = (t : Int) ∧ carI (o : Int) y c = (d : Int) :=
  ⟨(o + y + c) % 18446744073709551616, (o + y + c) / 18446744073709551616, by omega, by omega, by omega, sumI_nat o y c, carI_nat o y c⟩
theorem back_add (us : List Nat) (off i c t d V0 : Nat) (vs : List Nat) (hi : off + i < us.length)
    (hv : val us + c * bp (off + i) = V0 + val (vs.take i) * bp off) (ht : t + 18446744073709551616 * d = us.getD (off + i) 0 + vs.getD i 0 + c) :
    val (us.set (off + i) t) + d * bp (off + (i + 1)) = V0 + val (vs.take (i + 1)) * bp off := by
  have h1 := val_set us (off + i) t hi
  have e0 : val (vs.take (i + 1)) = val (vs.take i) + bp i * vs.getD i 0 := by
    rcases Nat.lt_or_ge i vs.length with h | h
    · exact val_take_succ vs i h
    · rw [List.take_of_length_le (by omega), List.take_of_length_le (by omega), List.getD_eq_getElem?_getD, List.getElem?_eq_none h]; simp
  rw [e0, Nat.add_mul]
  have e1 : d * bp (off + (i + 1)) = 18446744073709551616 * d * bp (off + i) := by rw [← Nat.add_assoc, bp_succ, ← Nat.mul_assoc, Nat.mul_comm d]
  have e2 : bp i * vs.getD i 0 * bp off = vs.getD i 0 * bp (off + i) := by
    rw [bp_add, Nat.mul_comm (bp i), Nat.mul_assoc, Nat.mul_comm (bp i)]
  rw [e1, e2]
  have e3 : (t + 18446744073709551616 * d) * bp (off + i) = (us.getD (off + i) 0 + vs.getD i 0 + c) * bp (off + i) := by rw [ht]
  rw [Nat.add_mul, Nat.add_mul, Nat.add_mul] at e3
  omega

/-- Behind the loop that takes away: nothing is carried on. -/
theorem dig_end {us : List Nat} {off n g c b V0 V : Nat} (hv : val us + g * V * bp off = V0 + (c + b) * bp (off + (n + 1))) (hc : c * bp (n + 1) ≤ g * V) (hg : g < 18446744073709551616) (hV : V < bp n) :
    val us + g * (V * bp off) = V0 + b * bp (off + (n + 1)) := by
  have h1 : g * V < bp (n + 1) := by
    rw [bp_succ]
    exact Nat.mul_lt_mul'' hg hV
  have h2 : c = 0 := by
    rcases Nat.eq_zero_or_pos c with h | h
    · exact h
    · have := Nat.mul_le_mul_right (bp (n + 1)) h
      omega
  subst h2
  rw [Nat.zero_add] at hv
  rw [← Nat.mul_assoc]
  exact hv
/-- One more is put back: what was borrowed goes down by what is carried. -/
theorem back_end {us us' : List Nat} {g c V0 D P : Nat} (hg : 0 < g) (hv : val us + g * D = V0 + P) (hb : val us' + c * P = val us + D) (hc : c ≤ 1) :
    val us' + (g - 1) * D = V0 + (1 - c) * P := by
  obtain ⟨k, rfl⟩ : ∃ k, g = k + 1 := ⟨g - 1, by omega⟩
  rw [Nat.add_mul, Nat.one_mul] at hv
  rw [Nat.add_sub_cancel]
  rcases Nat.eq_zero_or_pos c with h | h
  · subst h; rw [Nat.zero_mul] at hb; rw [Nat.sub_zero, Nat.one_mul]; omega
  · obtain rfl : c = 1 := by omega
    rw [Nat.one_mul] at hb; rw [Nat.sub_self, Nat.zero_mul]; omega
/-- Something is borrowed: the guess is too great. -/
theorem guess_over {g V0 D P u Q : Nat} (hv : u + g * D = V0 + P) (hu : u < P) (hQ : Q = V0 / D) (hD : 0 < D) : Q < g := by
  rw [hQ, Nat.div_lt_iff_lt_mul hD]
  omega
/-- Nothing is borrowed: the guess is right. -/
theorem guess_right {g V0 D u Q : Nat} (hv : u + g * D = V0) (hQ : Q = V0 / D) (hD : 0 < D) (hg : Q ≤ g) : g = Q ∧ u < D := by
  have h1 : g ≤ Q := by rw [hQ, Nat.le_div_iff_mul_le hD]; omega
  have h2 : g = Q := by omega
  refine ⟨h2, ?_⟩
  subst h2
  have h3 := Nat.div_add_mod V0 D
  have h4 := Nat.mod_lt V0 hD
  rw [← hQ, Nat.mul_comm D] at h3
  omega
theorem guess_top {V0 D Q : Nat} (h : V0 < D * 18446744073709551616) (hQ : Q = V0 / D) (hD : 0 < D) : Q ≤ 18446744073709551615 := by
  have : Q < 18446744073709551616 := by rw [hQ, Nat.div_lt_iff_lt_mul hD, Nat.mul_comm]; exact h
  omega
/-- The first guess is not too small. -/
theorem guess_first {V0 V off m Q h : Nat} (hQ : Q = V0 / (V * bp off)) (hV : V / bp m = h) (hh : 0 < h) : Q ≤ V0 / bp (off + m) / h := by
  rw [Nat.le_div_iff_mul_le hh, Nat.le_div_iff_mul_le (bp_pos _)]
  have h1 : Q * (V * bp off) ≤ V0 := by rw [hQ]; exact Nat.div_mul_le_self _ _
  have h2 : h * bp m ≤ V := by rw [← hV]; exact Nat.div_mul_le_self _ _
  have h3 := Nat.mul_le_mul_left Q (Nat.mul_le_mul_right (bp off) h2)
  have e : Q * h * bp (off + m) = Q * (h * bp m * bp off) := by
    rw [Nat.mul_assoc, Nat.mul_assoc, ← bp_add, Nat.add_comm m]
  omega
/-- The two highest words. -/
theorem two_high {us : List Nat} (h : okw us) {N : Nat} (hN : val us < bp (N + 2)) : val us / bp N = us.getD (N + 1) 0 * 18446744073709551616 + us.getD N 0 := by
  rw [get_at h, get_at h]
  have e : val us / bp (N + 1) = val us / bp N / 18446744073709551616 := by rw [bp_succ, Nat.mul_comm, ← Nat.div_div_eq_div_mul]
  have h1 : val us / bp N < 18446744073709551616 * 18446744073709551616 := by
    rw [Nat.div_lt_iff_lt_mul (bp_pos _)]
    rw [bp_succ, bp_succ, ← Nat.mul_assoc] at hN
    exact hN
  rw [e]
  generalize val us / bp N = z at *
  omega
/-- The highest word of a number. -/
theorem top_word {V n : Nat} (hn : lw V = n + 1) : V / bp n = (wds V).getD n 0 ∧ 0 < (wds V).getD n 0 := by
  have h0 : V ≠ 0 := fun h => by subst h; rw [lw_zero] at hn; omega
  have h1 := lw_lt V
  have h2 := lw_ge h0
  rw [hn] at h1 h2
  have h3 : V / bp n < 18446744073709551616 := by
    rw [Nat.div_lt_iff_lt_mul (bp_pos _)]
    rwa [bp_succ] at h1
  have h4 : 0 < V / bp n := Nat.div_pos (by simpa using h2) (bp_pos _)
  rw [wds_at, Nat.mod_eq_of_lt h3]
  exact ⟨rfl, h4⟩
/-- A word of what is left of any words, shifted down. -/
theorem shr_atw {ws : List Nat} {x n q r i K a b t : Nat} (hok : okw ws) (hx : x = val ws) (hn : n = 64 * q + r) (hK : K = i + q) (hr : r < 64) (ha : a = ws.getD K 0) (hb : b = ws.getD (K + 1) 0) (ht : t = (a / 2 ^ r + b * 2 ^ (64 - r)) % 18446744073709551616) :
    t = x / 2 ^ n / bp i % 18446744073709551616 := by
  rw [get_at hok, ← hx, ← wds_at] at ha
  rw [get_at hok, ← hx, ← wds_at] at hb
  exact shr_at hn hK hr ha hb ht
theorem shr_word0 (a b : Nat) (ha : a < 18446744073709551616) : bits .or .u64 (a : Int) (IntKind.u64.wrap ((b : Int) * 18446744073709551616)) = (a : Int) ∧ a = (a / 2 ^ 0 + b * 2 ^ (64 - 0)) % 18446744073709551616 := by
  constructor
  · have e : IntKind.u64.wrap ((b : Int) * 18446744073709551616) = ((0 : Nat) : Int) := by rw [IntKind.wrap_u64]; omega
    rw [e, u64_or_nat a 0 ha (by omega), Nat.or_zero]
  · rw [Nat.pow_zero, Nat.div_one, Nat.sub_zero, two64]; omega
theorem shr_endw {o : List Nat} {x n q r m L : Nat} (hn : n = 64 * q + r) (hm : m + q = L) (hx : x < bp L) (hl : o.length = m) (h : ∀ j, j < m → o.getD j 0 = x / 2 ^ n / bp j % 18446744073709551616) : val o = x / 2 ^ n := by
  have h1 := val_words hl h m (Nat.le_refl _)
  rw [List.take_of_length_le (by omega)] at h1
  rw [h1]
  refine Nat.mod_eq_of_lt ?_
  rw [Nat.div_lt_iff_lt_mul (Nat.two_pow_pos n)]
  refine Nat.lt_of_lt_of_le hx ?_
  rw [← hm, bp_add]
  refine Nat.mul_le_mul_left _ ?_
  rw [bp_two]
  exact Nat.pow_le_pow_right (by omega) (by omega)
end Go.Proofs.YtnlpkehllihllaaGreatDoor

/-
  The walk of nat.Add.
-/
namespace Go.Proofs.YtnlpkehllihllaaGreatDoor
open Go.RowKit

theorem take_add (ws : List Nat) (i : Nat) : val (ws.take (i + 1)) = val (ws.take i) + bp i * ws.getD i 0 := by
  rcases Nat.lt_or_ge i ws.length with h | h
  · exact val_take_succ ws i h
  · rw [List.take_of_length_le (by omega), List.take_of_length_le (by omega), List.getD_eq_getElem?_getD, List.getElem?_eq_none h]; simp
theorem add_step {o wx wy : List Nat} {k c t d : Nat} (hk : k < o.length) (hz : o.getD k 0 = 0) (hv : val o + c * bp k = val (wx.take k) + val (wy.take k)) (ht : t + 18446744073709551616 * d = wx.getD k 0 + wy.getD k 0 + c) :
    val (o.set k t) + d * bp (k + 1) = val (wx.take (k + 1)) + val (wy.take (k + 1)) := by
  have h1 := val_set o k t hk
  rw [hz, Nat.zero_mul, Nat.add_zero] at h1
  rw [take_add, take_add, h1, bp_succ]
  have e := congrArg (fun z => bp k * z) ht
  simp only [Nat.mul_add] at e
  have e1 : d * (18446744073709551616 * bp k) = bp k * (18446744073709551616 * d) := by rw [Nat.mul_comm d, Nat.mul_assoc, Nat.mul_left_comm]
  have e2 : t * bp k = bp k * t := Nat.mul_comm ..
  have e3 : c * bp k = bp k * c := Nat.mul_comm ..
  omega

set_option maxHeartbeats 1600000 in
set_option maxRecDepth 100000 in
/-- nat.Add: the sum. -/
theorem add_any (va vb : Value) (x y : Nat) (w : World) (ha : Num w va x) (hb : Num w vb y) (hs : lw x + lw y ≤ 8796093022208) :
    Calls Tryz.prog 10 #[va, vb] w fun e w' => ∃ v, e = .returned v ∧ Num w' v (x + y) ∧ Below w.heap.size w w' := by
  obtain ⟨A, ca, rfl, hca, hma, hra⟩ := ha
  obtain ⟨B, cb, rfl, hcb, hmb, hrb⟩ := hb
  obtain ⟨M, hM⟩ : ∃ M, M = max (lw x) (lw y) := ⟨_, rfl⟩
  have hmx : lw x ≤ M := by omega
  have hmy : lw y ≤ M := by omega
  have hM1 : M + 1 ≤ 17592186044416 := by omega
  have hmk := fun W => make_nat (M + 1) hM1 W
  rw [show ((M + 1 : Nat) : Int) = (M : Int) + 1 by omega] at hmk
  have hxy : x + y < bp (M + 1) := by
    have h1 := lw_lt x
    have h2 := lw_lt y
    have h3 := bp_mono hmx
    have h4 := bp_mono hmy
    rw [bp_succ]
    have := bp_pos M
    omega
  have Hxy := Lib.hid hxy
  have HM := Lib.hid hM
  clear hxy hM
  go_enter Tryz.func10, Tryz.ntmps10
  go_upto_region 1 with (fail)
  go_cut [5] (fun v wx => v = .slice (some ⟨w.heap.size, 0, none⟩) (M + 1) (M + 1) ∧ wx = w.alloc (.cells (madeCells #[.int .u64 0] (M + 1)) 26))
  case first =>
    rcases Nat.lt_or_ge (lw x) (lw y) with h | h
    · have e : M = lw y := by have := HM.out; omega
      subst e
      clear HM hmx hmy hM1 Hxy
      go_wp2_with fail
      go_meet
      exact ⟨rfl, rfl⟩
    · have e : M = lw x := by have := HM.out; omega
      subst e
      have h' : ¬ lw x < lw y := by omega
      clear HM hmx hmy hM1 Hxy
      go_wp2_with fail
      go_meet
      exact ⟨rfl, rfl⟩
  case rest =>
    obtain ⟨rfl, rfl⟩ := hcut
    clear hmk
    have hw0 : WB (w.alloc (.cells (madeCells #[.int .u64 0] (M + 1)) 26)) w.heap.size (List.replicate (M + 1) 0) := WB.made w _
    have hb0 : Below w.heap.size w (w.alloc (.cells (madeCells #[.int .u64 0] (M + 1)) 26)) := (Below.refl _ _).alloc (Nat.le_refl _) _
    go_wp2_with fail
    go_loopw [6, 17] (fun c i wr => ∃ (k cn : Nat) (o : List Nat), k ≤ M + 1 ∧ i = .int .i64 k ∧ c = .int .u64 cn ∧ cn ≤ 1 ∧ Hid (WB wr w.heap.size o) ∧ Hid (o.length = M + 1) ∧ Hid (okw o) ∧ Hid (∀ j, k ≤ j → o.getD j 0 = 0) ∧
        Hid (val o + cn * bp k = val ((wds x).take k) + val ((wds y).take k)) ∧ Below w.heap.size w wr)
      (fun _ i _ => M + 1 - (intOf i).toNat)
    case atStart => exact ⟨0, 0, _, Nat.zero_le _, rfl, rfl, by omega, hw0, List.length_replicate, okw_replicate _, Lib.hid (fun j _ => rep_getD _ j), Lib.hid (by rw [val_replicate]; simp [val]), hb0⟩
    case round =>
      obtain ⟨k, cn, o, hk, rfl, rfl, hcn, p1, p2, p3, p4, p5, hbe⟩ := hrel
      by_cases hlt : k < M + 1
      · have hg1 := fun W (h : RW W A (wds x)) => at_any A (lw x) ca (wds x) (k : Int) W h rfl (by omega) (by omega)
        have hg2 := fun W (h : RW W B (wds y)) => at_any B (lw y) cb (wds y) (k : Int) W h rfl (by omega) (by omega)
        rw [Int.toNat_natCast] at hg1 hg2
        have hxw := wds_get x k
        have hyw := wds_get y k
        obtain ⟨xi, hxi⟩ : ∃ xi : Nat, xi = (wds x).getD k 0 := ⟨_, rfl⟩
        obtain ⟨yi, hyi⟩ : ∃ yi : Nat, yi = (wds y).getD k 0 := ⟨_, rfl⟩
        rw [← hxi] at hg1 hxw
        rw [← hyi] at hg2 hyw
        obtain ⟨t, d, ht, hd, e1, et, ed⟩ := back_word xi yi cn hxw hyw hcn
        have ha1 := fun W => run_add64' xi yi cn (by omega) (by omega) (by omega) (by omega) W
        rw [et, ed] at ha1
        have hstep := add_step (o := o) (by rw [p2.out]; exact hlt) (p4.out k (Nat.le_refl _)) p5.out (by rw [← hxi, ← hyi]; exact e1)
        have hco : wr.cell? ⟨w.heap.size, k, none⟩ = some (U (o.getD k 0)) := p1.out.cell (by rw [p2.out]; exact hlt)
        have hfo : wr.frozen? ⟨w.heap.size, k, none⟩ = false := p1.out.frozen _
        have Hg1 := Lib.hid hg1
        have Hg2 := Lib.hid hg2
        have Hstep := Lib.hid hstep
        have ra := Lib.hid (hra.below hbe)
        have rb := Lib.hid (hrb.below hbe)
        clear hg1 hg2 hstep hxi hyi e1 et ed
        go_wp2_with fail
        refine (Hg1.out _ ra.out).mono ?_
        rintro e w' ⟨rfl, rfl⟩
        go_wp2_with fail
        refine (Hg2.out _ rb.out).mono ?_
        rintro e w' ⟨rfl, rfl⟩
        go_wp2_with fail
        go_roundw
        case rel =>
          exact ⟨k + 1, d, o.set k t, by omega, by go_num, rfl, hd, p1.out.set_ _ _, Lib.hid (by rw [List.length_set]; exact p2.out), okw_set p3.out _ _ ht, Lib.hid (fun j hj => by rw [set_ne (by omega)]; exact p4.out j (by omega)), Hstep, hbe.setCell (Nat.le_refl _) _⟩
        case measure => simp [intOf]; omega
      · have hkk : k = M + 1 := by omega
        have e := p5.out
        rw [hkk, List.take_of_length_le (by rw [wds_length]; omega), List.take_of_length_le (by rw [wds_length]; omega), val_wds, val_wds] at e
        have e2 : val o = x + y := by
          rcases Nat.eq_zero_or_pos cn with h | h
          · rw [h, Nat.zero_mul, Nat.add_zero] at e; exact e
          · have := Nat.mul_le_mul_right (bp (M + 1)) h
            have := Hxy.out
            omega
        have E2 := Lib.hid e2
        clear e e2
        go_wp2_with fail
        refine (trim_any _ _ _ o _ p1.out.rw_ p2.out (Nat.le_refl _) (by unfold maxLen; omega)).mono ?_
        rintro e w' ⟨rfl, rfl⟩
        go_wp2_with fail
        go_ret
        refine ⟨_, rfl, ?_, hbe⟩
        rw [← E2.out]
        exact num_of_wb p1.out p2.out p3.out (by unfold maxLen; omega)
end Go.Proofs.YtnlpkehllihllaaGreatDoor
