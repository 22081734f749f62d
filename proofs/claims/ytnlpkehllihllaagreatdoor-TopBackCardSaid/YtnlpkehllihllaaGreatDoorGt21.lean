/-
  A part of the proofs that calipertop.TopBack, TopFloats and TopNearest return true for every input and leave it as it was: part 21 of 47.
-/
import Derived.Test.YtnlpkehllihllaaGreatDoorGt01
import Derived.Test.YtnlpkehllihllaaGreatDoorGt20
import Derived.Test.YtnlpkehllihllaaGreatDoorGt05
import Derived.Test.YtnlpkehllihllaaGreatDoorGt17
import Derived.Test.YtnlpkehllihllaaGreatDoorGt03
import Derived.Shelf.Strings.SlTrimAscii
import Derived.Lib.AtoiErrMem
/-
  The walk of the closure of scan.number: is there a digit?
-/
namespace Go.Proofs.YtnlpkehllihllaaGreatDoor
open Go.RowKit

/-- Is there a digit at a place? -/
def digB (s : ByteArray) (i : Nat) : Bool := if h : i < s.size then decide (48 ≤ (s[i]'h).toNat) && decide ((s[i]'h).toNat ≤ 57) else false

set_option maxHeartbeats 800000 in
set_option maxRecDepth 100000 in
/-- The closure. -/
theorem digit1_any (a b i : Nat) (s : ByteArray) (w : World) (h3 : w.cell? ⟨a, 0, none⟩ = some (.int .i64 i)) (h2 : w.cell? ⟨b, 0, none⟩ = some (.string s)) :
    Calls Tryz.prog 101 #[.pointer (some ⟨a, 0, none⟩), .pointer (some ⟨b, 0, none⟩)] w fun e w' => e = .returned (.bool (digB s i)) ∧ w' = w := by
  rcases Nat.lt_or_ge i s.size with h | h
  · have t1 : decide ((i : Int) < (s.size : Int)) = true := by simpa using h
    have hd : digB s i = (decide (48 ≤ (s[i]'h).toNat) && decide ((s[i]'h).toNat ≤ 57)) := by unfold digB; rw [dif_pos h]
    rw [hd]
    clear hd
    obtain ⟨c, hc⟩ : ∃ c, c = s[i]'h := ⟨_, rfl⟩
    rw [← hc]
    have hcs : s[i]'h = c := hc.symm
    by_cases h48 : 48 ≤ c.toNat
    · have t2 : decide (48 ≤ (c.toNat : Int)) = true := by simp; omega
      have t3 : (decide (48 ≤ c.toNat) && decide (c.toNat ≤ 57)) = decide ((c.toNat : Int) ≤ 57) := by
        rw [decide_eq_true h48, Bool.true_and]
        exact decide_eq_decide.2 ⟨fun q => by omega, fun q => by omega⟩
      rw [t3]
      clear t3 h48 hc
      go_enter Tryz.func101, Tryz.ntmps101
      go_wp2_with fail
      go_ret
      exact ⟨rfl, rfl⟩
    · have t2 : decide (48 ≤ (c.toNat : Int)) = false := by simp; omega
      have t3 : (decide (48 ≤ c.toNat) && decide (c.toNat ≤ 57)) = false := by rw [decide_eq_false h48, Bool.false_and]
      rw [t3]
      clear t3 h48 hc
      go_enter Tryz.func101, Tryz.ntmps101
      go_wp2_with fail
      go_ret
      exact ⟨rfl, rfl⟩
  · have t1 : decide ((i : Int) < (s.size : Int)) = false := by simp; omega
    have hd : digB s i = false := by unfold digB; rw [dif_neg (by omega)]
    rw [hd]
    clear hd
    go_enter Tryz.func101, Tryz.ntmps101
    go_wp2_with fail
    go_ret
    exact ⟨rfl, rfl⟩
end Go.Proofs.YtnlpkehllihllaaGreatDoor

/-
  Plain laws: the bytes of a number's text, place by place.
-/
namespace Go.Proofs.YtnlpkehllihllaaGreatDoor
open Go.RowKit

instance (b : UInt8) : Decidable (isD b) := inferInstanceAs (Decidable (48 ≤ b.toNat ∧ b.toNat ≤ 57))
theorem size_list (s : ByteArray) : s.data.toList.length = s.size := Array.length_toList
theorem byte_of {s : ByteArray} {i : Nat} {c : UInt8} (h : s.data.toList[i]? = some c) : ∃ hi : i < s.size, s[i]'hi = c := by
  obtain ⟨h1, h2⟩ := List.getElem?_eq_some_iff.1 h
  exact ⟨by rw [← size_list]; exact h1, by rw [← h2]; rfl⟩
theorem drop_get {l p : List UInt8} {a : Nat} (h : l.drop a = p) (i : Nat) : l[a + i]? = p[i]? := by rw [← h, List.getElem?_drop]
theorem drop_end {s : ByteArray} {p : List UInt8} {a : Nat} (h : s.data.toList.drop a = p) (ha : a ≤ s.size) : s.size = a + p.length := by
  rw [← h, List.length_drop, size_list]; omega
theorem digB_of {s : ByteArray} {i : Nat} {c : UInt8} (h : s.data.toList[i]? = some c) : digB s i = decide (isD c) := by
  obtain ⟨h1, h2⟩ := byte_of h
  unfold digB
  rw [dif_pos h1, h2]
  unfold isD
  by_cases q : 48 ≤ c.toNat <;> by_cases r : c.toNat ≤ 57 <;> simp [q, r]
theorem digB_end (s : ByteArray) {i : Nat} (h : s.size ≤ i) : digB s i = false := by unfold digB; rw [dif_neg (by omega)]
theorem extract_of {s : ByteArray} {a b : Nat} {p q : List UInt8} (h : s.data.toList.drop a = p ++ q) (hb : b = a + p.length) : s.extract a b = ⟨p.toArray⟩ := by
  have e : s = ByteArray.mk s.data.toList.toArray := by simp
  have h2 := ByteArray.extract_mk s.data.toList a b
  rw [← e] at h2
  rw [h2, h, hb, Nat.add_sub_cancel_left, List.take_left']
  rfl
theorem bytes_cat (a b : List UInt8) : (⟨a.toArray⟩ : ByteArray) ++ ⟨b.toArray⟩ = ⟨(a ++ b).toArray⟩ := by
  apply ByteArray.ext
  simp

/-- A text of a number behind a place. -/
structure NumT (s : ByteArray) (a0 : Nat) (d1 : List UInt8) (pt : Bool) (d2 : List UInt8) (ex eg : Bool) (es : List UInt8) : Prop where
  txt : s.data.toList.drop a0 = d1 ++ ((if pt = true then 46 :: d2 else []) ++ (if ex = true then 101 :: ((if eg = true then [45] else []) ++ es) else []))
  at0 : a0 ≤ s.size
  dig1 : ∀ b ∈ d1, isD b
  dig2 : ∀ b ∈ d2, isD b
  dig3 : ∀ b ∈ es, isD b
  ne1 : d1 ≠ []
  ne2 : pt = true → d2 ≠ []
  no2 : pt = false → d2 = []
  ne3 : ex = true → es ≠ []
  no3 : ex = false → es = [] ∧ eg = false
  short : es.length ≤ 6
section
variable {s : ByteArray} {a0 : Nat} {d1 d2 es : List UInt8} {pt ex eg : Bool}
/-- Where the exponent begins. -/
def pos2 (a0 : Nat) (d1 : List UInt8) (pt : Bool) (d2 : List UInt8) : Nat := a0 + d1.length + (if pt = true then 1 + d2.length else 0)
theorem NumT.first (h : NumT s a0 d1 pt d2 ex eg es) {i : Nat} (hi : i < d1.length) : digB s (a0 + i) = true := by
  have e : s.data.toList[a0 + i]? = some d1[i] := by rw [drop_get h.txt, List.getElem?_append_left hi, List.getElem?_eq_getElem hi]
  rw [digB_of e, decide_eq_true (h.dig1 _ (List.getElem_mem hi))]
theorem NumT.size (h : NumT s a0 d1 pt d2 ex eg es) : s.size = pos2 a0 d1 pt d2 + (if ex = true then 1 + ((if eg = true then 1 else 0) + es.length) else 0) := by
  have e := drop_end h.txt h.at0
  unfold pos2
  rw [e]
  cases pt <;> cases ex <;> cases eg <;> simp <;> omega
theorem NumT.tail (h : NumT s a0 d1 pt d2 ex eg es) (i : Nat) : s.data.toList[pos2 a0 d1 pt d2 + i]? = (if ex = true then 101 :: ((if eg = true then [45] else []) ++ es) else [])[i]? := by
  unfold pos2
  cases pt
  · rw [if_neg (by decide), Nat.add_zero, Nat.add_assoc, drop_get h.txt, List.getElem?_append_right (by omega), Nat.add_sub_cancel_left]
    rfl
  · rw [if_pos rfl, Nat.add_assoc, Nat.add_assoc, drop_get h.txt, List.getElem?_append_right (by omega), Nat.add_sub_cancel_left, if_pos rfl, List.getElem?_append_right (by simp; omega)]
    congr 1
    simp
    omega
theorem NumT.point (h : NumT s a0 d1 true d2 ex eg es) : ∃ hp : a0 + d1.length < s.size, s[a0 + d1.length]'hp = 46 := by
  apply byte_of
  rw [drop_get h.txt, List.getElem?_append_right (Nat.le_refl _), Nat.sub_self]
  rfl
theorem not_digit (c : UInt8) (h : c = 46 ∨ c = 101 ∨ c = 45) : ¬ isD c := by
  rcases h with rfl | rfl | rfl <;> (unfold isD; decide)
theorem NumT.stop1 (h : NumT s a0 d1 pt d2 ex eg es) : digB s (a0 + d1.length) = false := by
  cases pt
  · cases ex
    · refine digB_end s ?_
      have := h.size
      unfold pos2 at this
      simp at this
      omega
    · have e := h.tail 0
      unfold pos2 at e
      rw [digB_of (c := 101) (by simpa using e)]
      exact decide_eq_false (not_digit _ (.inr (.inl rfl)))
  · rw [digB_of (c := 46)]
    · exact decide_eq_false (not_digit _ (.inl rfl))
    · rw [drop_get h.txt, List.getElem?_append_right (Nat.le_refl _), Nat.sub_self]
      rfl
theorem NumT.second (h : NumT s a0 d1 true d2 ex eg es) {i : Nat} (hi : i < d2.length) : digB s (a0 + d1.length + 1 + i) = true := by
  have e : s.data.toList[a0 + d1.length + 1 + i]? = some d2[i] := by
    rw [Nat.add_assoc, Nat.add_assoc, drop_get h.txt, List.getElem?_append_right (by omega), Nat.add_sub_cancel_left, if_pos rfl, List.getElem?_append_left (by simp; omega), Nat.add_comm 1 i, List.getElem?_cons_succ, List.getElem?_eq_getElem hi]
  rw [digB_of e, decide_eq_true (h.dig2 _ (List.getElem_mem hi))]
theorem NumT.stop2 (h : NumT s a0 d1 pt d2 ex eg es) : digB s (pos2 a0 d1 pt d2) = false := by
  cases ex
  · refine digB_end s ?_
    have := h.size
    simp at this
    omega
  · have e := h.tail 0
    rw [digB_of (c := 101) (by simpa using e)]
    exact decide_eq_false (not_digit _ (.inr (.inl rfl)))
theorem NumT.cut1 (h : NumT s a0 d1 pt d2 ex eg es) : s.extract a0 (a0 + d1.length) = ⟨d1.toArray⟩ := extract_of h.txt rfl
theorem NumT.cut2 (h : NumT s a0 d1 true d2 ex eg es) : s.extract (a0 + d1.length + 1) (a0 + d1.length + 1 + d2.length) = ⟨d2.toArray⟩ := by
  refine extract_of (q := if ex = true then 101 :: ((if eg = true then [45] else []) ++ es) else []) ?_ rfl
  rw [← List.drop_drop, ← List.drop_drop, h.txt, List.drop_left' rfl, if_pos rfl]
  rfl
theorem NumT.expo (h : NumT s a0 d1 pt d2 true eg es) : ∃ hp : pos2 a0 d1 pt d2 < s.size, s[pos2 a0 d1 pt d2]'hp = 101 := by
  apply byte_of
  have e := h.tail 0
  simpa using e
theorem NumT.minus (h : NumT s a0 d1 pt d2 true true es) : ∃ hp : pos2 a0 d1 pt d2 + 1 < s.size, s[pos2 a0 d1 pt d2 + 1]'hp = 45 := by
  apply byte_of
  have e := h.tail 1
  simpa using e
theorem NumT.power (h : NumT s a0 d1 pt d2 true eg es) {i : Nat} (hi : i < es.length) : ∃ hp : pos2 a0 d1 pt d2 + 1 + (if eg = true then 1 else 0) + i < s.size, s[pos2 a0 d1 pt d2 + 1 + (if eg = true then 1 else 0) + i]'hp = es[i] := by
  apply byte_of
  cases eg
  · have e := h.tail (1 + i)
    rw [if_neg (by decide), Nat.add_zero, Nat.add_assoc, e, if_pos rfl, if_neg (by decide), List.nil_append, Nat.add_comm 1 i, List.getElem?_cons_succ, List.getElem?_eq_getElem hi]
  · have e := h.tail (1 + 1 + i)
    rw [if_pos rfl, Nat.add_assoc, Nat.add_assoc, ← Nat.add_assoc 1 1 i, e, if_pos rfl, if_pos rfl, show 1 + 1 + i = (i + 1) + 1 by omega, List.getElem?_cons_succ]
    show (45 :: es)[i + 1]? = _
    rw [List.getElem?_cons_succ, List.getElem?_eq_getElem hi]
theorem NumT.stop3 (h : NumT s a0 d1 pt d2 true eg es) : s.size = pos2 a0 d1 pt d2 + 1 + (if eg = true then 1 else 0) + es.length := by
  have e := h.size
  rw [if_pos rfl] at e
  omega
theorem NumT.more (h : NumT s a0 d1 pt d2 true eg es) {i : Nat} (hi : i < es.length) : digB s (pos2 a0 d1 pt d2 + 1 + (if eg = true then 1 else 0) + i) = true := by
  obtain ⟨x, y⟩ := h.power hi
  unfold digB
  rw [dif_pos x, y]
  have := h.dig3 _ (List.getElem_mem hi)
  rw [decide_eq_true this.1, decide_eq_true this.2]
  rfl
end
theorem dval_take {l : List UInt8} {j : Nat} (h : j < l.length) : dval (l.take (j + 1)) = 10 * dval (l.take j) + (l[j].toNat - 48) := by
  rw [List.take_add_one, List.getElem?_eq_getElem h, dval_append]
  show dval (l.take j) * 10 ^ 1 + dval [l[j]] = _
  rw [dval_one]
  omega
theorem dval_take_lt {l : List UInt8} (h : ∀ b ∈ l, isD b) (hl : l.length ≤ 6) (j : Nat) : dval (l.take j) < 1000000 := by
  have h1 := dval_lt (l := l.take j) (fun b hb => h b (List.mem_of_mem_take hb))
  have h2 : 10 ^ (l.take j).length ≤ 10 ^ 6 := Nat.pow_le_pow_right (by omega) (by rw [List.length_take]; omega)
  omega
end Go.Proofs.YtnlpkehllihllaaGreatDoor

/-
  The walk of nat.Parse, of digits.
-/
namespace Go.Proofs.YtnlpkehllihllaaGreatDoor
open Go.RowKit Go.Sort

theorem parse_digM {M : Nat} (hM : M < 18446744073709551616) : ∀ {l : List UInt8} {acc : Nat}, (∀ b ∈ l, isD b) → acc * 10 ^ l.length + dval l ≤ M → Lib.parseUintM M acc l = .ok (acc * 10 ^ l.length + dval l) := by
  intro l
  induction l with
  | nil => intro acc _ _; simp [Lib.parseUintM, dval]
  | cons c r ih =>
    intro acc h hb
    have hc := h c (List.mem_cons_self)
    have e : acc * 10 ^ (c :: r).length + dval (c :: r) = (acc * 10 + (c.toNat - 48)) * 10 ^ r.length + dval r := by
      rw [List.length_cons, Nat.pow_succ, dval_cons, Nat.add_mul]
      have : acc * (10 ^ r.length * 10) = acc * 10 * 10 ^ r.length := by ac_rfl
      omega
    rw [e] at hb ⊢
    have hp : 1 ≤ 10 ^ r.length := Nat.one_le_pow _ _ (by omega)
    have hle : acc * 10 + (c.toNat - 48) ≤ (acc * 10 + (c.toNat - 48)) * 10 ^ r.length := Nat.le_mul_of_pos_right _ hp
    unfold Lib.parseUintM
    rw [if_pos (show 48 ≤ c.toNat ∧ c.toNat ≤ 57 from hc), if_neg (by omega), if_neg (by omega)]
    exact ih (fun b q => h b (List.mem_cons_of_mem _ q)) hb
theorem parse_dig64 {l : List UInt8} (h : ∀ b ∈ l, isD b) (hne : l ≠ []) (hl : l.length ≤ 19) : Lib.parseUintB 64 l = .ok (dval l) := by
  have h1 := dval_lt h
  have h2 : 10 ^ l.length ≤ 10 ^ 19 := Nat.pow_le_pow_right (by omega) hl
  have e := parse_digM (M := 18446744073709551615) (by omega) (acc := 0) h (by rw [Nat.zero_mul, Nat.zero_add]; omega)
  unfold Lib.parseUintB
  rw [if_neg hne, show (2 : Nat) ^ 64 - 1 = 18446744073709551615 from rfl, e, Nat.zero_mul, Nat.zero_add]
/-- The ten digits. -/
def tenD : List UInt8 := [48, 49, 50, 51, 52, 53, 54, 55, 56, 57]
theorem ten_has {b : UInt8} (h : isD b) : tenD.contains b = true := by
  obtain ⟨h1, h2⟩ := h
  have e : b = UInt8.ofNat b.toNat := by simp
  have h3 : b.toNat = 48 ∨ b.toNat = 49 ∨ b.toNat = 50 ∨ b.toNat = 51 ∨ b.toNat = 52 ∨ b.toNat = 53 ∨ b.toNat = 54 ∨ b.toNat = 55 ∨ b.toNat = 56 ∨ b.toNat = 57 := by omega
  rw [e]
  rcases h3 with q | q | q | q | q | q | q | q | q | q <;> (rw [q]; decide)
theorem drop_all {p : UInt8 → Bool} : ∀ {l : List UInt8}, (∀ b ∈ l, p b = true) → l.dropWhile p = []
  | [], _ => rfl
  | c :: l, h => by rw [List.dropWhile_cons, if_pos (h c (List.mem_cons_self))]; exact drop_all fun b hb => h b (List.mem_cons_of_mem _ hb)
theorem trim_digits {l : List UInt8} (h : ∀ b ∈ l, isD b) : Lib.trimS l tenD = [] := by
  unfold Lib.trimS Lib.trimRightS
  rw [drop_all (l := l.reverse) (fun b hb => ten_has (h b (List.mem_reverse.1 hb)))]
  rfl
theorem strim_any (s : ByteArray) (w : World) (h : ∀ b ∈ s.data.toList, isD b) (hs : s.size ≤ 1000000) :
    Calls Tryz.prog 124 #[.string s, .string ⟨#[48, 49, 50, 51, 52, 53, 54, 55, 56, 57]⟩] w fun e w' => e = .returned (.string ⟨#[]⟩) ∧ Below w.heap.size w w' := by
  refine (Any.strings_Trim_laid Tryz.lays160 (by kernel_rfl) s ⟨#[48, 49, 50, 51, 52, 53, 54, 55, 56, 57]⟩ w (by omega) (by decide) (ascii_of_all (by decide))).mono ?_
  rintro e w' ⟨rfl, hb⟩
  rw [show (⟨#[48, 49, 50, 51, 52, 53, 54, 55, 56, 57]⟩ : ByteArray).data.toList = tenD from rfl, trim_digits h]
  exact ⟨rfl, hb⟩
theorem puint_any (s : ByteArray) (w : World) (h : ∀ b ∈ s.data.toList, isD b) (hne : s.data.toList ≠ []) (hl : s.data.toList.length ≤ 19) :
    Calls Tryz.prog 125 #[.string s, .int .i64 10, .int .i64 64] w fun e w' => e = .returned (.tuple #[U (dval s.data.toList), .nilIface]) ∧ Below w.heap.size w w' := by
  refine (Tryz.strconv_ParseUint_10_at64_ok s (by rw [← size_list]; omega) (dval s.data.toList) (parse_dig64 h hne hl) w).mono ?_
  rintro e w' ⟨rfl, hb⟩
  refine ⟨rfl, ?_⟩
  rcases hb with rfl | rfl
  · exact Below.refl _ _
  · exact Lib.bytesWorld_below _ _ _
/-- How long a string is. -/
def strLen : Value → Nat
  | .string s => s.size
  | _ => 0

set_option maxHeartbeats 3200000 in
set_option maxRecDepth 100000 in
/-- nat.Parse of digits, the first not 0. -/
theorem nparse_any (s : ByteArray) (w : World) (hd : ∀ b ∈ s.data.toList, isD b) (hne : s.data.toList ≠ []) (h0 : s.data.toList[0]? ≠ some 48) (hl : s.size ≤ 60) :
    Calls Tryz.prog 104 #[.string s] w fun r w' => ∃ v, r = .returned (.tuple #[v, .bool true]) ∧ Num w' v (dval s.data.toList) ∧ Below w.heap.size w w' := by
  have hsz : 0 < s.size := by rw [← size_list]; exact List.length_pos_iff.2 hne
  have hemp : s.toList.isEmpty = false := by
    rw [← decide_eq_emptyBytes]
    exact decide_eq_false (fun h => by rw [h] at hsz; simp at hsz)
  have t13 : decide ((2000 : Int) < (s.size : Int)) = false := by simp; omega
  have t14 : decide (2000 < s.size) = false := by simp; omega
  obtain ⟨c, hc⟩ : ∃ c, s.data.toList[0]? = some c := ⟨_, List.getElem?_eq_getElem (List.length_pos_iff.2 hne)⟩
  obtain ⟨hq, hcc⟩ := byte_of hc
  have hc48 : c.toNat ≠ 48 := fun q => h0 (by rw [hc]; congr 1; exact UInt8.toNat_inj.1 q)
  have t18 : (((c.toNat : Nat) : Int) == 48) = false := by rw [beq_eq_false_iff_ne]; omega
  have Tr := Lib.hid fun W => strim_any s W hd (by omega)
  have Mu := Lib.hid fun (va vb : Value) (x : Nat) W (ha : Num W va x) (hb : Num W vb 10000000000000000000) (hx : lw x ≤ 200) => mul_any va vb x 10000000000000000000 W ha hb (by have : lw 10000000000000000000 ≤ 1 := lw_le (k := 1) (by decide); omega)
  obtain ⟨l, hL⟩ : ∃ l, l = s.data.toList := ⟨_, rfl⟩
  have hlen : l.length = s.size := by rw [hL]; exact size_list s
  have HD := Lib.hid (show ∀ b ∈ l, isD b by rw [hL]; exact hd)
  rw [← hL]
  have HL := Lib.hid hL
  have hl2 : l.length ≤ 60 := by omega
  clear hL hd hne h0 hc hlen
  go_enter Tryz.func104, Tryz.ntmps104
  go_wp2_with fail
  ((with_reducible refine (Tr.out _).mono ?_); rintro r w1 ⟨rfl, g1⟩)
  have G1 := Lib.hid g1
  clear g1 Tr hc48 t13 t14 t18 hemp hcc hq
  go_wp2_with fail
  go_loopw [0, 4, 5, 6, 7] (fun sv a b c d => fun wr => ∃ (r : ByteArray) (k : Nat), sv = .string r ∧ k ≤ l.length ∧ Hid (r.data.toList = l.drop k) ∧ Num wr a (dval (l.take k)) ∧ Hid (k = 0 ∨ (l.length - k) % 19 = 0) ∧ Hid (Below w.heap.size w wr)) (fun sv _ _ _ _ _ => strLen sv)
  case atStart => exact ⟨s, 0, rfl, by omega, Lib.hid (by rw [List.drop_zero]; exact HL.out.symm), by rw [List.take_zero]; exact num_nil w1, Lib.hid (.inl rfl), G1⟩
  case round =>
    obtain ⟨r, k, rfl, hk, hr, hN, hm, hB⟩ := hrel
    have hrs : r.size = l.length - k := by rw [← size_list, hr.out, List.length_drop]
    rcases Nat.lt_or_ge k l.length with hlt | hge
    · obtain ⟨m, hmm⟩ : ∃ m, l.length - k = m + 1 := ⟨l.length - k - 1, by omega⟩
      obtain ⟨n, hn⟩ : ∃ n, n = m % 19 + 1 := ⟨_, rfl⟩
      have hnm : n ≤ m + 1 := by omega
      have hrm : r.size = m + 1 := by omega
      have t32 : decide (0 < r.size) = true := decide_eq_true (by omega)
      have t33 : decide ((0 : Int) < (r.size : Int)) = true := decide_eq_true (by omega)
      have e35 : IntKind.i64.wrap ((r.size : Int) - 1) = (m : Int) := by rw [IntKind.wrap_i64]; omega
      have e36 : ((m : Int)).tmod 19 = ((m % 19 : Nat) : Int) := by rw [Int.tmod_eq_emod_of_nonneg (by omega)]; omega
      have e37 : IntKind.i64.wrap (((m % 19 : Nat) : Int) + 1) = (n : Int) := by rw [IntKind.wrap_i64]; omega
      have c41 : (n : Int) ≤ (r.size : Int) := by omega
      have hcut : r.extract 0 n = ⟨((l.drop k).take n).toArray⟩ := by
        refine extract_of (p := (l.drop k).take n) (q := (l.drop k).drop n) ?_ ?_
        · rw [List.drop_zero, hr.out, List.take_append_drop]
        · rw [List.length_take, List.length_drop]; omega
      have hcut2 : (r.extract n r.size).data.toList = l.drop (k + n) := by
        rw [extract_of (a := n) (b := r.size) (p := l.drop (k + n)) (q := [])]
        · rw [hr.out, List.drop_drop, List.append_nil]
        · rw [List.length_drop]; omega
      have hk1 : k = 0 ∨ n = 19 := by
        rcases hm.out with q | q
        · exact .inl q
        · right; omega
      obtain ⟨ch, hch⟩ : ∃ ch : ByteArray, ch = ⟨((l.drop k).take n).toArray⟩ := ⟨_, rfl⟩
      rw [← hch] at hcut
      have hcutm : r.extract 0 (m % 19 + 1) = ch := by rw [← hn]; exact hcut
      have c42 : (m : Int) % 19 + 1 ≤ (r.size : Int) := by omega
      have HNN := Lib.hid hn
      have hcl : ch.data.toList = (l.drop k).take n := by rw [hch]
      have hcn : ch.data.toList.length = n := by rw [hcl, List.length_take, List.length_drop]; omega
      have Pu := Lib.hid fun W => puint_any ch W (fun b hb => HD.out b (by rw [hcl] at hb; exact List.mem_of_mem_drop (List.mem_of_mem_take hb))) (by intro q; rw [q] at hcn; simp at hcn; omega) (by omega)
      obtain ⟨x, hx⟩ : ∃ x, x = dval ch.data.toList := ⟨_, rfl⟩
      rw [← hx] at Pu
      have hxb : x < 18446744073709551616 := by
        have a := dval_lt (l := ch.data.toList) (fun b hb => HD.out b (by rw [hcl] at hb; exact List.mem_of_mem_drop (List.mem_of_mem_take hb)))
        have b : 10 ^ ch.data.toList.length ≤ 10 ^ 19 := Nat.pow_le_pow_right (by omega) (by omega)
        omega
      have hnext : dval (l.take (k + n)) = dval (l.take k) * 10000000000000000000 + x := by
        rw [List.take_add, dval_append, ← hcl, ← hx, hcn]
        rcases hk1 with q | q
        · rw [q, List.take_zero, dval_nil, Nat.zero_mul, Nat.zero_mul]
        · rw [q]
      have hlk : lw (dval (l.take k)) ≤ 100 := by
        have a := dval_lt (l := l.take k) (fun b hb => HD.out b (List.mem_of_mem_take hb))
        have b : 10 ^ (l.take k).length ≤ 10 ^ 60 := Nat.pow_le_pow_right (by omega) (by rw [List.length_take]; omega)
        exact Nat.le_trans (lw_le (k := 4) (Nat.lt_of_lt_of_le a (Nat.le_trans b (by decide)))) (by omega)
      have Ox := Lib.hid fun W => of_any x W hxb
      have Oc := Lib.hid fun W => show Calls Tryz.prog 12 #[.int .u64 10000000000000000000] W _ from of_any 10000000000000000000 W (by omega)
      obtain ⟨X, hX⟩ : ∃ X, X = dval (l.take k) := ⟨_, rfl⟩
      rw [← hX] at hN hnext hlk
      have hlm : lw (X * 10000000000000000000) + lw x ≤ 200 := by
        have a := lw_mul X 10000000000000000000
        have b : lw 10000000000000000000 ≤ 1 := lw_le (k := 1) (by decide)
        have c : lw x ≤ 1 := lw_le (k := 1) hxb
        omega
      obtain ⟨Y, hY⟩ : ∃ Y, Y = X * 10000000000000000000 := ⟨_, rfl⟩
      have Ml := Lib.hid fun (va vb : Value) W (ha : Num W va X) (hb : Num W vb 10000000000000000000) => Mu.out va vb X W ha hb (by omega)
      rw [← hY] at Ml hnext hlm
      have Ad := Lib.hid fun (va vb : Value) W (ha : Num W va Y) (hb : Num W vb x) => add_any va vb Y x W ha hb (by omega)
      have HNX := Lib.hid hnext
      have HC2 := Lib.hid hcut2
      have HK := Lib.hid (show k + n ≤ l.length ∧ (l.length - (k + n)) % 19 = 0 by omega)
      have HNr := Lib.hid hN
      have HYY := Lib.hid hY
      clear hnext hcut2 hX hx hY hch hcl hcn hk1 hlm hlk hxb hn hnm hmm hrs hrm
      go_wp2_with fail
      ((with_reducible refine (Pu.out _).mono ?_); rintro e w2 ⟨rfl, g2⟩)
      go_wp2_with fail
      ((with_reducible refine (Oc.out _).mono ?_); rintro e w3 ⟨v3, rfl, n3, g3⟩)
      go_wp2_with fail
      ((with_reducible refine (Ml.out _ _ _ ((HNr.out.below g2).below g3) n3).mono ?_); rintro e w4 ⟨v4, rfl, n4, g4⟩)
      go_wp2_with fail
      ((with_reducible refine (Ox.out _).mono ?_); rintro e w5 ⟨v5, rfl, n5, g5⟩)
      go_wp2_with fail
      ((with_reducible refine (Ad.out _ _ _ (n4.below g5) n5).mono ?_); rintro e w6 ⟨v6, rfl, n6, g6⟩)
      have k3 := g2.trans (g3.mono g2.size)
      have k4 := k3.trans (g4.mono k3.size)
      have k5 := k4.trans (g5.mono k4.size)
      have k6 := Lib.hid (k5.trans (g6.mono k5.size))
      have HN6 := Lib.hid n6
      clear n3 n4 n5 n6 g2 g3 g4 g5 g6 k3 k4 k5
      go_wp2_with fail
      rw [← HNN.out]
      refine ⟨⟨r.extract n r.size, k + n, rfl, HK.out.1, Lib.hid HC2.out, by rw [HNX.out]; exact HN6.out, Lib.hid (.inr HK.out.2), Lib.hid (hB.out.trans (k6.out.mono hB.out.size))⟩, ?_⟩
      show (r.extract n r.size).size < r.size
      have hx1 := HC2.out
      have hx2 := hr.out
      have hx3 := HNN.out
      rw [← size_list, hx1, ← size_list, hx2, List.length_drop, List.length_drop]
      have := HK.out.1
      omega
    · obtain rfl : k = l.length := by omega
      have t32 : decide (0 < r.size) = false := decide_eq_false (by omega)
      have t33 : decide ((0 : Int) < (r.size : Int)) = false := decide_eq_false (by omega)
      have hNN := Lib.hid (show Num wr _ (dval l) by have a := hN; rwa [List.take_length] at a)
      clear hrs
      go_wp2_with fail
      exact bodyPost_ret (v := .tuple #[_, .bool true]) (by simp [results, Tryz.results104, go_sem]) rfl ⟨_, rfl, hNN.out, hB.out⟩
end Go.Proofs.YtnlpkehllihllaaGreatDoor
