/-
  A part of the proofs that calipertop.TopBack, TopFloats and TopNearest return true for every input and leave it as it was: part 10 of 47.
-/
import Derived.Test.YtnlpkehllihllaaGreatDoorGt03
import Derived.Test.YtnlpkehllihllaaGreatDoorGt01
import Derived.Lib.ItoaMem
import Derived.Lib.OwnBridge
import Derived.Lib.Hide
import Derived.BigCall
import Derived.BigGuard
import Derived.Test.YtnlpkehllihllaaGreatDoorGt07
import Derived.Test.YtnlpkehllihllaaGreatDoorGt09
import Derived.Laws.BitsAllLaws
/-
  The walk of strconv.FormatUint at base ten.
-/
namespace Go.Proofs.YtnlpkehllihllaaGreatDoor
open Go.RowKit Go.Sort

/-- What the program's own table holds: the powers of ten. -/
def Tab (w : World) : Prop := Lib.TabIs Tryz.prog w "internal/strconv.uint64pow10" .u64 Lib.pow10Tab

theorem Tab.below {w0 w w' : World} (h : Tab w) (hb : Below w0.heap.size w w') (hs : w.heap.size ≤ w0.heap.size) : Tab w' := by
  unfold Tab Lib.TabIs World.var? at *
  cases hg : Tryz.prog.globalNamed "internal/strconv.uint64pow10" with
  | none => simp [hg] at h
  | some g =>
    simp only [hg, Option.bind_some] at h ⊢
    have hlt : g < w.heap.size := by
      rcases Nat.lt_or_ge g w.heap.size with h1 | h1
      · exact h1
      · rw [Array.getElem?_eq_none h1] at h; simp at h
    rw [hb.block g (by omega)]
    exact h
theorem Tab.drewN {w : World} (h : Tab w) (n : Nat) : Tab (w.drewN n) := h

theorem holds_zero0 (w : World) (T : TypeId) (nd : Nat) (hs : nd ≤ 24) : Holds (fun (b : UInt8) => Value.int .u8 (b.toNat : Int)) (w.alloc (.cells Lib.zeros24 T)) w.heap.size 0 (Array.replicate nd (0 : UInt8)) := fun j hj => by
  have hj' : j < nd := by simpa using hj
  refine ⟨?_, World.frozen?_alloc_new _ _ _ _⟩
  rw [World.cell?_alloc_new, Lib.zeros24_at _ (by omega), getElem!_pos _ j hj]
  simp

set_option maxHeartbeats 3200000 in
set_option maxRecDepth 100000 in
theorem fmt_inner (u : Nat) (w : World) (hu64 : u < 18446744073709551616) (htab : Tab w) :
    Calls Tryz.prog 81 #[.int .u64 u, .int .i64 10] w fun e w' => e = .returned (.string ⟨(Lib.decDigits u).toArray⟩) ∧ Below w.heap.size w w' := by
  by_cases hs : u < 100
  · go_enter Tryz.func81, Tryz.ntmps81
    go_wp2_with (go_at_call 109; refine (Tryz.internal_strconv_small u hs _).mono ?_; rintro e w' ⟨rfl, rfl⟩)
    go_ret
    exact ⟨rfl, Below.refl _ _⟩
  · have hu1 : 1 ≤ u := by omega
    have hnd20 : Lib.nDigits u ≤ 20 := by have := Lib.numDigits_eq u hu1 hu64; split at this <;> omega
    have hal : Tryz.prog.arrayLen 165 = 24 := by simp [Program.arrayLen, Tryz.underlying165]
    have hsl1 : ∀ W, (Instr.sliceAt 165 (.pointer (some ⟨w.heap.size, 0, none⟩)) none (some (.int .i64 (Lib.nDigits u : Int))) none).run Tryz.prog W = .ok (.slice (some ⟨w.heap.size, 0, none⟩) (Lib.nDigits u) 24) W := fun W => by
      rw [run_sliceAt_array_h W 165 ⟨w.heap.size, 0, none⟩ (by simp [Program.arrayLen, Program.elem, Tryz.underlying165]) .i64 (Lib.nDigits u : Int) (by omega) (by rw [hal]; omega)]
      go_simp
    have hH0 := holds_zero0 w 165 (Lib.nDigits u) (by omega)
    have hfmt := Tryz.internal_strconv_formatBase10 w.heap.size 0 24 u (Array.replicate (Lib.nDigits u) 0) (w.alloc (.cells Lib.zeros24 165)) hH0 (by rw [Array.size_replicate]; exact Lib.lt_pow_nDigits u) hu64 (by rw [Array.size_replicate]; omega)
    rw [Array.size_replicate] at hfmt
    have HH0 := Lib.hid hH0
    have htab' : Tab (w.alloc (.cells Lib.zeros24 165)) := Lib.tabIs_alloc htab _
    have Hfmt := Lib.hid hfmt
    clear hH0 hal hfmt
    go_enter Tryz.func81, Tryz.ntmps81
    go_wp2_with (go_at_call 110; refine (Tryz.internal_strconv_numDigits u hu1 hu64 _ htab').mono ?_; rintro e w' ⟨rfl, rfl⟩)
    refine Hfmt.out.mono ?_
    rintro e w' ⟨rfl, k, v', dk, rfl, hF⟩
    have hcv : (convert 86 9 (.slice (some ⟨w.heap.size, 0, none⟩) (Lib.nDigits u) 24)).run Tryz.prog ((putRow (fun (b : UInt8) => Value.int .u8 (b.toNat : Int)) (w.alloc (.cells Lib.zeros24 165)) w.heap.size 0 dk).drewN k) = .ok (.string ⟨(Lib.decDigits u).toArray⟩) ((putRow (fun (b : UInt8) => Value.int .u8 (b.toNat : Int)) (w.alloc (.cells Lib.zeros24 165)) w.heap.size 0 dk).drewN k) := by
      have h := run_convert_bytes_back (P := Tryz.prog) ((putRow (fun (b : UInt8) => Value.int .u8 (b.toNat : Int)) (w.alloc (.cells Lib.zeros24 165)) w.heap.size 0 dk).drewN k) 86 9 5 ⟨w.heap.size, 0, none⟩ 24 (Lib.decDigits u) Tryz.underlying86 Tryz.underlying5 Tryz.underlying9 (fun j hj => by
        rw [Lib.row_is_numeral hF j hj, Lib.add_plain, World.cell?_drewN]
        exact cell?_putRow (fun (b : UInt8) => Value.int .u8 (b.toNat : Int)) _ w.heap.size 0 _ dk HH0.out (by rw [hF.size, Array.size_replicate]) j (by rw [hF.size]; rw [Lib.decDigits_length] at hj; exact hj))
      rw [Lib.decDigits_length] at h
      exact h
    go_wp2
    go_ret
    refine ⟨rfl, below_drewN ?_ k⟩
    exact Lib.below_putRow (q := 0) (w := w.alloc (.cells Lib.zeros24 165)) ((Below.refl _ _).alloc (Nat.le_refl _) _) (Nat.le_refl _)

set_option maxHeartbeats 400000 in
/-- strconv.FormatUint at base ten: the decimal numeral. -/
theorem fmt_any (u : Nat) (w : World) (hu64 : u < 18446744073709551616) (htab : Tab w) :
    Calls Tryz.prog 49 #[.int .u64 u, .int .i64 10] w fun e w' => e = .returned (.string ⟨(Lib.decDigits u).toArray⟩) ∧ Below w.heap.size w w' := by
  go_enter Tryz.func49, Tryz.ntmps49
  go_wp2_with (go_at_call 81; refine (fmt_inner u _ hu64 htab).mono ?_; rintro e w' ⟨rfl, h1⟩)
  go_ret
  exact ⟨rfl, h1⟩
end Go.Proofs.YtnlpkehllihllaaGreatDoor

/-
  The walk of nat.Text.
-/
namespace Go.Proofs.YtnlpkehllihllaaGreatDoor
open Go.RowKit Go.Sort

theorem info9 : (Tryz.prog.info? 9).map (fun i => (i.zero, i.size, i.bytes)) = some (some (.string ByteArray.empty), 1, 16) := by kernel_rfl
/-- A list of bytes as a value. -/
abbrev S (l : List UInt8) : Value := .string ⟨l.toArray⟩
def slen : Value → Nat | .slice _ n _ => n | _ => 0

theorem nDigits_le : ∀ (k u : Nat), u < 10 ^ (k + 1) → Lib.nDigits u ≤ k + 1
  | 0, u, h => by rw [Lib.nDigits_small (by simpa using h)]; omega
  | k + 1, u, h => by
    by_cases h0 : u < 10
    · rw [Lib.nDigits_small h0]; omega
    · rw [Lib.nDigits_big h0]
      have := nDigits_le k (u / 10) (by rw [Nat.pow_succ] at h; omega)
      omega
theorem decDigits_le {r : Nat} (h : r < 10000000000000000000) : 1 ≤ (Lib.decDigits r).length ∧ (Lib.decDigits r).length ≤ 19 := by
  rw [Lib.decDigits_length]
  exact ⟨Lib.nDigits_pos r, nDigits_le 18 r (by simpa using h)⟩
theorem repeatL_one (c : UInt8) (n : Nat) : Lib.repeatL [c] n = List.replicate n c := by
  induction n with
  | zero => rfl
  | succ n ih => rw [Lib.repeatL, ih, List.replicate_succ]; rfl
theorem owns_below {w w' : World} {base : Nat} {e : TypeId} {size n : Nat} {v : Value} {xs : List Value} (h : w.ownsRow base e size v n xs) (hb : Below w.heap.size w w') : w'.ownsRow base e size v n xs := by
  refine ⟨h.1, ?_⟩
  rcases h.2 with h2 | ⟨g, cap, cur, hv, hg, hh, r⟩
  · exact .inl h2
  · exact .inr ⟨g, cap, cur, hv, hg, (hb.block g (Blk.lt hh)).trans hh, r⟩
theorem bytes_append (a b : List UInt8) : S (a ++ b) = .string ((⟨a.toArray⟩ : ByteArray) ++ ⟨b.toArray⟩) := by
  congr 1
/-- A number reads as it did behind a new block and writes to another row. -/
theorem num_grown {w w' : World} {b n x : Nat} {o : Obj} {row : Option Nat} (h : Num w (.slice (some ⟨b, 0, none⟩) n n) x) (hg : (w.alloc o).grownBy w' row) (hr : some b ≠ row) : Num w' (.slice (some ⟨b, 0, none⟩) n n) x := by
  obtain ⟨A, c, e, h1, h2, h3⟩ := h
  refine ⟨A, c, e, h1, h2, ?_⟩
  have ea : A = some ⟨b, 0, none⟩ := by injection e with e1; exact e1.symm
  subst ea
  rcases h3 with h3 | ⟨b', off, e', hb, hc⟩
  · exact .inl h3
  · injection e' with e'
    injection e' with e1 e2
    subst e1
    subst e2
    have hs : w.heap.size < (w.alloc o).heap.size := by simp
    refine .inr ⟨b, 0, rfl, Nat.lt_of_lt_of_le (Nat.lt_trans hb hs) hg.size, fun j hj => ?_⟩
    have e3 : w'.heap[b]? = w.heap[b]? := (hg.block b (Nat.lt_trans hb hs) hr).trans (Below.heap_alloc w o b hb)
    exact (World.cell?_of_block (a := ⟨b, 0 + j, none⟩) e3).trans (hc j hj)
theorem chunks_le {x k : Nat} (h : x / 10000000000000000000 ^ k ≠ 0) : k ≤ 2 * lw x := by
  have h1 : 10000000000000000000 ^ k ≤ x := by
    rcases Nat.lt_or_ge x (10000000000000000000 ^ k) with h2 | h2
    · exact absurd (Nat.div_eq_of_lt h2) h
    · exact h2
  have h2 := lw_lt x
  rw [bp_two] at h2
  have h3 : (2 : Nat) ^ (63 * k) ≤ 10000000000000000000 ^ k := by
    rw [Nat.pow_mul]
    exact Nat.pow_le_pow_left (by decide) k
  have h4 : 63 * k < 64 * lw x := (Nat.pow_lt_pow_iff_right (by omega : 1 < 2)).1 (Nat.lt_of_le_of_lt (Nat.le_trans h3 h1) h2)
  omega

/-- Nineteen digits of what is left. -/
def padL (r : Nat) : List UInt8 := List.replicate (19 - Lib.nDigits r) 48 ++ Lib.decDigits r
/-- The digits of a number, nineteen at a time. -/
def textL (x : Nat) : List UInt8 := if _h : x < 10000000000000000000 then Lib.decDigits x else textL (x / 10000000000000000000) ++ padL (x % 10000000000000000000)
termination_by x
decreasing_by omega
theorem textL_small {x : Nat} (h : x < 10000000000000000000) : textL x = Lib.decDigits x := by rw [textL, dif_pos h]
theorem textL_big {x : Nat} (h : ¬ x < 10000000000000000000) : textL x = textL (x / 10000000000000000000) ++ padL (x % 10000000000000000000) := by rw [textL, dif_neg h]


theorem join_none (xs : List (List UInt8)) : Lib.join xs [] = xs.flatten := by
  match xs with
  | [] => rfl
  | x :: r =>
    rw [Lib.join_cons, Lib.joinTail, List.flatten_cons]
    congr 2
    exact List.map_id' _
theorem lens_le (xs : List (List UInt8)) (h : ∀ s, s ∈ xs → s.length ≤ 20) : xs.flatten.length ≤ 20 * xs.length := by
  induction xs with
  | nil => simp
  | cons x r ih =>
    have h1 := h x (List.mem_cons_self ..)
    have h2 := ih fun s hs => h s (List.mem_cons_of_mem _ hs)
    rw [List.flatten_cons, List.length_append, List.length_cons]
    omega
theorem slen_own {w : World} {base : Nat} {e : TypeId} {size n : Nat} {v : Value} {xs : List Value} (h : w.ownsRow base e size v n xs) : slen v = n := by
  rcases h.2 with ⟨rfl, h2⟩ | ⟨g, cap, cur, rfl, r⟩
  · exact h2.symm
  · rfl
theorem slen_step {w w' : World} {base base' : Nat} {e e' : TypeId} {size size' k x : Nat} {v v' : Value} {xs xs' : List Value} (h : w.ownsRow base e size v (k + 1) xs) (h' : w'.ownsRow base' e' size' v' k xs') (hk : k ≤ x) :
    x + 1 - slen v < x + 1 - slen v' := by
  rw [slen_own h, slen_own h']
  omega
theorem chunks_lt {x k : Nat} (h : x / 10000000000000000000 ^ k ≠ 0) : k ≤ x := by
  have h1 : 10000000000000000000 ^ k ≤ x := by
    rcases Nat.lt_or_ge x (10000000000000000000 ^ k) with h2 | h2
    · exact absurd (Nat.div_eq_of_lt h2) h
    · exact h2
  have h2 : k < 2 ^ k := Nat.lt_two_pow_self
  have h3 : 2 ^ k ≤ 10000000000000000000 ^ k := Nat.pow_le_pow_left (by decide) k
  omega
theorem text_close {x xk xn r k : Nat} {ss : List (List UInt8)} {D R : List UInt8} (h2 : Hid (xk = x / 10000000000000000000 ^ k)) (h3 : Hid (ss.length = k)) (h4 : Hid (textL x = textL xk ++ ss.reverse.flatten)) (h6 : Hid (∀ s, s ∈ ss → s.length ≤ 20))
    (hb : Hid (10000000000000000000 ≤ xk)) (hxn : Hid (xn = xk / 10000000000000000000)) (hr : Hid (r = xk % 10000000000000000000)) (hD : Hid (D = Lib.decDigits r)) (hR : Hid (R = Lib.repeatL (⟨#[48]⟩ : ByteArray).data.toList (19 - D.length))) (hd : D.length ≤ 19) :
    Hid (xn = x / 10000000000000000000 ^ (k + 1)) ∧ Hid ((ss ++ [R ++ D]).length = k + 1) ∧ Hid (textL x = textL xn ++ (ss ++ [R ++ D]).reverse.flatten) ∧ Hid (∀ s, s ∈ ss ++ [R ++ D] → s.length ≤ 20) ∧ Hid (k + 1 ≤ 2 * lw x) := by
  have eR := hR.out
  rw [show (⟨#[48]⟩ : ByteArray).data.toList = [48] from rfl, repeatL_one] at eR
  have eL : (R ++ D).length = 19 := by rw [eR, List.length_append, List.length_replicate]; omega
  have e1 : xn = x / 10000000000000000000 ^ (k + 1) := by rw [hxn.out, h2.out, Nat.div_div_eq_div_mul, ← Nat.pow_succ]
  refine ⟨Lib.hid e1, Lib.hid ?_, Lib.hid ?_, Lib.hid ?_, Lib.hid (chunks_le ?_)⟩
  · rw [List.length_append, h3.out]; rfl
  · rw [h4.out, textL_big (Nat.not_lt.2 hb.out), List.reverse_append, List.flatten_append, ← hxn.out, ← hr.out, padL, List.append_assoc]
    congr 2
    rw [eR, hD.out, Lib.decDigits_length]
    simp
  · intro s hs
    rcases List.mem_append.1 hs with hs | hs
    · exact h6.out s hs
    · rw [List.mem_singleton.1 hs, eL]; omega
  · have := hb.out
    rw [← e1, hxn.out]; omega

/-- The one row of texts behind a slice of them. -/
theorem own_form {w : World} {base n : Nat} {v : Value} {ss : List (List UInt8)} {D : List UInt8} (h : w.ownsRow base 9 1 v n (ss.map S ++ [S D])) (hn : 0 < n) :
    ∃ g cap, v = .slice (some ⟨g, 0, none⟩) n cap ∧ base ≤ g ∧ n ≤ cap ∧ cap ≤ maxLen ∧ (∀ i, i < n → w.cell? ⟨g, 0 + i, none⟩ = some (.string ⟨((ss ++ [D]).getD i []).toArray⟩)) ∧ (∀ i, i < n → w.frozen? ⟨g, 0 + i, none⟩ = false) ∧ g < w.heap.size := by
  have h' := h
  rcases h.2 with ⟨_, h0⟩ | ⟨g, cap, cur, hv, h1, h2, h3, h4, h5, h6⟩
  · omega
  subst hv
  refine ⟨g, cap, rfl, h1, h3, h4, fun i hi => ?_, fun i _ => h.frozenAt _, Blk.lt h2⟩
  have e := h.1
  rw [h.cellAt (0 + i) (by omega), Nat.zero_add, show ss.map S ++ [S D] = (ss ++ [D]).map S by simp, List.getElem?_map]
  have el : i < (ss ++ [D]).length := by simp at e ⊢; omega
  rw [List.getElem?_eq_getElem el, List.getD_eq_getElem?_getD, List.getElem?_eq_getElem el]
  rfl

theorem size_cells (b : Nat) : ∀ (vs : List Value) (o : Nat) (w : World), (w.setCells b o vs).heap.size = w.heap.size
  | [], _, _ => rfl
  | v :: vs, o, w => by rw [World.setCells, size_cells b vs]; simp
theorem below_cells {B : Nat} {a : World} (b : Nat) (hb : B ≤ b) : ∀ (vs : List Value) (o : Nat) {w : World}, Below B a w → Below B a (w.setCells b o vs)
  | [], _, _, h => h
  | v :: vs, o, _, h => below_cells b hb vs (o + 1) (h.setCell (p := ⟨b, o, none⟩) hb v)
theorem strs_is (zs : List (List UInt8)) : Lib.strsOf (fun i => { data := (zs[i]?.getD []).toArray }) zs.length = zs := by
  apply List.ext_getElem
  · rw [Lib.strsOf_length]
  · intro i h1 h2
    have e : ∀ (f : Nat → List UInt8) (h : i < ((List.range zs.length).map f).length), ((List.range zs.length).map f)[i] = f i := fun f h => by rw [List.getElem_map, List.getElem_range]
    refine (e (fun i => zs[i]?.getD []) _).trans ?_
    show zs[i]?.getD [] = zs[i]
    rw [List.getElem?_eq_getElem h2]
    rfl
/-- Turned round and joined, the texts stand behind one another. -/
theorem join_rev (w4 : World) (g n cap q : Nat) (zs : List (List UInt8)) (hz : zs.length = n) (h20 : ∀ s, s ∈ zs → s.length ≤ 20) (hn : n ≤ 4000000) (hcap : n ≤ cap) (hlt : g < w4.heap.size)
    (hcell : ∀ i, i < n → w4.cell? ⟨g, 0 + i, none⟩ = some (.string ⟨(zs.getD i []).toArray⟩)) :
    Calls Tryz.prog 52 #[.slice (some ⟨g, 0, none⟩) n cap, .string { data := #[] }] ((w4.drewN q).setCells g 0 (List.map encStr (Lib.strsOf (fun i => { data := (zs[i]?.getD []).toArray }) n)).reverse)
      fun e w' => e = .returned (S zs.reverse.flatten) ∧ Below ((w4.drewN q).setCells g 0 (List.map encStr (Lib.strsOf (fun i => { data := (zs[i]?.getD []).toArray }) n)).reverse).heap.size ((w4.drewN q).setCells g 0 (List.map encStr (Lib.strsOf (fun i => { data := (zs[i]?.getD []).toArray }) n)).reverse) w' := by
  subst hz
  rw [strs_is]
  have hx : (zs.reverse.map fun l => (⟨l.toArray⟩ : ByteArray)).length = zs.length := by simp
  have hm : (zs.reverse.map fun l => (⟨l.toArray⟩ : ByteArray)).map (·.data.toList) = zs.reverse := by
    rw [List.map_map]
    conv => rhs; rw [← List.map_id zs.reverse]
    rfl
  have h := Tryz.strings_Join g 0 cap (zs.reverse.map fun l => (⟨l.toArray⟩ : ByteArray)) ⟨#[]⟩ ((w4.drewN q).setCells g 0 (List.map encStr zs).reverse) ?_ ?_ ?_ ?_ ?_
  · rw [hm, hx, show (⟨#[]⟩ : ByteArray).data.toList = [] from rfl, join_none] at h
    exact h
  · intro j x hj
    have hj' : j < zs.reverse.length := by
      have := (List.getElem?_eq_some_iff.1 hj).1
      simpa using this
    have e := World.cell?_setCells_in g (List.map encStr zs).reverse 0 (w4.drewN q) (fun j hj => by
      have e := hcell j (by simpa using hj)
      rw [show (w4.drewN q).cell? ⟨g, 0 + j, none⟩ = w4.cell? ⟨g, 0 + j, none⟩ from rfl, e]
      rfl) j (by simpa using hj')
    rw [e]
    rw [List.getElem?_map, List.getElem?_eq_getElem hj'] at hj
    simp only [Option.map_some, Option.some.injEq] at hj
    rw [← hj]
    simp [← List.map_reverse, encStr]
  · rw [size_cells]; exact hlt
  · rw [hx]; omega
  · rw [hx]; exact hcap
  · rw [hm, show (⟨#[]⟩ : ByteArray).data.toList = [] from rfl, join_none]
    have := lens_le zs.reverse (fun s hs => h20 s (List.mem_reverse.1 hs))
    rw [List.length_reverse] at this
    omega

set_option maxHeartbeats 1600000 in
set_option maxRecDepth 100000 in
theorem text_any (va : Value) (x : Nat) (w : World) (ha : Num w va x) (hs : lw x ≤ 1048576) (htab : Tab w) :
    Calls Tryz.prog 20 #[va] w fun e w' => e = .returned (S (textL x)) ∧ Below w.heap.size w w' := by
  obtain ⟨i0, hi, hz0, hz1, hz2⟩ := info_parts info9
  obtain ⟨A, ca, rfl, hca, hma, hra⟩ := ha
  go_enter Tryz.func20, Tryz.ntmps20
  go_wp2_with (go_at_call 29; refine (trim_num _ _ _ _ hra hca hma).mono ?_; rintro e w' ⟨rfl, rfl⟩)
  have hn0 : Num w (.slice A (lw x) (lw x)) x := Num.at_cap hra (Nat.le_refl _) (by omega)
  go_loopw [0, 3] (fun a l wr => ∃ (k xk : Nat) (ss : List (List UInt8)), Num wr a xk ∧ Hid (xk = x / 10000000000000000000 ^ k) ∧ Hid (ss.length = k) ∧ Hid (textL x = textL xk ++ ss.reverse.flatten) ∧ Hid (∀ s, s ∈ ss → s.length ≤ 20) ∧ Hid (k ≤ 2 * lw x) ∧
      Hid (wr.ownsRow w.heap.size 9 1 l k (ss.map S)) ∧ Below w.heap.size w wr)
    (fun _ l _ => x + 1 - slen l)
  case atStart => exact ⟨0, x, [], hn0, Lib.hid (by simp), rfl, Lib.hid (by simp), Lib.hid (by simp), Lib.hid (Nat.zero_le _), World.ownsRow_nil _ _ _ _, Below.refl _ _⟩
  case round =>
    obtain ⟨k, xk, ss, h1, h2, h3, h4, h6, Hk, h5, hbe⟩ := hrel
    obtain ⟨A', c', rfl, hc', hm', hr'⟩ := h1
    have hxle : xk ≤ x := by rw [h2.out]; exact Nat.div_le_self _ _
    have hlk : lw xk ≤ 1048576 := by
      have := lw_mono hxle
      omega
    clear hxle
    by_cases hbig : 2 ≤ lw xk
    · have t1 : decide (1 < (lw xk : Int)) = true := by simp; omega
      have hx0 : xk ≠ 0 := fun h => by subst h; rw [lw_zero] at hbig; omega
      have hxl : Hid (10000000000000000000 ≤ xk) := Lib.hid (by
        have h := lw_ge hx0
        have h' := bp_mono (show 1 ≤ lw xk - 1 by omega)
        rw [show bp 1 = 18446744073709551616 from rfl] at h'
        omega)
      have Hkx : Hid (k ≤ x) := Lib.hid (chunks_lt (by rw [← h2.out]; exact hx0))
      clear hx0
      go_wp2_with fail
      refine (short_any _ xk 10000000000000000000 _ (Num.at_cap hr' hc' hm') (by omega) (by omega) (by omega)).mono ?_
      rintro e w1 ⟨v1, rfl, g1, ⟨nf, hfr⟩, g2⟩
      subst hfr
      obtain ⟨r, hr⟩ : ∃ r, r = xk % 10000000000000000000 := ⟨_, rfl⟩
      have hr64 : r < 10000000000000000000 := by rw [hr]; exact Nat.mod_lt _ (by omega)
      rw [← hr]
      obtain ⟨xn, hxn⟩ : ∃ a, a = xk / 10000000000000000000 := ⟨_, rfl⟩
      rw [← hxn] at g1
      obtain ⟨D, hD⟩ : ∃ D, D = Lib.decDigits r := ⟨_, rfl⟩
      obtain ⟨d1, d2⟩ := decDigits_le hr64
      rw [← hD] at d1 d2
      have hfm := fun W => fmt_any r W (Nat.lt_trans hr64 (by omega))
      rw [← hD] at hfm
      have Hfm := Lib.hid hfm
      have Hr := Lib.hid hr
      have Hxn := Lib.hid hxn
      have HD := Lib.hid hD
      clear hr64 hr hxn hr' hD hfm
      have hb1 := hbe.trans (g2.mono hbe.size)
      have ht1 : Tab w1 := htab.below hb1 (Nat.le_refl _)
      go_wp2_with fail
      refine (Hfm.out _ ht1).mono ?_
      rintro e w2 ⟨rfl, g3⟩
      have ec : (19 : Int) - (D.length : Int) = ((19 - D.length : Nat) : Int) := by omega
      go_wp2_with fail
      refine (Tryz.strings_Repeat ⟨#[48]⟩ (19 - D.length) _ (by omega) (by simp [ByteArray.size]; omega)).mono ?_
      rintro e w3 ⟨rfl, g4⟩
      have hb3 := (hb1.trans (g3.mono hb1.size)).trans (g4.mono (Nat.le_trans hb1.size g3.size))
      have hown3 := owns_below (owns_below (owns_below h5.out g2) g3) g4
      have Hlt := Lib.hid (fun g hg => (h5.out.lt g hg).2)
      have Hge := Lib.hid (fun g hg => (h5.out.lt g hg).1)
      have Hown := Lib.hid hown3
      clear hown3
      replace g1 := (g1.below g3).below g4
      obtain ⟨R, hR⟩ : ∃ R, R = Lib.repeatL (⟨#[48]⟩ : ByteArray).data.toList (19 - D.length) := ⟨_, rfl⟩
      rw [← hR]
      have hRl : R.length ≤ 19 := by rw [hR, Lib.repeatL_length, show (⟨#[48]⟩ : ByteArray).data.toList.length = 1 from rfl, Nat.mul_one]; omega
      have HR := Lib.hid hR
      clear hR g2 g3 g4 hb1 ec
      go_wp2_with (at_builtin; refine wpList_append_own _ rfl (.tmp 23) (.tmp 30) 101 rfl w.heap.size 9 i0 (.string ByteArray.empty) 1 16 Tryz.underlying101 hi hz0 hz1 hz2 rfl (by decide) _ k (ss.map S) rfl (Hown.out.alloc _) ⟨w3.heap.size, 0, none⟩ 1 1 [S (R ++ D)] rfl rfl ?c1 ?c2 ?c3 ?c4 ?c5 ?_)
      case c1 =>
        intro j u hj
        rw [bytes_append R D] at hj
        match j, hj with
        | 0, hj => simp at hj; subst hj; simp [Addr.add]
      case c2 => intro u hu; simp at hu; subst hu; rfl
      case c3 => have := Hk.out; unfold maxLen; omega
      case c4 => have := Hk.out; omega
      case c5 => have := hb3.size; simp; omega
      intro v' w4 hown4 hgrow4 _
      have Hown4 := Lib.hid hown4
      have hb4 := (hb3.alloc hb3.size _).grown hgrow4 (by have := hb3.size; simp; omega) (fun g hg => Hge.out g hg)
      replace g1 := num_grown g1 hgrow4 (fun e => by have := Hlt.out _ e.symm; omega)
      clear hown4 hgrow4 hb3
      obtain ⟨c1, c2, c3, c4, c5⟩ := text_close h2 h3 h4 h6 hxl Hxn Hr HD HR d2
      go_wp2
      exact ⟨⟨k + 1, xn, ss ++ [R ++ D], g1, c1, c2, c3, c4, c5, Lib.hid (by rw [List.map_append]; exact Hown4.out), hb4⟩, slen_step Hown4.out Hown.out Hkx.out⟩
    · have t1 : decide (1 < (lw xk : Int)) = false := by simp; omega
      have hx64 : xk < 18446744073709551616 := by
        have h := lw_lt xk
        have h' := bp_mono (show lw xk ≤ 1 by omega)
        rw [show bp 1 = 18446744073709551616 from rfl] at h'
        omega
      have eg : (wds xk).getD 0 0 = xk := by rw [wds_at, bp_zero, Nat.div_one]; exact Nat.mod_eq_of_lt hx64
      have hat := fun W (h : RW W A' (wds xk)) => at_any A' (lw xk) c' (wds xk) 0 W h rfl (by omega) (by omega)
      rw [show ((0 : Int).toNat) = 0 from rfl, eg] at hat
      have Hat := Lib.hid hat
      clear eg hat
      by_cases hbig2 : 10000000000000000000 ≤ xk
      · have t2 : decide (10000000000000000000 ≤ (xk : Int)) = true := by simp; omega
        have hx0 : xk ≠ 0 := by omega
        have hxl : Hid (10000000000000000000 ≤ xk) := Lib.hid hbig2
        have Hkx : Hid (k ≤ x) := Lib.hid (chunks_lt (by rw [← h2.out]; exact hx0))
        clear hx0 hbig2 hx64
        go_wp2_with (go_at_call 28; refine (Hat.out _ hr').mono ?_; rintro e w1 ⟨rfl, rfl⟩)
        refine (short_any _ xk 10000000000000000000 _ (Num.at_cap hr' hc' hm') (by omega) (by omega) (by omega)).mono ?_
        rintro e w1 ⟨v1, rfl, g1, ⟨nf, hfr⟩, g2⟩
        subst hfr
        obtain ⟨r, hr⟩ : ∃ r, r = xk % 10000000000000000000 := ⟨_, rfl⟩
        have hr64 : r < 10000000000000000000 := by rw [hr]; exact Nat.mod_lt _ (by omega)
        rw [← hr]
        obtain ⟨xn, hxn⟩ : ∃ a, a = xk / 10000000000000000000 := ⟨_, rfl⟩
        rw [← hxn] at g1
        obtain ⟨D, hD⟩ : ∃ D, D = Lib.decDigits r := ⟨_, rfl⟩
        obtain ⟨d1, d2⟩ := decDigits_le hr64
        rw [← hD] at d1 d2
        have hfm := fun W => fmt_any r W (Nat.lt_trans hr64 (by omega))
        rw [← hD] at hfm
        have Hfm := Lib.hid hfm
        have Hr := Lib.hid hr
        have Hxn := Lib.hid hxn
        have HD := Lib.hid hD
        clear hr64 hr hxn hr' hD hfm
        have hb1 := hbe.trans (g2.mono hbe.size)
        have ht1 : Tab w1 := htab.below hb1 (Nat.le_refl _)
        go_wp2_with fail
        refine (Hfm.out _ ht1).mono ?_
        rintro e w2 ⟨rfl, g3⟩
        have ec : (19 : Int) - (D.length : Int) = ((19 - D.length : Nat) : Int) := by omega
        go_wp2_with fail
        refine (Tryz.strings_Repeat ⟨#[48]⟩ (19 - D.length) _ (by omega) (by simp [ByteArray.size]; omega)).mono ?_
        rintro e w3 ⟨rfl, g4⟩
        have hb3 := (hb1.trans (g3.mono hb1.size)).trans (g4.mono (Nat.le_trans hb1.size g3.size))
        have hown3 := owns_below (owns_below (owns_below h5.out g2) g3) g4
        have Hlt := Lib.hid (fun g hg => (h5.out.lt g hg).2)
        have Hge := Lib.hid (fun g hg => (h5.out.lt g hg).1)
        have Hown := Lib.hid hown3
        clear hown3
        replace g1 := (g1.below g3).below g4
        obtain ⟨R, hR⟩ : ∃ R, R = Lib.repeatL (⟨#[48]⟩ : ByteArray).data.toList (19 - D.length) := ⟨_, rfl⟩
        rw [← hR]
        have hRl : R.length ≤ 19 := by rw [hR, Lib.repeatL_length, show (⟨#[48]⟩ : ByteArray).data.toList.length = 1 from rfl, Nat.mul_one]; omega
        have HR := Lib.hid hR
        clear hR g2 g3 g4 hb1 ec
        go_wp2_with (at_builtin; refine wpList_append_own _ rfl (.tmp 23) (.tmp 30) 101 rfl w.heap.size 9 i0 (.string ByteArray.empty) 1 16 Tryz.underlying101 hi hz0 hz1 hz2 rfl (by decide) _ k (ss.map S) rfl (Hown.out.alloc _) ⟨w3.heap.size, 0, none⟩ 1 1 [S (R ++ D)] rfl rfl ?c1 ?c2 ?c3 ?c4 ?c5 ?_)
        case c1 =>
          intro j u hj
          rw [bytes_append R D] at hj
          match j, hj with
          | 0, hj => simp at hj; subst hj; simp [Addr.add]
        case c2 => intro u hu; simp at hu; subst hu; rfl
        case c3 => have := Hk.out; unfold maxLen; omega
        case c4 => have := Hk.out; omega
        case c5 => have := hb3.size; simp; omega
        intro v' w4 hown4 hgrow4 _
        have Hown4 := Lib.hid hown4
        have hb4 := (hb3.alloc hb3.size _).grown hgrow4 (by have := hb3.size; simp; omega) (fun g hg => Hge.out g hg)
        replace g1 := num_grown g1 hgrow4 (fun e => by have := Hlt.out _ e.symm; omega)
        clear hown4 hgrow4 hb3
        obtain ⟨c1, c2, c3, c4, c5⟩ := text_close h2 h3 h4 h6 hxl Hxn Hr HD HR d2
        go_wp2
        exact ⟨⟨k + 1, xn, ss ++ [R ++ D], g1, c1, c2, c3, c4, c5, Lib.hid (by rw [List.map_append]; exact Hown4.out), hb4⟩, slen_step Hown4.out Hown.out Hkx.out⟩
      · have t2 : decide (10000000000000000000 ≤ (xk : Int)) = false := by simp; omega
        have hxl : Hid (xk < 10000000000000000000) := Lib.hid (by omega)
        obtain ⟨D, hD⟩ : ∃ D, D = Lib.decDigits xk := ⟨_, rfl⟩
        obtain ⟨d1, d2⟩ := decDigits_le hxl.out
        rw [← hD] at d1 d2
        have hfm := fun W => fmt_any xk W hx64
        rw [← hD] at hfm
        have Hfm := Lib.hid hfm
        have HD := Lib.hid hD
        have ht1 : Tab wr := htab.below hbe (Nat.le_refl _)
        clear hbig2 hx64 hfm hD
        go_wp2_with (go_at_call 28; refine (Hat.out _ hr').mono ?_; rintro e w1 ⟨rfl, rfl⟩)
        refine (Hfm.out _ ht1).mono ?_
        rintro e w2 ⟨rfl, g3⟩
        have hb3 := hbe.trans (g3.mono hbe.size)
        have Hge := Lib.hid (fun g hg => (h5.out.lt g hg).1)
        have Hown := Lib.hid (owns_below h5.out g3)
        go_wp2_with (at_builtin; refine wpList_append_own _ rfl (.tmp 32) (.tmp 36) 101 rfl w.heap.size 9 i0 (.string ByteArray.empty) 1 16 Tryz.underlying101 hi hz0 hz1 hz2 rfl (by decide) _ k (ss.map S) rfl (Hown.out.alloc _) ⟨w2.heap.size, 0, none⟩ 1 1 [S D] rfl rfl ?c1 ?c2 ?c3 ?c4 ?c5 ?_)
        case c1 =>
          intro j u hj
          match j, hj with
          | 0, hj => simp at hj; subst hj; simp [Addr.add]
        case c2 => intro u hu; simp at hu; subst hu; rfl
        case c3 => have := Hk.out; unfold maxLen; omega
        case c4 => have := Hk.out; omega
        case c5 => have := hb3.size; simp; omega
        intro v' w4 hown4 hgrow4 _
        obtain ⟨g, cap, rfl, hgg, hcap, hmax, hcell, hfz, hlt⟩ := own_form hown4 (by omega)
        have Hcap := Lib.hid (And.intro hcap hmax)
        have hb4 := (hb3.alloc hb3.size _).grown hgrow4 (by have := hb3.size; simp; omega) (fun g hg => Hge.out g hg)
        have Hcell := Lib.hid hcell
        have hlt4 := hlt
        clear hown4 hgrow4 hb3
        have hb1 : k + 1 ≤ 9223372036854775807 := by have := Hk.out; omega
        have hjl : (ss ++ [D]).length = k + 1 := by rw [List.length_append, h3.out]; rfl
        have Hjl := Lib.hid hjl
        clear hjl
        go_wp2_with (go_at_call 51; refine (Tryz.slices_Reverse_string_cells g 0 (k + 1) cap (fun i => ⟨((ss ++ [D]).getD i []).toArray⟩) w4 hb1 hcell hfz).mono ?_; rintro e w5 ⟨rfl, q, hw5⟩)
        have hw5 := Lib.hid hw5
        go_wp2_with fail
        have hcell4 := Hcell.out
        refine (join_rev w4 g (k + 1) cap q (ss ++ [D]) Hjl.out ?_ ?_ Hcap.out.1 hlt4 hcell4).mono ?_
        · intro s hs
          rcases List.mem_append.1 hs with hs | hs
          · exact h6.out s hs
          · rw [List.mem_singleton.1 hs]; omega
        · have := Hk.out; omega
        rintro e w6 ⟨rfl, hb6⟩
        have hb7 := below_cells (B := w.heap.size) g hgg (List.map encStr (Lib.strsOf (fun i => { data := ((ss ++ [D])[i]?.getD []).toArray }) (k + 1))).reverse 0 (below_drewN hb4 q)
        have hb8 := Lib.hid (hb7.trans (hb6.mono hb7.size))
        have et : textL x = (ss ++ [D]).reverse.flatten := by
          rw [h4.out, textL_small hxl.out, List.reverse_append, List.flatten_append, ← HD.out]
          simp
        have Het := Lib.hid et
        clear hb6 hb7 hcell4 et
        go_wp2
        go_ret
        refine ⟨?_, hb8.out⟩
        rw [Het.out]
        simp
end Go.Proofs.YtnlpkehllihllaaGreatDoor

/-
  The walk of exact.Floor.
-/
namespace Go.Proofs.YtnlpkehllihllaaGreatDoor
open Go.RowKit Go.Sort

/-- What Floor tells of what is left: 0 where nothing is, else 1, 2, 3: less than half, half, more. -/
def flR (X T : Nat) : Int := if X % T = 0 then 0 else 2 + cmpI ((X % T * 2 : Nat) : Int) (T : Int)

theorem scal_pos {n : Nat} (h : n ≠ 0) (t f : Int) : scal n t f ≠ 0 := by
  have : 0 < scal n t f := Nat.mul_pos (Nat.mul_pos (by omega) (Nat.pow_pos (by omega))) (Nat.pow_pos (by omega))
  omega
theorem flR_scal (n : Nat) (t f u g : Int) (t1 : -2500 ≤ t) (f1 : -2500 ≤ f) (u1 : -2500 ≤ u) (g1 : -2500 ≤ g) :
    flR (scal n (t - u) (f - g)) (scal 1 (-(t - u)) (-(f - g))) = flR (ex n t f) (ex 1 u g) := by
  obtain ⟨h1, h2⟩ := rest_scal n 1 t f u g t1 f1 u1 g1
  unfold flR
  by_cases h : ex n t f % ex 1 u g = 0
  · rw [if_pos h, if_pos (h1.2 h)]
  · rw [if_neg h, if_neg (fun q => h (h1.1 q)), h2]
theorem lw_scal (x : Nat) (t f : Int) (ht : t ≤ 5000) (hf : f ≤ 5000) : lw (scal x t f) ≤ lw x + 10002 := by
  have h3 := lw_mul (x * 5 ^ f.toNat) (2 ^ t.toNat)
  have h5 := lw_mul x (5 ^ f.toNat)
  have h4 : lw (2 ^ t.toNat) ≤ 5001 := Nat.le_trans (lw_pow (by omega) (by omega)) (by omega)
  have h6 : lw (5 ^ f.toNat) ≤ 5001 := Nat.le_trans (lw_pow (by omega) (by omega)) (by omega)
  show lw (x * 5 ^ f.toNat * 2 ^ t.toNat) ≤ _
  omega
theorem shN_one : shN 1 = 1 := by unfold shN; omega
theorem lw_mod_le {q p N : Nat} (h : lw q ≤ N) : lw (q % p) ≤ N := by
  refine Nat.le_trans (lw_le ?_) h
  exact Nat.lt_of_le_of_lt (Nat.mod_le _ _) (lw_lt q)

set_option maxHeartbeats 3200000 in
set_option maxRecDepth 100000 in
/-- exact.Floor. -/
theorem floor_any (g : Bool) (vn : Value) (x : Nat) (t f k : Int) (w : World) (h : Num w vn x) (hx : lw x ≤ 256) (t1 : -2500 ≤ t) (t2 : t ≤ 2500) (f1 : -2500 ≤ f) (f2 : f ≤ 2500) (k1 : -2500 ≤ k) (k2 : k ≤ 2500) :
    Calls Tryz.prog 75 #[.agg #[.bool g, vn, .int .i64 t, .int .i64 f], .int .i64 k] w fun e w' => ∃ v, e = .returned (.tuple #[v, .int .i64 (flR (ex x t f) (ex 1 k k))]) ∧ Num w' v (ex x t f / ex 1 k k) ∧ Below w.heap.size w w' := by
  have hD := div_scal x 1 t f k k t1 f1 k1 k1
  have hR := flR_scal x t f k k t1 f1 k1 k1
  have C1 := Lib.hid fun (va : Value) W (h : Num W va 1) => scaled_any va 1 (-(t - k)) (-(f - k)) W h (Nat.le_trans (lw_le (k := 1) (by decide)) (by omega)) (by omega) (by omega) (by omega) (by omega)
  have C2 := Lib.hid fun W (h : Num W vn x) => scaled_any vn x (t - k) (f - k) W h (by omega) (by omega) (by omega) (by omega) (by omega)
  have hlq := lw_scal x (t - k) (f - k) (by omega) (by omega)
  have hp0 := scal_pos (n := 1) (by omega) (-(t - k)) (-(f - k))
  rw [← hD, ← hR]
  obtain ⟨P, hP⟩ : ∃ P, P = scal 1 (-(t - k)) (-(f - k)) := ⟨_, rfl⟩
  obtain ⟨Q, hQ⟩ : ∃ Q, Q = scal x (t - k) (f - k) := ⟨_, rfl⟩
  rw [← hP] at C1 hp0 ⊢
  rw [← hQ] at C2 hlq ⊢
  have hlr : lw (Q % P) ≤ 20000 := lw_mod_le (by omega)
  have Dv := Lib.hid fun (va vb : Value) W (ha : Num W va Q) (hb : Num W vb P) => div_any va vb Q P W ha hb (by omega) hp0
  have Bt := Lib.hid fun (va : Value) W (ha : Num W va (Q % P)) => bits_any va (Q % P) W ha (by omega)
  have Sh := Lib.hid fun (va : Value) W (ha : Num W va (Q % P)) => shl_any va (Q % P) 1 W ha (by omega)
  have hl2 : lw (Q % P * 2) ≤ 17592186044416 := by
    have h3 := lw_mul (Q % P) 2
    have h4 : lw 2 ≤ 1 := lw_le (by decide)
    omega
  have Cm := Lib.hid fun (va vb : Value) W (ha : Num W va (Q % P * 2)) (hb : Num W vb P) => cmp_any va vb _ _ W ha hb hl2
  have HR := Lib.hid (show flR Q P = if Q % P = 0 then 0 else 2 + cmpI ((Q % P * 2 : Nat) : Int) (P : Int) from rfl)
  obtain ⟨c, hc⟩ : ∃ c, c = cmpI ((Q % P * 2 : Nat) : Int) (P : Int) := ⟨_, rfl⟩
  have hcb : -1 ≤ c ∧ c ≤ 1 := by rw [hc]; unfold cmpI; split <;> (try split) <;> omega
  rw [← hc] at HR Cm
  obtain ⟨c1, c2⟩ := hcb
  obtain ⟨R, hRR⟩ : ∃ R, R = Q % P := ⟨_, rfl⟩
  rw [← hRR] at Dv Bt Sh HR hlr hl2 Cm
  have hr0 : R = 0 ∨ R ≠ 0 := by omega
  obtain ⟨D, hDD⟩ : ∃ D, D = Q / P := ⟨_, rfl⟩
  rw [← hDD] at Dv ⊢
  obtain ⟨F, hF⟩ : ∃ F, F = flR Q P := ⟨_, rfl⟩
  rw [← hF] at HR ⊢
  have ek : min (max k (-5000)) 5000 = k := by omega
  have H := Lib.hid h
  have H0 := Lib.hid hr0
  have hk : Blk (w.alloc (.cells #[.bool g, vn, .int .i64 t, .int .i64 f] 25)) w.heap.size 25 #[.bool g, vn, .int .i64 t, .int .i64 f] := Blk.new w 25 _
  have HW := Lib.hid (show Below w.heap.size w (w.alloc (.cells #[.bool g, vn, .int .i64 t, .int .i64 f] 25)) from (Below.refl _ _).alloc (Nat.le_refl _) _)
  have HN := Lib.hid (h.below ((Below.refl _ _).alloc (Nat.le_refl _) (.cells #[.bool g, vn, .int .i64 t, .int .i64 f] 25)))
  have HK := Lib.hid hk
  clear hP hQ hD hR hc hRR hF hDD h hk hr0 hlq hp0 hlr hl2 hx
  go_enter Tryz.func75, Tryz.ntmps75
  go_upto_region 2 with (fail)
  obtain ⟨w1, hw1⟩ : ∃ w1, w1 = w.alloc (.cells #[.bool g, vn, .int .i64 t, .int .i64 f] 25) := ⟨_, rfl⟩
  rw [← hw1] at HW HN HK ⊢
  clear hw1
  have k1 : w1.cell? ⟨w.heap.size, 1, none⟩ = some vn := Blk.cell HK.out 1
  have k2 : w1.cell? ⟨w.heap.size, 2, none⟩ = some (.int .i64 t) := Blk.cell HK.out 2
  have k3 : w1.cell? ⟨w.heap.size, 3, none⟩ = some (.int .i64 f) := Blk.cell HK.out 3
  have hlt : w.heap.size < w1.heap.size := HK.out.lt
  go_cut [6, 7] from 15 to 22 (fun p q wz => p = .int .i64 (t - k) ∧ q = .int .i64 (f - k) ∧ ∃ n, Hid (wz = w1.drewN n))
  case first =>
    go_quiet (fail)
    go_wp2_with fail
    go_meet
    exact ⟨rfl, rfl, _, rfl⟩
  case rest =>
    obtain ⟨rfl, rfl, nq, hwz⟩ := hcut
    obtain ⟨wz, rfl⟩ : ∃ wz, wz = wc := ⟨_, rfl⟩
    have e1 : wz.cell? ⟨w.heap.size, 1, none⟩ = some vn := by rw [hwz.out]; exact k1
    have hlz : w.heap.size < wz.heap.size := by rw [hwz.out]; exact hlt
    have Ma := Lib.hid (show Num wz vn x by rw [hwz.out]; exact HN.out.drewN _)
    have B2 := Lib.hid (show Below w.heap.size w wz by rw [hwz.out]; exact below_drewN HW.out _)
    clear hwz k1 k2 k3 hlt HN HW HK H
    have nw : IntKind.i64.wrap (-(t - k)) = -(t - k) := by rw [IntKind.wrap_i64]; omega
    have nw2 : IntKind.i64.wrap (-(f - k)) = -(f - k) := by rw [IntKind.wrap_i64]; omega
    go_wp2_with fail
    refine (of_any 1 _ (by omega)).mono ?_
    rintro e u1 ⟨v1, rfl, n1, b1⟩
    have N1 := Lib.hid n1
    have B1 := Lib.hid b1
    clear n1 b1
    go_wp2_with fail
    refine (C1.out _ _ N1.out).mono ?_
    rintro e u2 ⟨v2, rfl, n2, b2⟩
    have N2 := Lib.hid n2
    have B3 := Lib.hid (B1.out.trans (b2.mono B1.out.size))
    have e2 : u2.cell? ⟨w.heap.size, 1, none⟩ = some vn := (B3.out.cell (p := ⟨w.heap.size, 1, none⟩) hlz).trans e1
    have Mb := Lib.hid (Ma.out.below B3.out)
    clear n2 b2
    go_wp2_with fail
    refine (C2.out _ Mb.out).mono ?_
    rintro e u3 ⟨v3, rfl, n3, b3⟩
    have N3 := Lib.hid n3
    have N2' := Lib.hid (N2.out.below b3)
    have B4 := Lib.hid (B3.out.trans (b3.mono B3.out.size))
    clear n3 b3
    go_wp2_with fail
    refine (Dv.out _ _ _ N3.out N2'.out).mono ?_
    rintro e u4 ⟨vq, vr, rfl, nq', nr, b4⟩
    have NQ := Lib.hid nq'
    have NR := Lib.hid nr
    have NP := Lib.hid (N2'.out.below b4)
    have B5 := Lib.hid (B2.out.trans ((B4.out.trans (b4.mono B4.out.size)).mono B2.out.size))
    clear nq' nr b4
    go_wp2_with fail
    refine (Bt.out _ _ NR.out).mono ?_
    rintro e u5 ⟨rfl, rfl⟩
    by_cases hz : R = 0
    · have tz : ((blen R : Int) == 0) = true := by rw [hz]; rfl
      have hF0 : F = 0 := by rw [HR.out, if_pos hz]
      have HF0 := Lib.hid hF0
      clear hz hF0
      go_wp2_with fail
      go_ret2
      exact ⟨vq, congrArg (fun z => Ending.returned (.tuple #[vq, .int .i64 z])) HF0.out.symm, NQ.out, B5.out⟩
    · have tz : ((blen R : Int) == 0) = false := by
        rw [beq_eq_false_iff_ne]
        have := blen_pos hz
        omega
      have HF0 := Lib.hid (show F = 2 + c by rw [HR.out, if_neg hz])
      clear hz
      go_wp2_with fail
      refine (Sh.out _ _ NR.out).mono ?_
      rintro e u6 ⟨v6, rfl, n6, b6⟩
      rw [shN_one, Nat.pow_one] at n6
      have N6 := Lib.hid n6
      have NP2 := Lib.hid (NP.out.below b6)
      have NQ2 := Lib.hid (NQ.out.below b6)
      have B6 := Lib.hid (B5.out.trans (b6.mono B5.out.size))
      clear n6 b6
      go_wp2_with fail
      refine (Cm.out _ _ _ N6.out NP2.out).mono ?_
      rintro e u7 ⟨rfl, n7, rfl⟩
      go_wp2_with fail
      go_ret2
      exact ⟨vq, congrArg (fun z => Ending.returned (.tuple #[vq, .int .i64 z])) HF0.out.symm, NQ2.out.drewN _, below_drewN B6.out _⟩
end Go.Proofs.YtnlpkehllihllaaGreatDoor

/-
  The walks of exact.in, exact.Right, exact.Of and exact.Dec.
-/
namespace Go.Proofs.YtnlpkehllihllaaGreatDoor
open Go.RowKit Go.Sort

theorem in_any (t : Int) (w : World) (h1 : -5000 ≤ t) (h2 : t ≤ 5000) : Calls Tryz.prog 53 #[.int .i64 t] w fun e w' => e = .returned (.bool true) ∧ w = w' := by
  go_enter Tryz.func53, Tryz.ntmps53
  go_wp2_with fail
  go_ret
  exact ⟨rfl, rfl⟩

/-- The last word of a number that is not 0 is not 0. -/
theorem last_word {x : Nat} (h : x ≠ 0) : (wds x).getD (lw x - 1) 0 ≠ 0 := by
  intro q
  have h1 := blen_words h
  rw [q] at h1
  have h2 := lw_ge h
  have h3 := blen_lt x
  rw [h1, blen_zero, Nat.add_zero] at h3
  have h4 : bp (lw x - 1) = 2 ^ (64 * (lw x - 1)) := bp_two _
  omega

set_option maxHeartbeats 1600000 in
set_option maxRecDepth 100000 in
/-- exact.Right of what is. -/
theorem right_any (g : Bool) (vn : Value) (x : Nat) (t f : Int) (w : World) (h : Num w vn x) (hx : lw x ≤ 128) (t1 : -5000 ≤ t) (t2 : t ≤ 5000) (f1 : -5000 ≤ f) (f2 : f ≤ 5000) :
    Calls Tryz.prog 21 #[.agg #[.bool g, vn, .int .i64 t, .int .i64 f]] w fun e w' => e = .returned (.bool true) ∧ Below w.heap.size w w' := by
  have HW := Lib.hid (show Below w.heap.size w (w.alloc (.cells #[.bool g, vn, .int .i64 t, .int .i64 f] 25)) from (Below.refl _ _).alloc (Nat.le_refl _) _)
  have HN := h.below HW.out
  obtain ⟨A, c, rfl, hc, hm, _⟩ := h
  have It := Lib.hid fun W => in_any t W t1 t2
  have If := Lib.hid fun W => in_any f W f1 f2
  by_cases hx0 : x = 0
  · have e0 : lw x = 0 := lw_eq_zero.2 hx0
    rw [e0] at HW ⊢
    clear hx0 e0 HN hx
    go_enter Tryz.func21, Tryz.ntmps21
    go_wp2_with (first
      | (go_at_call 53; refine (It.out _).mono ?_; rintro e w' ⟨rfl, rfl⟩)
      | (go_at_call 53; refine (If.out _).mono ?_; rintro e w' ⟨rfl, rfl⟩))
    go_ret
    exact ⟨rfl, HW.out⟩
  · obtain ⟨A', c', e, _, _, hr⟩ := HN
    injection e with e1 e2 e3
    subst e1 e3
    have hl := lw_pos hx0
    obtain ⟨b, off, rfl, hb, hcell⟩ := hr.at_ (k := 0) (by rw [wds_length]; omega)
    have hlast := hcell (lw x - 1) (by rw [wds_length]; omega)
    have hw := last_word hx0
    have hwl := okw_get (okw_wds x) (lw x - 1)
    obtain ⟨y, hy⟩ : ∃ y, y = (wds x).getD (lw x - 1) 0 := ⟨_, rfl⟩
    rw [← hy] at hlast hw hwl
    obtain ⟨m, hmm⟩ : ∃ m, lw x = m + 1 := ⟨lw x - 1, by omega⟩
    rw [hmm] at hlast hc hx HW ⊢
    simp only [Nat.add_sub_cancel] at hlast
    have t0 : (((m + 1 : Nat) : Int) == 0) = false := by rw [beq_eq_false_iff_ne]; omega
    have t3 : ((y : Int) != 0) = true := by simpa using hw
    have i1 : (((m + 1 : Nat) : Int) - 1) = (m : Int) := by omega
    rw [show ((m + 1 : Nat) : Int) = (m : Int) + 1 by omega] at t0 i1
    clear hx0 hl hcell hw hy e2 hr hmm
    go_enter Tryz.func21, Tryz.ntmps21
    go_wp2_with (first
      | (go_at_call 53; refine (It.out _).mono ?_; rintro e w' ⟨rfl, rfl⟩)
      | (go_at_call 53; refine (If.out _).mono ?_; rintro e w' ⟨rfl, rfl⟩))
    go_ret
    exact ⟨rfl, HW.out⟩
end Go.Proofs.YtnlpkehllihllaaGreatDoor

/-
  Worlds that part in one block alone; a number keeps its words where a block that holds no words is written to.
-/
namespace Go.Proofs.YtnlpkehllihllaaGreatDoor
open Go.RowKit Go.Sort

/-- Only block g may be another one. -/
structure Off (g : Nat) (w w' : World) : Prop where
  size : w'.heap.size = w.heap.size
  block : ∀ k, k ≠ g → w'.heap[k]? = w.heap[k]?
section
variable {w w' : World} {g : Nat}
theorem Off.refl (g : Nat) (w : World) : Off g w w := ⟨rfl, fun _ _ => rfl⟩
theorem Off.set_ (h : Off g w w') (i : Nat) (u : Value) : Off g w (w'.setCell ⟨g, i, none⟩ u) := ⟨by rw [← h.size]; simp [World.setCell], fun k hk => (Below.heap_setCell w' ⟨g, i, none⟩ u k hk).trans (h.block k hk)⟩
theorem Off.drew (h : Off g w w') : Off g w w'.drew := ⟨h.size, h.block⟩
theorem Off.drewN (h : Off g w w') (n : Nat) : Off g w (w'.drewN n) := ⟨h.size, h.block⟩
theorem Off.cell (h : Off g w w') {p : Addr} (hp : p.block ≠ g) : w'.cell? p = w.cell? p := World.cell?_of_block (w := w) (h.block p.block hp)
/-- No cell is a word. -/
def noU (cs : Array Value) : Bool := cs.all fun v => match v with | .int .u64 _ => false | _ => true
theorem RW.off {A : Option Addr} {ws : List Nat} {t : TypeId} {cs : Array Value} (h : RW w A ws) (hk : Blk w g t cs) (hn : noU cs = true) (ho : Off g w w') : RW w' A ws := by
  rcases h with h | ⟨b, off, e, hb, hc⟩
  · exact .inl h
  · by_cases hg : b = g
    · subst hg
      rcases ws with _ | ⟨x, xs⟩
      · exact .inl rfl
      · have h0 := hc 0 (by simp)
        rw [Blk.cell hk] at h0
        have h1 := Array.all_eq_true.1 hn (off + 0) (Array.getElem?_eq_some_iff.1 h0).1
        have h2 := (Array.getElem?_eq_some_iff.1 h0).2
        rw [h2] at h1
        simp at h1
    · exact .inr ⟨b, off, e, by rw [ho.size]; exact hb, fun j hj => (ho.cell (p := ⟨b, off + j, none⟩) hg).trans (hc j hj)⟩
theorem Num.off {v : Value} {x : Nat} {t : TypeId} {cs : Array Value} (h : Num w v x) (hk : Blk w g t cs) (hn : noU cs = true) (ho : Off g w w') : Num w' v x := by
  obtain ⟨A, c, e, h1, h2, h3⟩ := h
  exact ⟨A, c, e, h1, h2, h3.off hk hn ho⟩
/-- Four cells of one block written, one behind the other. -/
theorem stored4 {w w2 : World} {B b : Nat} {t : TypeId} {x0 x1 x2 x3 : Value} (hk : Blk w2 b t #[x0, x1, x2, x3]) (hB : B ≤ b) (hb : Below B w w2) (a0 a1 a2 a3 : Value) :
    ∃ w4, (((w2.setCell ⟨b, 0, none⟩ a0).setCell ⟨b, 1, none⟩ a1).setCell ⟨b, 2, none⟩ a2).setCell ⟨b, 3, none⟩ a3 = w4 ∧ Blk w4 b t #[a0, a1, a2, a3] ∧ Below B w w4 ∧ Off b w2 w4 := by
  refine ⟨_, rfl, ?_, (((hb.setCell hB _).setCell hB _).setCell hB _).setCell hB _, ((((Off.refl b w2).set_ 0 a0).set_ 1 a1).set_ 2 a2).set_ 3 a3⟩
  have h := (((hk.set_ 0 a0).set_ 1 a1).set_ 2 a2).set_ 3 a3
  simpa using h
end
end Go.Proofs.YtnlpkehllihllaaGreatDoor

/-
  The forms: the table, and the walks of forms.Of, Mask, Sign, Fits.
-/
namespace Go.Proofs.YtnlpkehllihllaaGreatDoor
open Go.RowKit Go.Sort

/-- A form's numbers. -/
structure Fm where
  kind : Int
  width : Nat
  man : Nat
  bias : Int
  top : Nat
  inf : Nat
  nan : Nat
def formL : List Fm := [⟨0, 0, 0, 0, 0, 0, 0⟩, ⟨1, 8, 0, 0, 127, 0, 128⟩, ⟨1, 16, 0, 0, 32767, 0, 32768⟩, ⟨1, 32, 0, 0, 2147483647, 0, 2147483648⟩, ⟨1, 64, 0, 0, 9223372036854775807, 0, 9223372036854775808⟩,
  ⟨2, 8, 3, 7, 126, 0, 127⟩, ⟨2, 8, 2, 15, 123, 124, 126⟩, ⟨2, 6, 2, 3, 31, 0, 0⟩, ⟨2, 6, 3, 1, 31, 0, 0⟩, ⟨2, 4, 1, 1, 7, 0, 0⟩, ⟨3, 8, 6, 0, 127, 0, 0⟩, ⟨4, 8, 0, 127, 254, 0, 255⟩,
  ⟨2, 16, 10, 15, 31743, 31744, 32256⟩, ⟨2, 32, 23, 127, 2139095039, 2139095040, 2143289344⟩, ⟨2, 64, 52, 1023, 9218868437227405311, 9218868437227405312, 9221120237041090560⟩]
def formAt (n : Nat) : Fm := formL.getD n ⟨0, 0, 0, 0, 0, 0, 0⟩
/-- The cells of a form. -/
def Fm.cells (f : Fm) : Array Value := #[.int .i64 f.kind, .int .i64 f.width, .int .i64 f.man, .int .i64 f.bias, U f.top, U f.inf, U f.nan]
abbrev Fm.v (f : Fm) : Value := .agg #[.int .i64 f.kind, .int .i64 f.width, .int .i64 f.man, .int .i64 f.bias, U f.top, U f.inf, U f.nan]
/-- The table of forms is laid. -/
def FTab (w : World) : Prop := ∀ n j, n < 15 → j < 7 → w.cell? ⟨0, n * 7 + j, none⟩ = (formAt n).cells[j]?
theorem FTab.below {w w' : World} (h : FTab w) (hb : Below w.heap.size w w') (hs : 0 < w.heap.size) : FTab w' := fun n j hn hj => (hb.cell (p := ⟨0, n * 7 + j, none⟩) hs).trans (h n j hn hj)

set_option maxHeartbeats 1600000 in
set_option maxRecDepth 100000 in
/-- forms.Of. -/
theorem fof_any (n : Nat) (w : World) (h1 : 1 ≤ n) (h2 : n < 15) (ht : FTab w) (hs : 0 < w.heap.size) :
    Calls Tryz.prog 23 #[.int .i64 n] w fun e w' => e = .returned (.tuple #[(formAt n).v, .int .i64 0]) ∧ Below w.heap.size w w' := by
  have c0 := ht n 0 h2 (by omega)
  have c1 := ht n 1 h2 (by omega)
  have c2 := ht n 2 h2 (by omega)
  have c3 := ht n 3 h2 (by omega)
  have c4 := ht n 4 h2 (by omega)
  have c5 := ht n 5 h2 (by omega)
  have c6 := ht n 6 h2 (by omega)
  obtain ⟨f, hf⟩ : ∃ f, f = formAt n := ⟨_, rfl⟩
  rw [← hf] at c0 c1 c2 c3 c4 c5 c6 ⊢
  obtain ⟨a0, a1, a2, a3, a4, a5, a6⟩ := f
  clear hf ht
  simp only [Fm.cells] at c0 c1 c2 c3 c4 c5 c6
  simp at c0 c1 c2 c3 c4 c5 c6
  go_enter Tryz.func23, Tryz.ntmps23
  go_wp2_with fail
  exact bodyPost_ret (v := .tuple #[.agg #[.int .i64 a0, .int .i64 a1, .int .i64 a2, .int .i64 a3, U a4, U a5, U a6], .int .i64 0]) (by simp [results, Tryz.results23, go_sem]) rfl ⟨rfl, (Below.refl _ _).alloc (Nat.le_refl _) _⟩

set_option maxHeartbeats 1600000 in
set_option maxRecDepth 100000 in
/-- forms.Of where there is none. -/
theorem fof_none (n : Int) (w : World) (h : n < 1 ∨ 15 ≤ n) :
    Calls Tryz.prog 23 #[.int .i64 n] w fun e w' => e = .returned (.tuple #[(formAt 0).v, .int .i64 3]) ∧ Below w.heap.size w w' := by
  rcases h with h | h
  · have t1 : decide (n < 1) = true := by simpa using h
    go_enter Tryz.func23, Tryz.ntmps23
    go_wp2_with fail
    exact bodyPost_ret (v := .tuple #[(formAt 0).v, .int .i64 3]) (by simp [results, Tryz.results23, go_sem, formAt, formL]) rfl ⟨rfl, (Below.refl _ _).alloc (Nat.le_refl _) _⟩
  · have t1 : decide (n < 1) = false := by simp; omega
    have t2 : decide (15 ≤ n) = true := by simpa using h
    go_enter Tryz.func23, Tryz.ntmps23
    go_wp2_with fail
    exact bodyPost_ret (v := .tuple #[(formAt 0).v, .int .i64 3]) (by simp [results, Tryz.results23, go_sem, formAt, formL]) rfl ⟨rfl, (Below.refl _ _).alloc (Nat.le_refl _) _⟩

theorem ret_u64 {a b : Int} (h : a = b) : Ending.returned (.int .u64 a) = .returned (.int .u64 b) := by rw [h]
theorem mask_word {n : Nat} (h : n ≤ 64) : IntKind.u64.wrap (IntKind.u64.wrap ((2 : Int) ^ n) - 1) = ((2 ^ n - 1 : Nat) : Int) := by
  have e : ((2 : Int) ^ n) = ((2 ^ n : Nat) : Int) := by simp
  have h0 := Nat.two_pow_pos n
  rw [e, IntKind.wrap_u64, IntKind.wrap_u64]
  rcases Nat.lt_or_ge n 64 with q | q
  · have : 2 ^ n < 2 ^ 64 := Nat.pow_lt_pow_right (by omega) q
    generalize 2 ^ n = x at *
    omega
  · obtain rfl : n = 64 := by omega
    rfl
set_option maxHeartbeats 1600000 in
set_option maxRecDepth 100000 in
/-- forms.Form.Mask. -/
theorem mask_any (f : Fm) (w : World) (h : f.width ≤ 64) :
    Calls Tryz.prog 63 #[f.v] w fun e w' => e = .returned (U (2 ^ f.width - 1)) ∧ Below w.heap.size w w' := by
  obtain ⟨a0, a1, a2, a3, a4, a5, a6⟩ := f
  simp only at h
  go_enter Tryz.func63, Tryz.ntmps63
  go_wp2_with fail
  go_ret
  exact ⟨ret_u64 (mask_word h), (Below.refl _ _).alloc (Nat.le_refl _) _⟩

/-- The highest bit of a form's patterns. -/
def Fm.sign (f : Fm) : Nat := if f.kind = 4 then 0 else 2 ^ (f.width - 1)
theorem sign_words : ∀ n, n < 65 → 1 ≤ n → ((2 ^ n - 1) &&& (18446744073709551615 - (2 ^ n - 1) / 2)) = 2 ^ (n - 1) := by decide +kernel
theorem sign_word {n : Nat} (h1 : 1 ≤ n) (h : n ≤ 64) : bits .andNot .u64 ((2 ^ n - 1 : Nat) : Int) (((2 ^ n - 1 : Nat) : Int) / 2) = ((2 ^ (n - 1) : Nat) : Int) := by
  have h2 : 2 ^ n ≤ 2 ^ 64 := Nat.pow_le_pow_right (by omega) h
  have h3 : 2 ^ n - 1 < 18446744073709551616 := by have : (2 : Nat) ^ 64 = 18446744073709551616 := rfl; have := Nat.two_pow_pos n; omega
  rw [show (((2 ^ n - 1 : Nat) : Int) / 2) = (((2 ^ n - 1) / 2 : Nat) : Int) by omega, u64_andNot_nat _ _ h3 (by omega), sign_words n (by omega) h1]
set_option maxHeartbeats 1600000 in
set_option maxRecDepth 100000 in
/-- forms.Form.Sign. -/
theorem sign_any (f : Fm) (w : World) (h1 : 1 ≤ f.width) (h : f.width ≤ 64) :
    Calls Tryz.prog 64 #[f.v] w fun e w' => e = .returned (U f.sign) ∧ Below w.heap.size w w' := by
  have Mk := Lib.hid fun W => mask_any f W h
  have HB := Lib.hid (show Below w.heap.size w (w.alloc (.cells f.cells 55)) from (Below.refl _ _).alloc (Nat.le_refl _) _)
  have HK := Lib.hid (Blk.new w 55 f.cells)
  have HS := Lib.hid (show f.sign = if f.kind = 4 then 0 else 2 ^ (f.width - 1) from rfl)
  obtain ⟨sg, hsg⟩ : ∃ sg, sg = f.sign := ⟨_, rfl⟩
  rw [← hsg] at HS ⊢
  clear hsg
  obtain ⟨a0, a1, a2, a3, a4, a5, a6⟩ := f
  simp only [Fm.cells] at h h1 HS HB HK
  by_cases hk : a0 = 4
  · have t1 : (a0 == 4) = true := by simpa using hk
    have hs : sg = 0 := by rw [HS.out, if_pos hk]
    have Hs := Lib.hid hs
    clear hk hs
    go_enter Tryz.func64, Tryz.ntmps64
    go_wp2_with fail
    go_ret
    exact ⟨ret_u64 (by rw [Hs.out]; rfl), HB.out⟩
  · have t1 : (a0 == 4) = false := by simpa using hk
    have hs : sg = 2 ^ (a1 - 1) := by rw [HS.out, if_neg hk]
    have Hs := Lib.hid hs
    clear hk hs
    go_enter Tryz.func64, Tryz.ntmps64
    go_wp2_with fail
    obtain ⟨wx, hwx⟩ : ∃ wx, wx = w.alloc (.cells #[.int .i64 a0, .int .i64 a1, .int .i64 a2, .int .i64 a3, U a4, U a5, U a6] 55) := ⟨_, rfl⟩
    rw [← hwx] at HB HK ⊢
    clear hwx
    have k0 : wx.cell? ⟨w.heap.size, 0, none⟩ = some (.int .i64 a0) := Blk.cell HK.out 0
    have k1 : wx.cell? ⟨w.heap.size, 1, none⟩ = some (.int .i64 a1) := Blk.cell HK.out 1
    have k2 : wx.cell? ⟨w.heap.size, 2, none⟩ = some (.int .i64 a2) := Blk.cell HK.out 2
    have k3 : wx.cell? ⟨w.heap.size, 3, none⟩ = some (.int .i64 a3) := Blk.cell HK.out 3
    have k4 : wx.cell? ⟨w.heap.size, 4, none⟩ = some (U a4) := Blk.cell HK.out 4
    have k5 : wx.cell? ⟨w.heap.size, 5, none⟩ = some (U a5) := Blk.cell HK.out 5
    have k6 : wx.cell? ⟨w.heap.size, 6, none⟩ = some (U a6) := Blk.cell HK.out 6
    go_region_held3 (fun w' => w'.cell? ⟨w.heap.size, 0, none⟩ = some (.int .i64 a0) ∧ w'.cell? ⟨w.heap.size, 1, none⟩ = some (.int .i64 a1) ∧ w'.cell? ⟨w.heap.size, 2, none⟩ = some (.int .i64 a2) ∧ w'.cell? ⟨w.heap.size, 3, none⟩ = some (.int .i64 a3) ∧
        w'.cell? ⟨w.heap.size, 4, none⟩ = some (U a4) ∧ w'.cell? ⟨w.heap.size, 5, none⟩ = some (U a5) ∧ w'.cell? ⟨w.heap.size, 6, none⟩ = some (U a6))
      (first
        | go_keep
        | (go_split_ands
           refine ⟨?_, ?_, ?_, ?_, ?_, ?_, ?_⟩ <;> (rw [gg.cell (World.block_lt_of_cell? _ _ (by assumption))]; assumption)))
      ((go_at_call 63; (with_reducible refine (Mk.out _).mono ?_); rintro e ws ⟨rfl, gg⟩; first | (have gb := ga.trans (gg.mono ga.size)) | (have ga := gg)))
    go_wp2_with fail
    go_ret
    exact ⟨ret_u64 (by rw [Hs.out]; exact sign_word h1 h), HB.out.trans ((below_of_drew gb).mono HB.out.size)⟩
end Go.Proofs.YtnlpkehllihllaaGreatDoor

/-
  Plain laws of words of 64 bits: what and, or, andNot and the sign's turning make of patterns.
-/
namespace Go.Proofs.YtnlpkehllihllaaGreatDoor
open Go.RowKit Go.Sort

theorem andNot_bit {a b : Nat} (ha : a < 18446744073709551616) (hb : b < 18446744073709551616) (i : Nat) : (a &&& (18446744073709551615 - b)).testBit i = (a.testBit i && !b.testBit i) := by
  rw [Nat.testBit_and, show 18446744073709551615 - b = 2 ^ 64 - (b + 1) by have : (2 : Nat) ^ 64 = 18446744073709551616 := rfl; omega, Nat.testBit_two_pow_sub_succ (by exact hb)]
  rcases Nat.lt_or_ge i 64 with h | h
  · simp [h]
  · have : a.testBit i = false := Nat.testBit_lt_two_pow (Nat.lt_of_lt_of_le ha (Nat.pow_le_pow_right (n := 2) (by omega) h))
    simp [this]
theorem mask_lt {n : Nat} (h : n ≤ 64) : 2 ^ n - 1 < 18446744073709551616 := by
  have h2 : 2 ^ n ≤ 2 ^ 64 := Nat.pow_le_pow_right (by omega) h
  have h3 : (2 : Nat) ^ 64 = 18446744073709551616 := rfl
  have := Nat.two_pow_pos n
  omega
/-- What lies beyond a mask. -/
theorem fits_word {p n : Nat} (hp : p < 18446744073709551616) (h : n ≤ 64) : (bits .andNot .u64 (p : Int) ((2 ^ n - 1 : Nat) : Int) != 0) = decide (2 ^ n ≤ p) := by
  rw [u64_andNot_nat _ _ hp (mask_lt h)]
  by_cases hle : 2 ^ n ≤ p
  · rw [decide_eq_true hle, bne_iff_ne]
    intro q
    have q' : (p &&& (18446744073709551615 - (2 ^ n - 1))) = 0 := by exact_mod_cast q
    have : p < 2 ^ n := Nat.lt_pow_two_of_testBit _ fun i hi => by
      have h1 := andNot_bit hp (mask_lt h) i
      rw [q', Nat.zero_testBit, Nat.testBit_two_pow_sub_one, decide_eq_false (by omega)] at h1
      simpa using h1.symm
    omega
  · rw [decide_eq_false hle]
    have : (p &&& (18446744073709551615 - (2 ^ n - 1))) = 0 := Nat.eq_of_testBit_eq fun i => by
      rw [andNot_bit hp (mask_lt h) i, Nat.testBit_two_pow_sub_one, Nat.zero_testBit]
      rcases Nat.lt_or_ge i n with hi | hi
      · simp [hi]
      · have : p.testBit i = false := Nat.testBit_lt_two_pow (Nat.lt_of_lt_of_le (Nat.lt_of_not_le hle) (Nat.pow_le_pow_right (by omega) hi))
        simp [this]
    rw [this]; rfl
/-- The highest bit of n + 1. -/
theorem top_and {p n : Nat} (hp : p < 2 ^ (n + 1)) (h : n < 64) : bits .and .u64 (p : Int) ((2 ^ n : Nat) : Int) = if 2 ^ n ≤ p then ((2 ^ n : Nat) : Int) else 0 := by
  have h64 : (2 : Nat) ^ 64 = 18446744073709551616 := rfl
  have h1 : (2 : Nat) ^ (n + 1) ≤ 2 ^ 64 := Nat.pow_le_pow_right (by omega) (by omega)
  have h2 : (2 : Nat) ^ n < 2 ^ 64 := Nat.pow_lt_pow_right (by omega) h
  rw [u64_and_nat _ _ (by omega) (by omega)]
  have e : p.testBit n = decide (2 ^ n ≤ p) := by
    rw [Nat.testBit_eq_decide_div_mod_eq]
    have h3 : p / 2 ^ n < 2 := by rw [Nat.div_lt_iff_lt_mul (Nat.two_pow_pos n), ← Nat.pow_succ']; exact hp
    by_cases hle : 2 ^ n ≤ p
    · have := Nat.div_pos hle (Nat.two_pow_pos n)
      rw [decide_eq_true hle, decide_eq_true (by omega)]
    · rw [decide_eq_false hle, Nat.div_eq_of_lt (by omega)]; rfl
  have e2 : p &&& 2 ^ n = if 2 ^ n ≤ p then 2 ^ n else 0 := Nat.eq_of_testBit_eq fun i => by
    rw [Nat.testBit_and, Nat.testBit_two_pow]
    by_cases hi : n = i
    · subst hi
      rw [e]
      by_cases hle : 2 ^ n ≤ p
      · rw [if_pos hle, decide_eq_true hle, Nat.testBit_two_pow_self]; simp
      · rw [if_neg hle, decide_eq_false hle]; simp
    · rw [decide_eq_false hi, Bool.and_false]
      split
      · rw [Nat.testBit_two_pow, decide_eq_false hi]
      · rw [Nat.zero_testBit]
  rw [e2]
  split <;> rfl
/-- Without the highest bit. -/
theorem top_off {p n : Nat} (hp : p < 2 ^ (n + 1)) (h : n < 64) (ht : 2 ^ n ≤ p) : bits .andNot .u64 (p : Int) ((2 ^ n : Nat) : Int) = ((p - 2 ^ n : Nat) : Int) := by
  have h64 : (2 : Nat) ^ 64 = 18446744073709551616 := rfl
  have h1 : (2 : Nat) ^ (n + 1) ≤ 2 ^ 64 := Nat.pow_le_pow_right (by omega) (by omega)
  have h2 : (2 : Nat) ^ n < 2 ^ 64 := Nat.pow_lt_pow_right (by omega) h
  rw [u64_andNot_nat _ _ (by omega) (by omega)]
  congr 1
  refine Nat.eq_of_testBit_eq fun i => ?_
  rw [andNot_bit (by omega) (by omega)]
  have hq : p - 2 ^ n < 2 ^ n := by rw [Nat.pow_succ] at hp; omega
  have e : p = 2 ^ n + (p - 2 ^ n) := by omega
  rcases Nat.lt_trichotomy i n with hi | hi | hi
  · conv => lhs; rw [e]
    rw [Nat.testBit_two_pow_add_gt hi, Nat.testBit_two_pow, decide_eq_false (by omega)]
    simp
  · subst hi
    rw [Nat.testBit_two_pow_self, Nat.testBit_lt_two_pow hq]; simp
  · rw [Nat.testBit_lt_two_pow (Nat.lt_of_lt_of_le hp (Nat.pow_le_pow_right (by omega) hi)), Nat.testBit_lt_two_pow (Nat.lt_of_lt_of_le hq (Nat.pow_le_pow_right (by omega) (by omega)))]; rfl
/-- With the highest bit. -/
theorem top_on {k n : Nat} (hk : k < 2 ^ n) (h : n < 64) : bits .or .u64 (k : Int) ((2 ^ n : Nat) : Int) = ((k + 2 ^ n : Nat) : Int) := by
  have h64 : (2 : Nat) ^ 64 = 18446744073709551616 := rfl
  have h2 : (2 : Nat) ^ n < 2 ^ 64 := Nat.pow_lt_pow_right (by omega) h
  rw [u64_or_nat _ _ (by omega) (by omega)]
  congr 1
  have e := Nat.two_pow_add_eq_or_of_lt hk 1
  rw [Nat.mul_one] at e
  rw [Nat.or_comm, ← e, Nat.add_comm]
/-- The sign turned, as two's complement has it. -/
theorem turn_word {p n : Nat} (hp : p ≤ 2 ^ n) (hp64 : p < 18446744073709551616) (h : n ≤ 64) : bits .and .u64 (IntKind.u64.wrap (-(p : Int))) ((2 ^ n - 1 : Nat) : Int) = (((2 ^ n - p) % 2 ^ n : Nat) : Int) := by
  have h64 : (2 : Nat) ^ 64 = 18446744073709551616 := rfl
  have e1 : IntKind.u64.wrap (-(p : Int)) = (((18446744073709551616 - p) % 18446744073709551616 : Nat) : Int) := by
    rw [IntKind.wrap_u64]
    rcases Nat.eq_zero_or_pos p with rfl | hp0
    · rfl
    · rw [Nat.mod_eq_of_lt (by omega)]; omega
  rw [e1, u64_and_nat _ _ (Nat.mod_lt _ (by omega)) (mask_lt h), Nat.and_two_pow_sub_one_eq_mod]
  congr 1
  obtain ⟨m, hm⟩ : ∃ m, 64 = n + m := ⟨64 - n, by omega⟩
  have hd : 2 ^ n ∣ 18446744073709551616 := by rw [← h64, hm, Nat.pow_add]; exact Nat.dvd_mul_right _ _
  rw [Nat.mod_mod_of_dvd _ hd]
  obtain ⟨q, hq⟩ := hd
  have hq0 : 0 < q := by rcases Nat.eq_zero_or_pos q with rfl | h0 <;> omega
  obtain ⟨r, rfl⟩ : ∃ r, q = r + 1 := ⟨q - 1, by omega⟩
  rw [hq, Nat.mul_add, Nat.mul_one, Nat.add_sub_assoc hp, Nat.mul_add_mod]
end Go.Proofs.YtnlpkehllihllaaGreatDoor
