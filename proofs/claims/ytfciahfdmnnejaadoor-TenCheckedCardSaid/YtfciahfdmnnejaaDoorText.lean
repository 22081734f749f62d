/-
  The walk of nat.Text.
-/
import Derived.Test.YtfciahfdmnnejaaDoorDiv1
import Derived.Test.YtfciahfdmnnejaaDoorFmt
namespace Go.Proofs.YtfciahfdmnnejaaDoor
open Go.RowKit Go.Sort

theorem info9 : (Tryd.prog.info? 9).map (fun i => (i.zero, i.size, i.bytes)) = some (some (.string ByteArray.empty), 1, 16) := by kernel_rfl
/-- A list of bytes as a value. -/
abbrev S (l : List UInt8) : Value := .string ⟨l.toArray⟩
def slen : Value → Nat | .slice _ n _ => n | _ => 0

theorem nDigits_le : ∀ (k u : Nat), u < 10 ^ (k + 1) → Lib.nDigits u ≤ k + 1
  | 0, u, h => by rw [Lib.nDigits_small (by simpa using h)]; omega
  | k + 1, u, h => by
    by_cases h0 : u < 10
    · rw [Lib.nDigits_small h0]; omega
    · rw [Lib.nDigits_big h0]
      have := nDigits_le k (u / 10) (by rw [Nat.pow_succ] at h; omega)
      omega
theorem decDigits_le {r : Nat} (h : r < 10000000000000000000) : 1 ≤ (Lib.decDigits r).length ∧ (Lib.decDigits r).length ≤ 19 := by
  rw [Lib.decDigits_length]
  exact ⟨Lib.nDigits_pos r, nDigits_le 18 r (by simpa using h)⟩
theorem repeatL_one (c : UInt8) (n : Nat) : Lib.repeatL [c] n = List.replicate n c := by
  induction n with
  | zero => rfl
  | succ n ih => rw [Lib.repeatL, ih, List.replicate_succ]; rfl
theorem owns_below {w w' : World} {base : Nat} {e : TypeId} {size n : Nat} {v : Value} {xs : List Value} (h : w.ownsRow base e size v n xs) (hb : Below w.heap.size w w') : w'.ownsRow base e size v n xs := by
  refine ⟨h.1, ?_⟩
  rcases h.2 with h2 | ⟨g, cap, cur, hv, hg, hh, r⟩
  · exact .inl h2
  · exact .inr ⟨g, cap, cur, hv, hg, (hb.block g (Blk.lt hh)).trans hh, r⟩
theorem bytes_append (a b : List UInt8) : S (a ++ b) = .string ((⟨a.toArray⟩ : ByteArray) ++ ⟨b.toArray⟩) := by
  congr 1
/-- A number reads as it did behind a new block and writes to another row. -/
theorem num_grown {w w' : World} {b n x : Nat} {o : Obj} {row : Option Nat} (h : Num w (.slice (some ⟨b, 0, none⟩) n n) x) (hg : (w.alloc o).grownBy w' row) (hr : some b ≠ row) : Num w' (.slice (some ⟨b, 0, none⟩) n n) x := by
  obtain ⟨A, c, e, h1, h2, h3⟩ := h
  refine ⟨A, c, e, h1, h2, ?_⟩
  have ea : A = some ⟨b, 0, none⟩ := by injection e with e1; exact e1.symm
  subst ea
  rcases h3 with h3 | ⟨b', off, e', hb, hc⟩
  · exact .inl h3
  · injection e' with e'
    injection e' with e1 e2
    subst e1
    subst e2
    have hs : w.heap.size < (w.alloc o).heap.size := by simp
    refine .inr ⟨b, 0, rfl, Nat.lt_of_lt_of_le (Nat.lt_trans hb hs) hg.size, fun j hj => ?_⟩
    have e3 : w'.heap[b]? = w.heap[b]? := (hg.block b (Nat.lt_trans hb hs) hr).trans (Below.heap_alloc w o b hb)
    exact (World.cell?_of_block (a := ⟨b, 0 + j, none⟩) e3).trans (hc j hj)
theorem chunks_le {x k : Nat} (h : x / 10000000000000000000 ^ k ≠ 0) : k ≤ 2 * lw x := by
  have h1 : 10000000000000000000 ^ k ≤ x := by
    rcases Nat.lt_or_ge x (10000000000000000000 ^ k) with h2 | h2
    · exact absurd (Nat.div_eq_of_lt h2) h
    · exact h2
  have h2 := lw_lt x
  rw [bp_two] at h2
  have h3 : (2 : Nat) ^ (63 * k) ≤ 10000000000000000000 ^ k := by
    rw [Nat.pow_mul]
    exact Nat.pow_le_pow_left (by decide) k
  have h4 : 63 * k < 64 * lw x := (Nat.pow_lt_pow_iff_right (by omega : 1 < 2)).1 (Nat.lt_of_le_of_lt (Nat.le_trans h3 h1) h2)
  omega

/-- Nineteen digits of what is left. -/
def padL (r : Nat) : List UInt8 := List.replicate (19 - Lib.nDigits r) 48 ++ Lib.decDigits r
/-- The digits of a number, nineteen at a time. -/
def textL (x : Nat) : List UInt8 := if _h : x < 10000000000000000000 then Lib.decDigits x else textL (x / 10000000000000000000) ++ padL (x % 10000000000000000000)
termination_by x
decreasing_by omega
theorem textL_small {x : Nat} (h : x < 10000000000000000000) : textL x = Lib.decDigits x := by rw [textL, dif_pos h]
theorem textL_big {x : Nat} (h : ¬ x < 10000000000000000000) : textL x = textL (x / 10000000000000000000) ++ padL (x % 10000000000000000000) := by rw [textL, dif_neg h]


theorem join_none (xs : List (List UInt8)) : Lib.join xs [] = xs.flatten := by
  match xs with
  | [] => rfl
  | x :: r =>
    rw [Lib.join_cons, Lib.joinTail, List.flatten_cons]
    congr 2
    exact List.map_id' _
theorem lens_le (xs : List (List UInt8)) (h : ∀ s, s ∈ xs → s.length ≤ 20) : xs.flatten.length ≤ 20 * xs.length := by
  induction xs with
  | nil => simp
  | cons x r ih =>
    have h1 := h x (List.mem_cons_self ..)
    have h2 := ih fun s hs => h s (List.mem_cons_of_mem _ hs)
    rw [List.flatten_cons, List.length_append, List.length_cons]
    omega
theorem slen_own {w : World} {base : Nat} {e : TypeId} {size n : Nat} {v : Value} {xs : List Value} (h : w.ownsRow base e size v n xs) : slen v = n := by
  rcases h.2 with ⟨rfl, h2⟩ | ⟨g, cap, cur, rfl, r⟩
  · exact h2.symm
  · rfl
theorem slen_step {w w' : World} {base base' : Nat} {e e' : TypeId} {size size' k x : Nat} {v v' : Value} {xs xs' : List Value} (h : w.ownsRow base e size v (k + 1) xs) (h' : w'.ownsRow base' e' size' v' k xs') (hk : k ≤ x) :
    x + 1 - slen v < x + 1 - slen v' := by
  rw [slen_own h, slen_own h']
  omega
theorem chunks_lt {x k : Nat} (h : x / 10000000000000000000 ^ k ≠ 0) : k ≤ x := by
  have h1 : 10000000000000000000 ^ k ≤ x := by
    rcases Nat.lt_or_ge x (10000000000000000000 ^ k) with h2 | h2
    · exact absurd (Nat.div_eq_of_lt h2) h
    · exact h2
  have h2 : k < 2 ^ k := Nat.lt_two_pow_self
  have h3 : 2 ^ k ≤ 10000000000000000000 ^ k := Nat.pow_le_pow_left (by decide) k
  omega
theorem text_close {x xk xn r k : Nat} {ss : List (List UInt8)} {D R : List UInt8} (h2 : Hid (xk = x / 10000000000000000000 ^ k)) (h3 : Hid (ss.length = k)) (h4 : Hid (textL x = textL xk ++ ss.reverse.flatten)) (h6 : Hid (∀ s, s ∈ ss → s.length ≤ 20))
    (hb : Hid (10000000000000000000 ≤ xk)) (hxn : Hid (xn = xk / 10000000000000000000)) (hr : Hid (r = xk % 10000000000000000000)) (hD : Hid (D = Lib.decDigits r)) (hR : Hid (R = Lib.repeatL (⟨#[48]⟩ : ByteArray).data.toList (19 - D.length))) (hd : D.length ≤ 19) :
    Hid (xn = x / 10000000000000000000 ^ (k + 1)) ∧ Hid ((ss ++ [R ++ D]).length = k + 1) ∧ Hid (textL x = textL xn ++ (ss ++ [R ++ D]).reverse.flatten) ∧ Hid (∀ s, s ∈ ss ++ [R ++ D] → s.length ≤ 20) ∧ Hid (k + 1 ≤ 2 * lw x) := by
  have eR := hR.out
  rw [show (⟨#[48]⟩ : ByteArray).data.toList = [48] from rfl, repeatL_one] at eR
  have eL : (R ++ D).length = 19 := by rw [eR, List.length_append, List.length_replicate]; omega
  have e1 : xn = x / 10000000000000000000 ^ (k + 1) := by rw [hxn.out, h2.out, Nat.div_div_eq_div_mul, ← Nat.pow_succ]
  refine ⟨Lib.hid e1, Lib.hid ?_, Lib.hid ?_, Lib.hid ?_, Lib.hid (chunks_le ?_)⟩
  · rw [List.length_append, h3.out]; rfl
  · rw [h4.out, textL_big (Nat.not_lt.2 hb.out), List.reverse_append, List.flatten_append, ← hxn.out, ← hr.out, padL, List.append_assoc]
    congr 2
    rw [eR, hD.out, Lib.decDigits_length]
    simp
  · intro s hs
    rcases List.mem_append.1 hs with hs | hs
    · exact h6.out s hs
    · rw [List.mem_singleton.1 hs, eL]; omega
  · have := hb.out
    rw [← e1, hxn.out]; omega

/-- The one row of texts behind a slice of them. -/
theorem own_form {w : World} {base n : Nat} {v : Value} {ss : List (List UInt8)} {D : List UInt8} (h : w.ownsRow base 9 1 v n (ss.map S ++ [S D])) (hn : 0 < n) :
    ∃ g cap, v = .slice (some ⟨g, 0, none⟩) n cap ∧ base ≤ g ∧ n ≤ cap ∧ cap ≤ maxLen ∧ (∀ i, i < n → w.cell? ⟨g, 0 + i, none⟩ = some (.string ⟨((ss ++ [D]).getD i []).toArray⟩)) ∧ (∀ i, i < n → w.frozen? ⟨g, 0 + i, none⟩ = false) ∧ g < w.heap.size := by
  have h' := h
  rcases h.2 with ⟨_, h0⟩ | ⟨g, cap, cur, hv, h1, h2, h3, h4, h5, h6⟩
  · omega
  subst hv
  refine ⟨g, cap, rfl, h1, h3, h4, fun i hi => ?_, fun i _ => h.frozenAt _, Blk.lt h2⟩
  have e := h.1
  rw [h.cellAt (0 + i) (by omega), Nat.zero_add, show ss.map S ++ [S D] = (ss ++ [D]).map S by simp, List.getElem?_map]
  have el : i < (ss ++ [D]).length := by simp at e ⊢; omega
  rw [List.getElem?_eq_getElem el, List.getD_eq_getElem?_getD, List.getElem?_eq_getElem el]
  rfl

theorem size_cells (b : Nat) : ∀ (vs : List Value) (o : Nat) (w : World), (w.setCells b o vs).heap.size = w.heap.size
  | [], _, _ => rfl
  | v :: vs, o, w => by rw [World.setCells, size_cells b vs]; simp
theorem below_cells {B : Nat} {a : World} (b : Nat) (hb : B ≤ b) : ∀ (vs : List Value) (o : Nat) {w : World}, Below B a w → Below B a (w.setCells b o vs)
  | [], _, _, h => h
  | v :: vs, o, _, h => below_cells b hb vs (o + 1) (h.setCell (p := ⟨b, o, none⟩) hb v)
theorem strs_is (zs : List (List UInt8)) : Lib.strsOf (fun i => { data := (zs[i]?.getD []).toArray }) zs.length = zs := by
  apply List.ext_getElem
  · rw [Lib.strsOf_length]
  · intro i h1 h2
    have e : ∀ (f : Nat → List UInt8) (h : i < ((List.range zs.length).map f).length), ((List.range zs.length).map f)[i] = f i := fun f h => by rw [List.getElem_map, List.getElem_range]
    refine (e (fun i => zs[i]?.getD []) _).trans ?_
    show zs[i]?.getD [] = zs[i]
    rw [List.getElem?_eq_getElem h2]
    rfl
/-- Turned round and joined, the texts stand behind one another. -/
theorem join_rev (w4 : World) (g n cap q : Nat) (zs : List (List UInt8)) (hz : zs.length = n) (h20 : ∀ s, s ∈ zs → s.length ≤ 20) (hn : n ≤ 4000000) (hcap : n ≤ cap) (hlt : g < w4.heap.size)
    (hcell : ∀ i, i < n → w4.cell? ⟨g, 0 + i, none⟩ = some (.string ⟨(zs.getD i []).toArray⟩)) :
    Calls Tryd.prog 55 #[.slice (some ⟨g, 0, none⟩) n cap, .string { data := #[] }] ((w4.drewN q).setCells g 0 (List.map encStr (Lib.strsOf (fun i => { data := (zs[i]?.getD []).toArray }) n)).reverse)
      fun e w' => e = .returned (S zs.reverse.flatten) ∧ Below ((w4.drewN q).setCells g 0 (List.map encStr (Lib.strsOf (fun i => { data := (zs[i]?.getD []).toArray }) n)).reverse).heap.size ((w4.drewN q).setCells g 0 (List.map encStr (Lib.strsOf (fun i => { data := (zs[i]?.getD []).toArray }) n)).reverse) w' := by
  subst hz
  rw [strs_is]
  have hx : (zs.reverse.map fun l => (⟨l.toArray⟩ : ByteArray)).length = zs.length := by simp
  have hm : (zs.reverse.map fun l => (⟨l.toArray⟩ : ByteArray)).map (·.data.toList) = zs.reverse := by
    rw [List.map_map]
    conv => rhs; rw [← List.map_id zs.reverse]
    rfl
  have h := Tryd.strings_Join g 0 cap (zs.reverse.map fun l => (⟨l.toArray⟩ : ByteArray)) ⟨#[]⟩ ((w4.drewN q).setCells g 0 (List.map encStr zs).reverse) ?_ ?_ ?_ ?_ ?_
  · rw [hm, hx, show (⟨#[]⟩ : ByteArray).data.toList = [] from rfl, join_none] at h
    exact h
  · intro j x hj
    have hj' : j < zs.reverse.length := by
      have := (List.getElem?_eq_some_iff.1 hj).1
      simpa using this
    have e := World.cell?_setCells_in g (List.map encStr zs).reverse 0 (w4.drewN q) (fun j hj => by
      have e := hcell j (by simpa using hj)
      rw [show (w4.drewN q).cell? ⟨g, 0 + j, none⟩ = w4.cell? ⟨g, 0 + j, none⟩ from rfl, e]
      rfl) j (by simpa using hj')
    rw [e]
    rw [List.getElem?_map, List.getElem?_eq_getElem hj'] at hj
    simp only [Option.map_some, Option.some.injEq] at hj
    rw [← hj]
    simp [← List.map_reverse, encStr]
  · rw [size_cells]; exact hlt
  · rw [hx]; omega
  · rw [hx]; exact hcap
  · rw [hm, show (⟨#[]⟩ : ByteArray).data.toList = [] from rfl, join_none]
    have := lens_le zs.reverse (fun s hs => h20 s (List.mem_reverse.1 hs))
    rw [List.length_reverse] at this
    omega

set_option maxHeartbeats 1600000 in
set_option maxRecDepth 100000 in
theorem text_any (va : Value) (x : Nat) (w : World) (ha : Num w va x) (hs : lw x ≤ 1048576) (htab : Tab w) :
    Calls Tryd.prog 30 #[va] w fun e w' => e = .returned (S (textL x)) ∧ Below w.heap.size w w' := by
  obtain ⟨i0, hi, hz0, hz1, hz2⟩ := info_parts info9
  obtain ⟨A, ca, rfl, hca, hma, hra⟩ := ha
  go_enter Tryd.func30, Tryd.ntmps30
  go_wp2_with (go_at_call 35; refine (trim_num _ _ _ _ hra hca hma).mono ?_; rintro e w' ⟨rfl, rfl⟩)
  have hn0 : Num w (.slice A (lw x) (lw x)) x := Num.at_cap hra (Nat.le_refl _) (by omega)
  go_loopw [0, 3] (fun a l wr => ∃ (k xk : Nat) (ss : List (List UInt8)), Num wr a xk ∧ Hid (xk = x / 10000000000000000000 ^ k) ∧ Hid (ss.length = k) ∧ Hid (textL x = textL xk ++ ss.reverse.flatten) ∧ Hid (∀ s, s ∈ ss → s.length ≤ 20) ∧ Hid (k ≤ 2 * lw x) ∧
      Hid (wr.ownsRow w.heap.size 9 1 l k (ss.map S)) ∧ Below w.heap.size w wr)
    (fun _ l _ => x + 1 - slen l)
  case atStart => exact ⟨0, x, [], hn0, Lib.hid (by simp), rfl, Lib.hid (by simp), Lib.hid (by simp), Lib.hid (Nat.zero_le _), World.ownsRow_nil _ _ _ _, Below.refl _ _⟩
  case round =>
    obtain ⟨k, xk, ss, h1, h2, h3, h4, h6, Hk, h5, hbe⟩ := hrel
    obtain ⟨A', c', rfl, hc', hm', hr'⟩ := h1
    have hxle : xk ≤ x := by rw [h2.out]; exact Nat.div_le_self _ _
    have hlk : lw xk ≤ 1048576 := by
      have := lw_mono hxle
      omega
    clear hxle
    by_cases hbig : 2 ≤ lw xk
    · have t1 : decide (1 < (lw xk : Int)) = true := by simp; omega
      have hx0 : xk ≠ 0 := fun h => by subst h; rw [lw_zero] at hbig; omega
      have hxl : Hid (10000000000000000000 ≤ xk) := Lib.hid (by
        have h := lw_ge hx0
        have h' := bp_mono (show 1 ≤ lw xk - 1 by omega)
        rw [show bp 1 = 18446744073709551616 from rfl] at h'
        omega)
      have Hkx : Hid (k ≤ x) := Lib.hid (chunks_lt (by rw [← h2.out]; exact hx0))
      clear hx0
      go_wp2_with fail
      refine (short_any _ xk 10000000000000000000 _ (Num.at_cap hr' hc' hm') (by omega) (by omega) (by omega)).mono ?_
      rintro e w1 ⟨v1, rfl, g1, ⟨nf, hfr⟩, g2⟩
      subst hfr
      obtain ⟨r, hr⟩ : ∃ r, r = xk % 10000000000000000000 := ⟨_, rfl⟩
      have hr64 : r < 10000000000000000000 := by rw [hr]; exact Nat.mod_lt _ (by omega)
      rw [← hr]
      obtain ⟨xn, hxn⟩ : ∃ a, a = xk / 10000000000000000000 := ⟨_, rfl⟩
      rw [← hxn] at g1
      obtain ⟨D, hD⟩ : ∃ D, D = Lib.decDigits r := ⟨_, rfl⟩
      obtain ⟨d1, d2⟩ := decDigits_le hr64
      rw [← hD] at d1 d2
      have hfm := fun W => fmt_any r W (Nat.lt_trans hr64 (by omega))
      rw [← hD] at hfm
      have Hfm := Lib.hid hfm
      have Hr := Lib.hid hr
      have Hxn := Lib.hid hxn
      have HD := Lib.hid hD
      clear hr64 hr hxn hr' hD hfm
      have hb1 := hbe.trans (g2.mono hbe.size)
      have ht1 : Tab w1 := htab.below hb1 (Nat.le_refl _)
      go_wp2_with fail
      refine (Hfm.out _ ht1).mono ?_
      rintro e w2 ⟨rfl, g3⟩
      have ec : (19 : Int) - (D.length : Int) = ((19 - D.length : Nat) : Int) := by omega
      go_wp2_with fail
      refine (Tryd.strings_Repeat ⟨#[48]⟩ (19 - D.length) _ (by omega) (by simp [ByteArray.size]; omega)).mono ?_
      rintro e w3 ⟨rfl, g4⟩
      have hb3 := (hb1.trans (g3.mono hb1.size)).trans (g4.mono (Nat.le_trans hb1.size g3.size))
      have hown3 := owns_below (owns_below (owns_below h5.out g2) g3) g4
      have Hlt := Lib.hid (fun g hg => (h5.out.lt g hg).2)
      have Hge := Lib.hid (fun g hg => (h5.out.lt g hg).1)
      have Hown := Lib.hid hown3
      clear hown3
      replace g1 := (g1.below g3).below g4
      obtain ⟨R, hR⟩ : ∃ R, R = Lib.repeatL (⟨#[48]⟩ : ByteArray).data.toList (19 - D.length) := ⟨_, rfl⟩
      rw [← hR]
      have hRl : R.length ≤ 19 := by rw [hR, Lib.repeatL_length, show (⟨#[48]⟩ : ByteArray).data.toList.length = 1 from rfl, Nat.mul_one]; omega
      have HR := Lib.hid hR
      clear hR g2 g3 g4 hb1 ec
      go_wp2_with (at_builtin; refine wpList_append_own _ rfl (.tmp 23) (.tmp 30) 58 rfl w.heap.size 9 i0 (.string ByteArray.empty) 1 16 Tryd.underlying58 hi hz0 hz1 hz2 rfl (by decide) _ k (ss.map S) rfl (Hown.out.alloc _) ⟨w3.heap.size, 0, none⟩ 1 1 [S (R ++ D)] rfl rfl ?c1 ?c2 ?c3 ?c4 ?c5 ?_)
      case c1 =>
        intro j u hj
        rw [bytes_append R D] at hj
        match j, hj with
        | 0, hj => simp at hj; subst hj; simp [Addr.add]
      case c2 => intro u hu; simp at hu; subst hu; rfl
      case c3 => have := Hk.out; unfold maxLen; omega
      case c4 => have := Hk.out; omega
      case c5 => have := hb3.size; simp; omega
      intro v' w4 hown4 hgrow4 _
      have Hown4 := Lib.hid hown4
      have hb4 := (hb3.alloc hb3.size _).grown hgrow4 (by have := hb3.size; simp; omega) (fun g hg => Hge.out g hg)
      replace g1 := num_grown g1 hgrow4 (fun e => by have := Hlt.out _ e.symm; omega)
      clear hown4 hgrow4 hb3
      obtain ⟨c1, c2, c3, c4, c5⟩ := text_close h2 h3 h4 h6 hxl Hxn Hr HD HR d2
      go_wp2
      exact ⟨⟨k + 1, xn, ss ++ [R ++ D], g1, c1, c2, c3, c4, c5, Lib.hid (by rw [List.map_append]; exact Hown4.out), hb4⟩, slen_step Hown4.out Hown.out Hkx.out⟩
    · have t1 : decide (1 < (lw xk : Int)) = false := by simp; omega
      have hx64 : xk < 18446744073709551616 := by
        have h := lw_lt xk
        have h' := bp_mono (show lw xk ≤ 1 by omega)
        rw [show bp 1 = 18446744073709551616 from rfl] at h'
        omega
      have eg : (wds xk).getD 0 0 = xk := by rw [wds_at, bp_zero, Nat.div_one]; exact Nat.mod_eq_of_lt hx64
      have hat := fun W (h : RW W A' (wds xk)) => at_any A' (lw xk) c' (wds xk) 0 W h rfl (by omega) (by omega)
      rw [show ((0 : Int).toNat) = 0 from rfl, eg] at hat
      have Hat := Lib.hid hat
      clear eg hat
      by_cases hbig2 : 10000000000000000000 ≤ xk
      · have t2 : decide (10000000000000000000 ≤ (xk : Int)) = true := by simp; omega
        have hx0 : xk ≠ 0 := by omega
        have hxl : Hid (10000000000000000000 ≤ xk) := Lib.hid hbig2
        have Hkx : Hid (k ≤ x) := Lib.hid (chunks_lt (by rw [← h2.out]; exact hx0))
        clear hx0 hbig2 hx64
        go_wp2_with (go_at_call 50; refine (Hat.out _ hr').mono ?_; rintro e w1 ⟨rfl, rfl⟩)
        refine (short_any _ xk 10000000000000000000 _ (Num.at_cap hr' hc' hm') (by omega) (by omega) (by omega)).mono ?_
        rintro e w1 ⟨v1, rfl, g1, ⟨nf, hfr⟩, g2⟩
        subst hfr
        obtain ⟨r, hr⟩ : ∃ r, r = xk % 10000000000000000000 := ⟨_, rfl⟩
        have hr64 : r < 10000000000000000000 := by rw [hr]; exact Nat.mod_lt _ (by omega)
        rw [← hr]
        obtain ⟨xn, hxn⟩ : ∃ a, a = xk / 10000000000000000000 := ⟨_, rfl⟩
        rw [← hxn] at g1
        obtain ⟨D, hD⟩ : ∃ D, D = Lib.decDigits r := ⟨_, rfl⟩
        obtain ⟨d1, d2⟩ := decDigits_le hr64
        rw [← hD] at d1 d2
        have hfm := fun W => fmt_any r W (Nat.lt_trans hr64 (by omega))
        rw [← hD] at hfm
        have Hfm := Lib.hid hfm
        have Hr := Lib.hid hr
        have Hxn := Lib.hid hxn
        have HD := Lib.hid hD
        clear hr64 hr hxn hr' hD hfm
        have hb1 := hbe.trans (g2.mono hbe.size)
        have ht1 : Tab w1 := htab.below hb1 (Nat.le_refl _)
        go_wp2_with fail
        refine (Hfm.out _ ht1).mono ?_
        rintro e w2 ⟨rfl, g3⟩
        have ec : (19 : Int) - (D.length : Int) = ((19 - D.length : Nat) : Int) := by omega
        go_wp2_with fail
        refine (Tryd.strings_Repeat ⟨#[48]⟩ (19 - D.length) _ (by omega) (by simp [ByteArray.size]; omega)).mono ?_
        rintro e w3 ⟨rfl, g4⟩
        have hb3 := (hb1.trans (g3.mono hb1.size)).trans (g4.mono (Nat.le_trans hb1.size g3.size))
        have hown3 := owns_below (owns_below (owns_below h5.out g2) g3) g4
        have Hlt := Lib.hid (fun g hg => (h5.out.lt g hg).2)
        have Hge := Lib.hid (fun g hg => (h5.out.lt g hg).1)
        have Hown := Lib.hid hown3
        clear hown3
        replace g1 := (g1.below g3).below g4
        obtain ⟨R, hR⟩ : ∃ R, R = Lib.repeatL (⟨#[48]⟩ : ByteArray).data.toList (19 - D.length) := ⟨_, rfl⟩
        rw [← hR]
        have hRl : R.length ≤ 19 := by rw [hR, Lib.repeatL_length, show (⟨#[48]⟩ : ByteArray).data.toList.length = 1 from rfl, Nat.mul_one]; omega
        have HR := Lib.hid hR
        clear hR g2 g3 g4 hb1 ec
        go_wp2_with (at_builtin; refine wpList_append_own _ rfl (.tmp 23) (.tmp 30) 58 rfl w.heap.size 9 i0 (.string ByteArray.empty) 1 16 Tryd.underlying58 hi hz0 hz1 hz2 rfl (by decide) _ k (ss.map S) rfl (Hown.out.alloc _) ⟨w3.heap.size, 0, none⟩ 1 1 [S (R ++ D)] rfl rfl ?c1 ?c2 ?c3 ?c4 ?c5 ?_)
        case c1 =>
          intro j u hj
          rw [bytes_append R D] at hj
          match j, hj with
          | 0, hj => simp at hj; subst hj; simp [Addr.add]
        case c2 => intro u hu; simp at hu; subst hu; rfl
        case c3 => have := Hk.out; unfold maxLen; omega
        case c4 => have := Hk.out; omega
        case c5 => have := hb3.size; simp; omega
        intro v' w4 hown4 hgrow4 _
        have Hown4 := Lib.hid hown4
        have hb4 := (hb3.alloc hb3.size _).grown hgrow4 (by have := hb3.size; simp; omega) (fun g hg => Hge.out g hg)
        replace g1 := num_grown g1 hgrow4 (fun e => by have := Hlt.out _ e.symm; omega)
        clear hown4 hgrow4 hb3
        obtain ⟨c1, c2, c3, c4, c5⟩ := text_close h2 h3 h4 h6 hxl Hxn Hr HD HR d2
        go_wp2
        exact ⟨⟨k + 1, xn, ss ++ [R ++ D], g1, c1, c2, c3, c4, c5, Lib.hid (by rw [List.map_append]; exact Hown4.out), hb4⟩, slen_step Hown4.out Hown.out Hkx.out⟩
      · have t2 : decide (10000000000000000000 ≤ (xk : Int)) = false := by simp; omega
        have hxl : Hid (xk < 10000000000000000000) := Lib.hid (by omega)
        obtain ⟨D, hD⟩ : ∃ D, D = Lib.decDigits xk := ⟨_, rfl⟩
        obtain ⟨d1, d2⟩ := decDigits_le hxl.out
        rw [← hD] at d1 d2
        have hfm := fun W => fmt_any xk W hx64
        rw [← hD] at hfm
        have Hfm := Lib.hid hfm
        have HD := Lib.hid hD
        have ht1 : Tab wr := htab.below hbe (Nat.le_refl _)
        clear hbig2 hx64 hfm hD
        go_wp2_with (go_at_call 50; refine (Hat.out _ hr').mono ?_; rintro e w1 ⟨rfl, rfl⟩)
        refine (Hfm.out _ ht1).mono ?_
        rintro e w2 ⟨rfl, g3⟩
        have hb3 := hbe.trans (g3.mono hbe.size)
        have Hge := Lib.hid (fun g hg => (h5.out.lt g hg).1)
        have Hown := Lib.hid (owns_below h5.out g3)
        go_wp2_with (at_builtin; refine wpList_append_own _ rfl (.tmp 32) (.tmp 36) 58 rfl w.heap.size 9 i0 (.string ByteArray.empty) 1 16 Tryd.underlying58 hi hz0 hz1 hz2 rfl (by decide) _ k (ss.map S) rfl (Hown.out.alloc _) ⟨w2.heap.size, 0, none⟩ 1 1 [S D] rfl rfl ?c1 ?c2 ?c3 ?c4 ?c5 ?_)
        case c1 =>
          intro j u hj
          match j, hj with
          | 0, hj => simp at hj; subst hj; simp [Addr.add]
        case c2 => intro u hu; simp at hu; subst hu; rfl
        case c3 => have := Hk.out; unfold maxLen; omega
        case c4 => have := Hk.out; omega
        case c5 => have := hb3.size; simp; omega
        intro v' w4 hown4 hgrow4 _
        obtain ⟨g, cap, rfl, hgg, hcap, hmax, hcell, hfz, hlt⟩ := own_form hown4 (by omega)
        have Hcap := Lib.hid (And.intro hcap hmax)
        have hb4 := (hb3.alloc hb3.size _).grown hgrow4 (by have := hb3.size; simp; omega) (fun g hg => Hge.out g hg)
        have Hcell := Lib.hid hcell
        have hlt4 := hlt
        clear hown4 hgrow4 hb3
        have hb1 : k + 1 ≤ 9223372036854775807 := by have := Hk.out; omega
        have hjl : (ss ++ [D]).length = k + 1 := by rw [List.length_append, h3.out]; rfl
        have Hjl := Lib.hid hjl
        clear hjl
        go_wp2_with (go_at_call 54; refine (Tryd.slices_Reverse_string_cells g 0 (k + 1) cap (fun i => ⟨((ss ++ [D]).getD i []).toArray⟩) w4 hb1 hcell hfz).mono ?_; rintro e w5 ⟨rfl, q, hw5⟩)
        have hw5 := Lib.hid hw5
        go_wp2_with fail
        have hcell4 := Hcell.out
        refine (join_rev w4 g (k + 1) cap q (ss ++ [D]) Hjl.out ?_ ?_ Hcap.out.1 hlt4 hcell4).mono ?_
        · intro s hs
          rcases List.mem_append.1 hs with hs | hs
          · exact h6.out s hs
          · rw [List.mem_singleton.1 hs]; omega
        · have := Hk.out; omega
        rintro e w6 ⟨rfl, hb6⟩
        have hb7 := below_cells (B := w.heap.size) g hgg (List.map encStr (Lib.strsOf (fun i => { data := ((ss ++ [D])[i]?.getD []).toArray }) (k + 1))).reverse 0 (below_drewN hb4 q)
        have hb8 := Lib.hid (hb7.trans (hb6.mono hb7.size))
        have et : textL x = (ss ++ [D]).reverse.flatten := by
          rw [h4.out, textL_small hxl.out, List.reverse_append, List.flatten_append, ← HD.out]
          simp
        have Het := Lib.hid et
        clear hb6 hb7 hcell4 et
        go_wp2
        go_ret
        refine ⟨?_, hb8.out⟩
        rw [Het.out]
        simp
end Go.Proofs.YtfciahfdmnnejaaDoor
