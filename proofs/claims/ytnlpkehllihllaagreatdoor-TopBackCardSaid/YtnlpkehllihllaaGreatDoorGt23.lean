/-
  A part of the proofs that calipertop.TopBack, TopFloats and TopNearest return true for every input and leave it as it was: part 23 of 47.
-/
import Derived.Test.YtnlpkehllihllaaGreatDoorGt21
import Derived.Test.YtnlpkehllihllaaGreatDoorGt10
import Derived.BigQuiet
/-
  The walks of scan.words and scan.word.
-/
namespace Go.Proofs.YtnlpkehllihllaaGreatDoor
open Go.RowKit

/-- The words by their numbers. -/
def wordAt (i : Nat) : List UInt8 := if i = 2 then [105, 110, 102] else if i = 3 then [110, 97, 110] else if i = 4 then [78, 97, 82] else []
theorem wordAt_len (i : Nat) : (wordAt i).length ≤ 3 := by
  unfold wordAt
  split
  · decide
  · split
    · decide
    · split <;> decide
abbrev wcells : Array Value := #[.string ⟨#[]⟩, .string ⟨#[]⟩, .string ⟨#[105, 110, 102]⟩, .string ⟨#[110, 97, 110]⟩, .string ⟨#[78, 97, 82]⟩]
theorem wcells_at {i : Nat} (h : i < 5) : wcells[i]? = some (.string ⟨(wordAt i).toArray⟩) := by
  obtain rfl | rfl | rfl | rfl | rfl : i = 0 ∨ i = 1 ∨ i = 2 ∨ i = 3 ∨ i = 4 := by omega
  all_goals rfl
set_option maxRecDepth 100000 in
theorem words_any (w : World) : Calls Tryz.prog 100 #[] w fun r w' => r = .returned (.slice (some ⟨w.heap.size, 0, none⟩) 5 5) ∧ w' = w.alloc (.cells wcells 9) := by
  go_enter Tryz.func100, Tryz.ntmps100
  go_wp2_with fail
  go_ret
  exact ⟨rfl, rfl⟩

theorem below_to_drewN {B n : Nat} {w w' : World} (h : Below B w w') : Below B w (w'.drewN n) := ⟨h.os, h.tape, h.output, h.size, h.block⟩
/-- What scan.word looks for: the first word that there is. -/
structure WordT (s : ByteArray) (a m : Nat) : Prop where
  at0 : a < s.size
  size : s.size ≤ 1000000
  le : m ≤ 5
  none : ∀ i, i < m → wordAt i = [] ∨ (∀ c, s.data.toList[a]? = some c → (wordAt i)[0]? ≠ some c)
  has : m < 5 → 2 ≤ m ∧ s.data.toList.drop a = wordAt m

set_option maxHeartbeats 3200000 in
set_option maxRecDepth 100000 in
/-- scan.word. -/
theorem word_any (s : ByteArray) (a m : Nat) (w : World) (h : WordT s a m) :
    Calls Tryz.prog 66 #[.string s, .int .i64 a] w fun r w' => r = .returned (if m = 5 then .tuple #[.int .i64 0, .int .i64 a, .bool false] else .tuple #[.int .i64 m, .int .i64 0, .bool true]) ∧ Below w.heap.size w w' := by
  have hat := h.at0
  have hsz := h.size
  have HH := Lib.hid h
  have hm5 := h.le
  clear h
  go_enter Tryz.func66, Tryz.ntmps66
  go_wp2_with fail
  refine (words_any _).mono ?_
  rintro r w1 ⟨rfl, hw1⟩
  have hk : Blk w1 w.heap.size 9 wcells := by rw [hw1]; exact Blk.new w _ _
  have hb : Below w.heap.size w w1 := by rw [hw1]; exact (Below.refl _ _).alloc (Nat.le_refl _) _
  have HK := Lib.hid hk
  have HB := Lib.hid hb
  clear hk hb hw1
  go_wp2_with fail
  go_loopw [5, 7, 8, 9, 13] (fun v5 v7 v8 v9 v13 wr => ∃ i : Nat, i ≤ m ∧ v5 = .int .i64 a ∧ v13 = .int .i64 i ∧ Hid (Below w1.heap.size w1 wr)) (fun _ _ _ _ v13 _ => 5 - (intOf v13).toNat)
  case atStart => exact ⟨0, by omega, rfl, rfl, Lib.hid (Below.refl _ _)⟩
  case round =>
    obtain ⟨i, him, rfl, rfl, hbe⟩ := hrel
    rcases Nat.lt_or_ge i 5 with hi5 | hi5
    · have kc : wr.cell? ⟨w.heap.size, i, none⟩ = some (.string ⟨(wordAt i).toArray⟩) := (Blk.cell (Blk.below HK.out hbe.out HK.out.lt) i).trans (wcells_at hi5)
      obtain ⟨wv, hwv⟩ : ∃ wv : ByteArray, wv = ⟨(wordAt i).toArray⟩ := ⟨_, rfl⟩
      rw [← hwv] at kc
      have hwl : wv.data.toList = wordAt i := by rw [hwv]
      have hwn : wv.size = (wordAt i).length := by rw [← size_list, hwl]
      obtain ⟨N, hN⟩ : ∃ N, N = (wordAt i).length := ⟨_, rfl⟩
      rw [← hN] at hwn
      have hN3 : N ≤ 3 := by rw [hN]; exact wordAt_len i
      have hemp : wv.toList.isEmpty = decide (N = 0) := by
        rw [← decide_eq_emptyBytes]
        refine decide_eq_decide.2 ⟨fun q => by rw [q] at hwn; simp at hwn; omega, fun q => ?_⟩
        apply ByteArray.ext
        apply Array.ext'
        have : wv.data.toList = [] := List.length_eq_zero_iff.1 (by rw [hwl, ← hN]; exact q)
        rw [this]
        rfl
      have t14 : decide ((i : Int) < 5) = true := decide_eq_true (by omega)
      have t15 : decide (i < 5) = true := decide_eq_true (by omega)
      have e13 : IntKind.i64.wrap ((i : Int) + 1) = ((i + 1 : Nat) : Int) := by rw [IntKind.wrap_i64]; omega
      have HWL := Lib.hid hwl
      have HNN := Lib.hid hN
      have hbe2 := hbe
      rcases Nat.lt_or_ge i m with hlt | hge
      · have hno := HH.out.none i hlt
        rw [← hwl] at hno
        by_cases hN0 : N = 0
        · have t21 : decide ((0 : Int) < (N : Int)) = false := decide_eq_false (by omega)
          have t22 : decide (0 < N) = false := decide_eq_false (by omega)
          have hem : wv.toList.isEmpty = true := by rw [hemp]; exact decide_eq_true hN0
          have HW := Lib.hid hem
          clear hwv hwl hN hemp hno hN0 hem
          go_wp2_with fail
          go_loopw [9] (fun v9 wq => v9 = .int .i64 0 ∧ Hid (Below w1.heap.size w1 wq)) (fun _ _ => 0)
          case atStart => exact ⟨rfl, hbe2⟩
          case round =>
            obtain ⟨rfl, hbq⟩ := hrel
            have hem := HW.out
            go_wp2_with fail
            go_quiet (fail)
            go_wp2_with fail
            rw [show (i : Int) + 1 = ((i + 1 : Nat) : Int) by omega]
            exact ⟨⟨i + 1, by omega, rfl, rfl, Lib.hid (below_to_drewN hbq.out)⟩, by simp only [intOf, Int.toNat_natCast]; omega⟩
        · obtain ⟨c, hc⟩ : ∃ c, s.data.toList[a]? = some c := ⟨_, List.getElem?_eq_getElem (by rw [size_list]; exact hat)⟩
          obtain ⟨d, hd⟩ : ∃ d, wv.data.toList[0]? = some d := ⟨_, List.getElem?_eq_getElem (by rw [size_list, hwn]; omega)⟩
          obtain ⟨hq1, hc1⟩ := byte_of hc
          obtain ⟨hq2, hd1⟩ := byte_of hd
          have hcd : c ≠ d := by
            rcases hno with q | q
            · rw [q] at hd; simp at hd
            · intro e; exact q c hc (by rw [hd, e])
          have t39 : (((c.toNat : Nat) : Int) == ((d.toNat : Nat) : Int)) = false := by
            rw [beq_eq_false_iff_ne]
            intro e
            exact hcd (UInt8.toNat_inj.1 (by omega))
          have t40 : (c.toNat == d.toNat) = false := by
            rw [beq_eq_false_iff_ne]
            intro e
            exact hcd (UInt8.toNat_inj.1 e)
          have t21 : decide ((0 : Int) < (N : Int)) = true := decide_eq_true (by omega)
          have t22 : decide (0 < N) = true := decide_eq_true (by omega)
          have e25 : IntKind.i64.wrap (a : Int) = (a : Int) := by rw [IntKind.wrap_i64]; omega
          have t28 : decide ((a : Int) < (s.size : Int)) = true := decide_eq_true (by omega)
          have t29 : decide (a < s.size) = true := decide_eq_true (by omega)
          have t50 : ((0 : Int) == (N : Int)) = false := by rw [beq_eq_false_iff_ne]; omega
          have t51 : (0 == N) = false := by rw [beq_eq_false_iff_ne]; omega
          have hem : wv.toList.isEmpty = false := by rw [hemp]; exact decide_eq_false hN0
          clear hwv hwl hN hemp hno hN0 hc hd hcd
          go_wp2_with fail
          go_loopw [9] (fun v9 wq => v9 = .int .i64 0 ∧ Hid (Below w1.heap.size w1 wq)) (fun _ _ => 0)
          case atStart => exact ⟨rfl, hbe2⟩
          case round =>
            obtain ⟨rfl, hbq⟩ := hrel
            go_wp2_with fail
            go_quiet (fail)
            go_wp2_with fail
            rw [show (i : Int) + 1 = ((i + 1 : Nat) : Int) by omega]
            exact ⟨⟨i + 1, by omega, rfl, rfl, Lib.hid (below_to_drewN hbq.out)⟩, by simp only [intOf, Int.toNat_natCast]; omega⟩
      · obtain rfl : i = m := by omega
        obtain ⟨hi2, htx⟩ := HH.out.has hi5
        have hN0 : N ≠ 0 := by
          rw [hN]
          obtain rfl | rfl | rfl : i = 2 ∨ i = 3 ∨ i = 4 := by omega
          all_goals decide
        have hsN : s.size = a + N := by rw [hN]; exact drop_end htx (by omega)
        have hem : wv.toList.isEmpty = false := by rw [hemp]; exact decide_eq_false hN0
        have hbytes : ∀ n, n < N → ∃ c : UInt8, (∃ hq : a + n < s.size, s[a + n]'hq = c) ∧ ∃ hq : n < wv.size, wv[n]'hq = c := by
          intro n hn
          have e1 : s.data.toList[a + n]? = (wordAt i)[n]? := drop_get htx n
          obtain ⟨c, hc⟩ : ∃ c, (wordAt i)[n]? = some c := ⟨_, List.getElem?_eq_getElem (by rw [← hN]; exact hn)⟩
          exact ⟨c, byte_of (by rw [e1, hc]), byte_of (by rw [hwl, hc])⟩
        have HBY := Lib.hid hbytes
        have HSN := Lib.hid hsN
        have hm5' : i ≠ 5 := by omega
        have hpost : (if i = 5 then Value.tuple #[.int .i64 0, .int .i64 a, .bool false] else .tuple #[.int .i64 i, .int .i64 0, .bool true]) = .tuple #[.int .i64 i, .int .i64 0, .bool true] := if_neg hm5'
        have HPO := Lib.hid hpost
        clear hwv hwl hN hemp htx hbytes hsN hpost
        go_wp2_with fail
        go_loopw [9] (fun v9 wq => ∃ n : Nat, n ≤ N ∧ v9 = .int .i64 n ∧ Hid (Below w1.heap.size w1 wq)) (fun v9 _ => N - (intOf v9).toNat)
        case atStart => exact ⟨0, by omega, rfl, hbe2⟩
        case round =>
          obtain ⟨n, hnN, rfl, hbq⟩ := hrel
          obtain ⟨p, hp⟩ : ∃ p, p = a + n := ⟨_, rfl⟩
          have e26 : IntKind.i64.wrap ((a : Int) + (n : Int)) = (p : Int) := by rw [IntKind.wrap_i64]; have := HSN.out; omega
          rcases Nat.lt_or_ge n N with hlt | hge2
          · obtain ⟨c, ⟨hq1, hc1⟩, ⟨hq2, hc2⟩⟩ := HBY.out n hlt
            have t21 : decide ((n : Int) < (N : Int)) = true := decide_eq_true (by omega)
            have t22 : decide (n < N) = true := decide_eq_true hlt
            have t28 : decide ((p : Int) < (s.size : Int)) = true := decide_eq_true (by have := HSN.out; omega)
            have t29 : decide (p < s.size) = true := decide_eq_true (by have := HSN.out; omega)
            obtain ⟨hq3, hc3⟩ : ∃ hq : p < s.size, s[p]'hq = c := by subst hp; exact ⟨hq1, hc1⟩
            clear hc1 hq1 hp
            have e42 : IntKind.i64.wrap ((n : Int) + 1) = ((n + 1 : Nat) : Int) := by rw [IntKind.wrap_i64]; omega
            go_wp2_with fail
            go_quiet (fail)
            go_wp2_with fail
            rw [show (n : Int) + 1 = ((n + 1 : Nat) : Int) by omega]
            exact ⟨⟨n + 1, by omega, rfl, Lib.hid (below_to_drewN hbq.out)⟩, by simp only [intOf, Int.toNat_natCast]; omega⟩
          · obtain rfl : n = N := by omega
            have t21 : decide ((n : Int) < (n : Int)) = false := decide_eq_false (by omega)
            have t22 : decide (n < n) = false := decide_eq_false (by omega)
            have t58 : ((p : Int) == (s.size : Int)) = true := by rw [beq_iff_eq]; have := HSN.out; omega
            have HBE := Lib.hid (HB.out.trans (hbq.out.mono HB.out.size))
            clear hp
            go_wp2_with fail
            go_quiet (fail)
            go_wp2_with fail
            exact bodyPost_ret (v := .tuple #[.int .i64 i, .int .i64 0, .bool true]) (by simp [results, Tryz.results66, go_sem]) rfl ⟨rfl, below_to_drewN HBE.out⟩
    · obtain rfl : i = 5 := by omega
      obtain rfl : m = 5 := by omega
      have HBE := Lib.hid (HB.out.trans (hbe.out.mono HB.out.size))
      go_wp2_with fail
      exact bodyPost_ret (v := .tuple #[.int .i64 0, .int .i64 a, .bool false]) (by simp [results, Tryz.results66, go_sem]) rfl ⟨rfl, HBE.out⟩
end Go.Proofs.YtnlpkehllihllaaGreatDoor
