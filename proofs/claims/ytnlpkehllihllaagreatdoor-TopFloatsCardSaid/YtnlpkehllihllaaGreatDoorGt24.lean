/-
  A part of the proofs that calipertop.TopBack, TopFloats and TopNearest return true for every input and leave it as it was: part 24 of 47.
-/
import Derived.Test.YtnlpkehllihllaaGreatDoorGt01
import Derived.ScopeJumps
import Derived.Test.YtnlpkehllihllaaGreatDoorGt21
import Derived.Test.YtnlpkehllihllaaGreatDoorGt10
import Derived.BigQuiet
/-
  A law of the model's steps: a scope in which the run jumps to several labels, each pass from a label lowering a measure.
-/
namespace Go.Proofs.YtnlpkehllihllaaGreatDoor
open Go

/-- As Q; by a goto to label l: J l. -/
def jumps (J : Nat → Act → World → Prop) (Q : Exit → Act → World → Prop) : Exit → Act → World → Prop
  | .goto l, a, w => J l a w
  | e, a, w => Q e a w

/-- Three labels, 0, 1 and 2; each pass from one lowers a number. -/
def three (J0 J1 J2 : Nat → Act → World → Prop) (ok : Nat → Prop) (l : Nat) (a : Act) (w : World) : Prop :=
  (l = 0 ∧ ∃ n, ok n ∧ J0 n a w) ∨ (l = 1 ∧ ∃ n, ok n ∧ J1 n a w) ∨ (l = 2 ∧ ∃ n, ok n ∧ J2 n a w)
theorem wp_scope_three {P : Program} {a : Act} {w : World} {Q : Exit → Act → World → Prop} {c c0 c1 c2 : Code} (J0 J1 J2 : Nat → Act → World → Prop)
    (h0 : findLabel c 0 = some c0) (h1 : findLabel c 1 = some c1) (h2 : findLabel c 2 = some c2)
    (first : c.wp P (jumps (three J0 J1 J2 fun _ => True) Q) a w)
    (pass0 : ∀ n a w, J0 n a w → c0.wp P (jumps (three J0 J1 J2 (· < n)) Q) a w)
    (pass1 : ∀ n a w, J1 n a w → c1.wp P (jumps (three J0 J1 J2 (· < n)) Q) a w)
    (pass2 : ∀ n a w, J2 n a w → c2.wp P (jumps (three J0 J1 J2 (· < n)) Q) a w) : (Code.scope c).wp P Q a w := by
  have key : ∀ N l a w, three J0 J1 J2 (· ≤ N) l a w → ∀ b k cs, ∃ cl, findLabel c l = some cl ∧ ∃ e a' w', Q e a' w' ∧ Arrives P (lone (b.at a (.code cl :: .inScope c :: k)) cs w) b k cs e a' w' := by
    intro N
    induction N using Nat.strongRecOn with
    | _ N ih =>
      intro l a w hJ b k cs
      have step : ∀ cl, findLabel c l = some cl → (∃ n, n ≤ N ∧ cl.wp P (jumps (three J0 J1 J2 (· < n)) Q) a w) → ∃ cl, findLabel c l = some cl ∧ ∃ e a' w', Q e a' w' ∧ Arrives P (lone (b.at a (.code cl :: .inScope c :: k)) cs w) b k cs e a' w' := by
        rintro cl hcl ⟨n, hn, hp⟩
        refine ⟨cl, hcl, ?_⟩
        obtain ⟨e, a₁, w₁, hq, harr⟩ := hp b (.inScope c :: k) cs
        cases e with
        | normal => exact ⟨.normal, a₁, w₁, hq, Steps.trans harr (.one step_inScope)⟩
        | exit id => exact ⟨.exit id, a₁, w₁, hq, fun k' hk => harr k' (by simp [exitTo, hk])⟩
        | goto l' =>
          have hq' : three J0 J1 J2 (· ≤ n - 1) l' a₁ w₁ := by
            rcases hq with ⟨hl, m, hm, hj⟩ | ⟨hl, m, hm, hj⟩ | ⟨hl, m, hm, hj⟩
            · exact .inl ⟨hl, m, by omega, hj⟩
            · exact .inr (.inl ⟨hl, m, by omega, hj⟩)
            · exact .inr (.inr ⟨hl, m, by omega, hj⟩)
          have hn0 : 0 < n := by
            rcases hq with ⟨hl, m, hm, hj⟩ | ⟨hl, m, hm, hj⟩ | ⟨hl, m, hm, hj⟩ <;> omega
          obtain ⟨cl', hcl', e₂, a₂, w₂, hq₂, harr₂⟩ := ih (n - 1) (by omega) l' a₁ w₁ hq' b k cs
          have hg : gotoIn l' (.inScope c :: k) = some (.code cl' :: .inScope c :: k) := by simp [gotoIn, hcl']
          exact ⟨e₂, a₂, w₂, hq₂, .of_steps (harr _ hg) harr₂⟩
        | ret => exact ⟨_, a₁, w₁, hq, harr⟩
        | panic ch => exact ⟨_, a₁, w₁, hq, harr⟩
        | outgrown => exact ⟨_, a₁, w₁, hq, harr⟩
      rcases hJ with ⟨rfl, n, hn, hj⟩ | ⟨rfl, n, hn, hj⟩ | ⟨rfl, n, hn, hj⟩
      · exact step c0 h0 ⟨n, hn, pass0 n a w hj⟩
      · exact step c1 h1 ⟨n, hn, pass1 n a w hj⟩
      · exact step c2 h2 ⟨n, hn, pass2 n a w hj⟩
  intro b k cs
  obtain ⟨e, a₁, w₁, hq, harr⟩ := first b (.inScope c :: k) cs
  cases e with
  | normal => exact ⟨.normal, a₁, w₁, hq, .head step_scope (Steps.trans harr (.one step_inScope))⟩
  | exit id => exact ⟨.exit id, a₁, w₁, hq, fun k' hk => .head step_scope (harr k' (by simp [exitTo, hk]))⟩
  | goto l' =>
    have hq' : ∃ N, three J0 J1 J2 (· ≤ N) l' a₁ w₁ := by
      rcases hq with ⟨hl, m, _, hj⟩ | ⟨hl, m, _, hj⟩ | ⟨hl, m, _, hj⟩
      · exact ⟨m, .inl ⟨hl, m, Nat.le_refl _, hj⟩⟩
      · exact ⟨m, .inr (.inl ⟨hl, m, Nat.le_refl _, hj⟩)⟩
      · exact ⟨m, .inr (.inr ⟨hl, m, Nat.le_refl _, hj⟩)⟩
    obtain ⟨N, hN⟩ := hq'
    obtain ⟨cl', hcl', e₂, a₂, w₂, hq₂, harr₂⟩ := key N l' a₁ w₁ hN b k cs
    have hg : gotoIn l' (.inScope c :: k) = some (.code cl' :: .inScope c :: k) := by simp [gotoIn, hcl']
    exact ⟨e₂, a₂, w₂, hq₂, .of_steps (.head step_scope (harr _ hg)) harr₂⟩
  | ret => exact ⟨_, a₁, w₁, hq, .of_steps (.one step_scope) harr⟩
  | panic ch => exact ⟨_, a₁, w₁, hq, .of_steps (.one step_scope) harr⟩
  | outgrown => exact ⟨_, a₁, w₁, hq, .of_steps (.one step_scope) harr⟩
theorem then_goto {K : Act → World → Prop} {Q : Exit → Act → World → Prop} {l : Nat} {a : Act} {w : World} (h : Q (.goto l) a w) : Exit.then K Q (.goto l) a w := h
theorem jumps_goto {J : Nat → Act → World → Prop} {Q : Exit → Act → World → Prop} {l : Nat} {a : Act} {w : World} (h : J l a w) : jumps J Q (.goto l) a w := h
theorem then_ret {K : Act → World → Prop} {Q : Exit → Act → World → Prop} {a : Act} {w : World} (h : Q .ret a w) : Exit.then K Q .ret a w := h
theorem jumps_ret {J : Nat → Act → World → Prop} {Q : Exit → Act → World → Prop} {a : Act} {w : World} (h : Q .ret a w) : jumps J Q .ret a w := h
end Go.Proofs.YtnlpkehllihllaaGreatDoor

/-
  The walk of scan.number.
-/
namespace Go.Proofs.YtnlpkehllihllaaGreatDoor
open Go.RowKit Go Go.Sort

/-- The frame of scan.number at a label; u are the slots that do not count. -/
@[reducible] def NumA (s : ByteArray) (a0 g2 g3 : Nat) (d : List UInt8) (beh beg : Int) (u : Nat → Value) : Act :=
  { tmps := #[.string s, .int .i64 a0, .pointer (some ⟨g2, 0, none⟩), .pointer (some ⟨g3, 0, none⟩), .string ⟨d.toArray⟩, .int .i64 beh, .int .i64 0, .int .i64 0, .bool false, .int .i64 beg, .int .i64 0, .func (.func 101) #[] #[.pointer (some ⟨g3, 0, none⟩), .pointer (some ⟨g2, 0, none⟩)], .bool false, u 13, u 14, u 15, u 16, u 17, u 18, u 19, u 20, u 21, u 22, u 23, u 24, u 25, u 26, u 27, u 28, u 29, u 30, u 31, u 32, u 33, u 34, u 35, u 36, u 37, u 38, u 39, u 40, u 41, u 42, u 43, u 44, u 45, u 46, u 47, u 48, u 49, u 50, u 51, u 52, u 53, u 54, u 55, u 56, u 57, u 58, u 59, u 60, u 61, u 62, u 63, u 64, u 65, u 66, u 67, u 68, u 69, u 70, u 71, u 72, u 73, u 74, u 75, u 76, u 77, u 78, u 79, u 80, u 81, u 82, u 83, u 84, u 85, u 86, u 87, u 88, u 89, u 90, u 91, u 92, u 93, u 94, u 95, u 96, u 97, u 98, u 99, u 100, u 101, u 102, u 103, u 104, u 105, u 106, u 107, u 108, u 109, u 110, u 111, u 112, u 113, u 114, u 115, u 116, u 117, u 118, u 119, u 120], defers := [] }
def NumF (s : ByteArray) (a0 g2 g3 : Nat) (d : List UInt8) (beh beg : Int) (a : Act) : Prop := a = NumA s a0 g2 g3 d beh beg (fun i => a.tmps.toList.getD i undef)
theorem NumF.elim {s : ByteArray} {a0 g2 g3 : Nat} {d : List UInt8} {beh beg : Int} {a : Act} {C : Act → Prop} (h : NumF s a0 g2 g3 d beh beg a)
    (k : ∀ u : Nat → Value, C { tmps := #[.string s, .int .i64 a0, .pointer (some ⟨g2, 0, none⟩), .pointer (some ⟨g3, 0, none⟩), .string ⟨d.toArray⟩, .int .i64 beh, .int .i64 0, .int .i64 0, .bool false, .int .i64 beg, .int .i64 0, .func (.func 101) #[] #[.pointer (some ⟨g3, 0, none⟩), .pointer (some ⟨g2, 0, none⟩)], .bool false, u 13, u 14, u 15, u 16, u 17, u 18, u 19, u 20, u 21, u 22, u 23, u 24, u 25, u 26, u 27, u 28, u 29, u 30, u 31, u 32, u 33, u 34, u 35, u 36, u 37, u 38, u 39, u 40, u 41, u 42, u 43, u 44, u 45, u 46, u 47, u 48, u 49, u 50, u 51, u 52, u 53, u 54, u 55, u 56, u 57, u 58, u 59, u 60, u 61, u 62, u 63, u 64, u 65, u 66, u 67, u 68, u 69, u 70, u 71, u 72, u 73, u 74, u 75, u 76, u 77, u 78, u 79, u 80, u 81, u 82, u 83, u 84, u 85, u 86, u 87, u 88, u 89, u 90, u 91, u 92, u 93, u 94, u 95, u 96, u 97, u 98, u 99, u 100, u 101, u 102, u 103, u 104, u 105, u 106, u 107, u 108, u 109, u 110, u 111, u 112, u 113, u 114, u 115, u 116, u 117, u 118, u 119, u 120], defers := [] }) : C a := by
  rw [show a = NumA s a0 g2 g3 d beh beg (fun i => a.tmps.toList.getD i undef) from h]
  exact k (fun i => a.tmps.toList.getD i undef)
/-- The world of scan.number at a label. -/
def NumW (s : ByteArray) (w : World) (pos : Nat) (w' : World) : Prop := Hid (Blk w' w.heap.size 9 #[.string s] ∧ Blk w' (w.heap.size + 1) 3 #[.int .i64 pos] ∧ Below w.heap.size w w')
theorem NumW.moved {s : ByteArray} {w w' : World} {p q : Nat} (h : NumW s w p w') : NumW s w q (w'.setCell ⟨w.heap.size + 1, 0, none⟩ (.int .i64 q)) :=
  Lib.hid ⟨h.out.1.far (p := ⟨w.heap.size + 1, 0, none⟩) (by show w.heap.size ≠ w.heap.size + 1; omega) _, by have := h.out.2.1.set_ 0 (.int .i64 q); simpa using this, h.out.2.2.setCell (by show w.heap.size ≤ w.heap.size + 1; omega) _⟩
theorem NumW.drew {s : ByteArray} {w w' : World} {p : Nat} (h : NumW s w p w') : NumW s w p w'.drew := Lib.hid ⟨h.out.1.drew, h.out.2.1.drew, h.out.2.2.drew⟩
theorem num_drawn {s : ByteArray} {w w' : World} {p n : Nat} (h : NumW s w p w') : Below w.heap.size w (w'.drewN n) :=
  ⟨h.out.2.2.os, h.out.2.2.tape, h.out.2.2.output, h.out.2.2.size, h.out.2.2.block⟩
theorem digit_w {s : ByteArray} {w W : World} {p : Nat} {b : Bool} (h : NumW s w p W) (hb : digB s p = b) :
    Calls Tryz.prog 101 #[.pointer (some ⟨w.heap.size + 1, 0, none⟩), .pointer (some ⟨w.heap.size, 0, none⟩)] W fun e w' => e = .returned (.bool b) ∧ w' = W := by
  subst hb
  exact digit1_any _ _ p s W (Blk.cell h.out.2.1 0) (Blk.cell h.out.1 0)


set_option maxHeartbeats 3200000 in
set_option maxRecDepth 100000 in
/-- scan.number of a number's text. -/
theorem number_any (s : ByteArray) (a0 : Nat) (d1 d2 es : List UInt8) (pt ex eg : Bool) (w : World) (h : NumT s a0 d1 pt d2 ex eg es) (hs : s.size ≤ 1000000) :
    Calls Tryz.prog 67 #[.string s, .int .i64 a0] w fun r w' => r = .returned (.tuple #[S (d1 ++ d2), .int .i64 d2.length, .int .i64 (if eg = true then -(dval es : Int) else dval es), .int .i64 s.size, .bool true]) ∧ Below w.heap.size w w' := by
  have hsz := h.size
  have hl1 : 0 < d1.length := List.length_pos_iff.2 h.ne1
  have HH := Lib.hid h
  have F0 := Lib.hid (h.first hl1)
  have W0 : NumW s w a0 ((w.alloc (.cells #[.string s] 9)).alloc (.cells #[.int .i64 a0] 3)) :=
    Lib.hid ⟨(Blk.new w _ _).alloc _, (show Blk _ ((w.alloc (.cells #[.string s] 9)).heap.size) _ _ from Blk.new _ _ _) |> (by simpa using ·), ((Below.refl _ _).alloc (Nat.le_refl _) _).alloc (by simp) _⟩
  go_enter Tryz.func67, Tryz.ntmps67
  go_wp2_with fail
  obtain ⟨wz, hwz⟩ : ∃ wz, wz = (w.alloc (.cells #[.string s] 9)).alloc (.cells #[.int .i64 a0] 3) := ⟨_, rfl⟩
  rw [← hwz] at W0 ⊢
  clear hwz
  refine wp_scope_three
    (fun n a' w' => ∃ i, i ≤ d1.length ∧ n = (d1.length - i) + d2.length + 2 ∧ NumF s a0 w.heap.size (w.heap.size + 1) [] 0 a0 a' ∧ NumW s w (a0 + i) w')
    (fun n a' w' => n = 0 ∧ ∃ beg : Int, NumF s a0 w.heap.size (w.heap.size + 1) (d1 ++ d2) d2.length beg a' ∧ NumW s w (pos2 a0 d1 pt d2) w')
    (fun n a' w' => ∃ i, 1 ≤ i ∧ i ≤ d2.length ∧ n = (d2.length - i) + 1 ∧ pt = true ∧ NumF s a0 w.heap.size (w.heap.size + 1) d1 0 (a0 + d1.length + 1 : Nat) a' ∧ NumW s w (a0 + d1.length + 1 + i) w')
    rfl rfl rfl ?first ?pass0 ?pass1 ?pass2
  case first =>
    have k2 := Blk.cell W0.out.1 0
    have k3 := Blk.cell W0.out.2.1 0
    have q3 : ∀ o, wz.frozen? ⟨w.heap.size + 1, o, none⟩ = false := fun o => Blk.frozen W0.out.2.1 o
    have e1 : IntKind.i64.wrap ((a0 : Int) + 1) = ((a0 + 1 : Nat) : Int) := by rw [IntKind.wrap_i64]; have := HH.out.at0; omega
    clear hsz h
    go_wp2_with fail
    go_step3
    go_wp2_with fail
    refine (digit_w W0 (by exact F0.out)).mono ?_
    rintro r w1 ⟨rfl, rfl⟩
    go_wp2_with fail
    go_step3
    rw [show (a0 : Int) + 1 = ((a0 + 1 : Nat) : Int) by omega]
    repeat apply then_goto
    apply jumps_goto
    refine Or.inl ⟨rfl, _, trivial, 1, hl1, rfl, ?_, W0.moved⟩
    exact (rfl : _ = _)
  case pass0 =>
    rintro n a' w' ⟨i, hi, rfl, hF, hW⟩
    refine NumF.elim (C := fun a' => Code.wp _ _ _ a' w') hF ?_
    intro u
    show Code.wp _ _ _ _ _
    clear hF
    have k2 := Blk.cell hW.out.1 0
    have k3 := Blk.cell hW.out.2.1 0
    have q3 : ∀ o, w'.frozen? ⟨w.heap.size + 1, o, none⟩ = false := fun o => Blk.frozen hW.out.2.1 o
    rcases Nat.lt_or_ge i d1.length with hlt | hge
    · obtain ⟨p, hp⟩ : ∃ p, p = a0 + i := ⟨_, rfl⟩
      rw [← hp] at hW k3
      have HFD := Lib.hid (show digB s p = true by rw [hp]; exact HH.out.first hlt)
      have HP := Lib.hid (show p + 1 = a0 + (i + 1) by omega)
      have hpb : p ≤ 1000000 := by unfold pos2 at hsz; omega
      clear hsz
      have e1 : IntKind.i64.wrap ((p : Int) + 1) = ((p + 1 : Nat) : Int) := by rw [IntKind.wrap_i64]; omega
      clear hp
      go_wp2_with fail
      refine (digit_w hW (by exact HFD.out)).mono ?_
      rintro r w1 ⟨rfl, rfl⟩
      go_wp2_with fail
      go_step3
      rw [show (p : Int) + 1 = ((p + 1 : Nat) : Int) by omega]
      repeat apply then_goto
      apply jumps_goto
      refine Or.inl ⟨rfl, _, ?_, i + 1, hlt, rfl, ?_, by rw [← HP.out]; exact hW.moved⟩
      · show _ < _
        omega
      · exact (rfl : _ = _)
    · obtain rfl : i = d1.length := by omega
      obtain ⟨p1, hp1⟩ : ∃ p1, p1 = a0 + d1.length := ⟨_, rfl⟩
      have hcut : s.extract a0 p1 = ⟨d1.toArray⟩ := by rw [hp1]; exact HH.out.cut1
      have hps : p1 ≤ s.size := by rw [hsz, hp1]; unfold pos2; omega
      have c1 : (p1 : Int) ≤ (s.size : Int) := by omega
      have c2 : (a0 : Int) ≤ (p1 : Int) := by omega
      have hst : digB s p1 = false := by rw [hp1]; exact HH.out.stop1
      rw [← hp1] at hW k3
      have HP1 := Lib.hid hp1
      cases pt
      · obtain rfl := HH.out.no2 rfl
        have hpos : pos2 a0 d1 false [] = p1 := by rw [hp1]; rfl
        rw [hpos] at hsz
        clear hp1
        cases ex
        · have t7 : ((p1 : Int) == (s.size : Int)) = true := by
            rw [beq_iff_eq]
            simp at hsz
            omega
          clear hsz
          go_wp2_with fail
          refine (digit_w hW (by exact hst)).mono ?_
          rintro r w1 ⟨rfl, rfl⟩
          go_wp2_with fail
          go_step3
          repeat apply then_goto
          apply jumps_goto
          refine Or.inr (Or.inl ⟨rfl, 0, by show 0 < _; omega, rfl, a0, ?_, by rw [hpos]; exact hW⟩)
          rw [List.append_nil]
          exact (rfl : _ = _)
        · obtain ⟨hlt, hc⟩ := HH.out.expo
          have t7 : ((p1 : Int) == (s.size : Int)) = false := by
            rw [hpos] at hlt
            rw [beq_eq_false_iff_ne]
            omega
          have hc2 : ∃ hq : p1 < s.size, s[p1]'hq = 101 := by rw [← hpos]; exact ⟨hlt, hc⟩
          obtain ⟨hq, hc2⟩ := hc2
          obtain ⟨c, hcv⟩ : ∃ c : UInt8, c = 101 := ⟨_, rfl⟩
          rw [← hcv] at hc2
          have t8 : (((c.toNat : Nat) : Int) != 46) = true := by rw [hcv]; rfl
          clear hc hcv hlt hsz
          go_wp2_with fail
          refine (digit_w hW (by exact hst)).mono ?_
          rintro r w1 ⟨rfl, rfl⟩
          go_wp2_with fail
          go_step3
          repeat apply then_goto
          apply jumps_goto
          refine Or.inr (Or.inl ⟨rfl, 0, by show 0 < _; omega, rfl, a0, ?_, by rw [hpos]; exact hW⟩)
          rw [List.append_nil]
          exact (rfl : _ = _)
      · obtain ⟨hq, hc2⟩ := HH.out.point
        have hc3 : ∃ hq : p1 < s.size, s[p1]'hq = 46 := by rw [hp1]; exact ⟨hq, hc2⟩
        clear hc2 hq
        obtain ⟨hq, hc2⟩ := hc3
        obtain ⟨c, hcv⟩ : ∃ c : UInt8, c = 46 := ⟨_, rfl⟩
        rw [← hcv] at hc2
        have t7 : ((p1 : Int) == (s.size : Int)) = false := by rw [beq_eq_false_iff_ne]; omega
        have t8 : (((c.toNat : Nat) : Int) != 46) = false := by rw [hcv]; rfl
        have hl2 : 0 < d2.length := List.length_pos_iff.2 (HH.out.ne2 rfl)
        obtain ⟨p2, hp2⟩ : ∃ p2, p2 = p1 + 1 := ⟨_, rfl⟩
        have HFD := Lib.hid (show digB s p2 = true by have := HH.out.second hl2; rw [← hp1] at this; rw [hp2]; exact this)
        have HP := Lib.hid (show p2 = a0 + d1.length + 1 by rw [hp2, hp1])
        have ep : (p1 : Int) + 1 = (p2 : Int) := by omega
        have HEP := Lib.hid ep
        have e1 : IntKind.i64.wrap ((p1 : Int) + 1) = (p2 : Int) := by rw [IntKind.wrap_i64]; omega
        have e2 : IntKind.i64.wrap ((p2 : Int) + 1) = ((p2 + 1 : Nat) : Int) := by rw [IntKind.wrap_i64]; omega
        have hp2b : p2 ≤ 1000001 := by omega
        clear hp1 hcv hsz hp2 ep
        go_wp2_with fail
        refine (digit_w hW (by exact hst)).mono ?_
        rintro r w1 ⟨rfl, rfl⟩
        have hW1 : NumW s w p2 _ := hW.moved (q := p2)
        go_wp2_with fail
        go_step3
        try rw [HEP.out]
        obtain ⟨wm, hwm⟩ : ∃ wm, wm = w1.setCell ⟨w.heap.size + 1, 0, none⟩ (.int .i64 (p2 : Int)) := ⟨_, rfl⟩
        rw [← hwm] at hW1 ⊢
        clear hwm e1 k2 k3 q3
        have k2 := Blk.cell hW1.out.1 0
        have k3 := Blk.cell hW1.out.2.1 0
        have q3 : ∀ o, wm.frozen? ⟨w.heap.size + 1, o, none⟩ = false := fun o => Blk.frozen hW1.out.2.1 o
        go_wp2_with fail
        refine (digit_w hW1 (by exact HFD.out)).mono ?_
        rintro r w2 ⟨rfl, rfl⟩
        go_wp2_with fail
        go_step3
        rw [show (p2 : Int) + 1 = ((p2 + 1 : Nat) : Int) by omega]
        repeat apply then_goto
        apply jumps_goto
        refine Or.inr (Or.inr ⟨rfl, (d2.length - 1) + 1, ?_, 1, Nat.le_refl _, hl2, rfl, rfl, ?_, by rw [← HP.out]; exact hW1.moved⟩)
        · show _ < _
          omega
        · rw [← HP.out]
          exact (rfl : _ = _)
  case pass1 =>
    rintro n a' w' ⟨rfl, beg, hF, hW⟩
    refine NumF.elim (C := fun a' => Code.wp _ _ _ a' w') hF ?_
    intro u
    show Code.wp _ _ _ _ _
    clear hF
    obtain ⟨dg, hdg⟩ : ∃ dg : ByteArray, dg = ⟨(d1 ++ d2).toArray⟩ := ⟨_, rfl⟩
    rw [← hdg]
    have k2 := Blk.cell hW.out.1 0
    have k3 := Blk.cell hW.out.2.1 0
    have q3 : ∀ o, w'.frozen? ⟨w.heap.size + 1, o, none⟩ = false := fun o => Blk.frozen hW.out.2.1 o
    have hne : dg.size ≠ 0 := by
      rw [hdg, show (⟨(d1 ++ d2).toArray⟩ : ByteArray).size = (d1 ++ d2).toArray.size from rfl, List.size_toArray, List.length_append]
      omega
    have hemp : dg.toList.isEmpty = false := by
      rw [← decide_eq_emptyBytes]
      exact decide_eq_false (fun h => hne (by rw [h]; rfl))
    obtain ⟨P, hP⟩ : ∃ P, P = pos2 a0 d1 pt d2 := ⟨_, rfl⟩
    rw [← hP] at hW k3 hsz
    obtain ⟨N, hN⟩ : ∃ N, N = d2.length := ⟨_, rfl⟩
    rw [← hN]
    have HDG := Lib.hid hdg
    have HN := Lib.hid hN
    have HPP := Lib.hid hP
    clear hne hdg hN hP h F0 hl1
    cases ex
    · obtain ⟨he0, hg0⟩ := HH.out.no3 rfl
      have hPs : P = s.size := by simp at hsz; omega
      have t16 : decide ((P : Int) < (s.size : Int)) = false := by simp; omega
      have t17 : decide (P < s.size) = false := by simp; omega
      have t29 : ((P : Int) == (s.size : Int)) = true := by rw [beq_iff_eq]; omega
      have HR := Lib.hid (show (if eg = true then -(dval es : Int) else dval es) = 0 by rw [hg0, he0]; rfl)
      have HPS := Lib.hid hPs
      clear hsz hPs he0 hg0
      go_wp2_with fail
      go_quiet (fail)
      go_wp2_with fail
      first | apply jumps_ret | (apply then_ret; apply jumps_ret) | (apply then_ret; apply then_ret; apply jumps_ret)
      refine bodyPost_ret (v := .tuple #[.string dg, .int .i64 N, .int .i64 0, .int .i64 P, .bool true]) (by simp [results, Tryz.results67, go_sem]) rfl ⟨?_, ?_⟩
      · rw [HDG.out, HR.out, HPS.out, HN.out]
      · exact num_drawn hW
    · obtain ⟨hlt, hc⟩ := HH.out.expo
      obtain ⟨hq, hc2⟩ : ∃ hq : P < s.size, s[P]'hq = 101 := by have e := HPP.out; subst e; exact ⟨hlt, hc⟩
      clear hlt hc
      obtain ⟨c, hcv⟩ : ∃ c : UInt8, c = 101 := ⟨_, rfl⟩
      rw [← hcv] at hc2
      have t16 : decide ((P : Int) < (s.size : Int)) = true := by simp; omega
      have t17 : decide (P < s.size) = true := by simp; omega
      have t18 : (((c.toNat : Nat) : Int) == 101) = true := by rw [hcv]; rfl
      obtain ⟨p1, hp1⟩ : ∃ p1, p1 = P + 1 := ⟨_, rfl⟩
      have hb1 : p1 ≤ 1000001 := by omega
      have HP1 := Lib.hid hp1
      have HEP := Lib.hid (show (P : Int) + 1 = (p1 : Int) by omega)
      have e1 : IntKind.i64.wrap ((P : Int) + 1) = (p1 : Int) := by rw [IntKind.wrap_i64]; omega
      have hes : 0 < es.length := List.length_pos_iff.2 (HH.out.ne3 rfl)
      have hsx := HH.out.stop3
      rw [← HPP.out] at hsx
      have HSX := Lib.hid hsx
      have hW1 : NumW s w p1 _ := hW.moved (q := p1)
      cases eg
      · have hp1s : p1 < s.size := by simp at hsx; omega
        obtain ⟨hq1, hc1⟩ : ∃ hq : p1 < s.size, s[p1]'hq = es[0] := by
          obtain ⟨x, y⟩ := HH.out.power (i := 0) hes
          have e := HPP.out
          subst e
          subst hp1
          exact ⟨x, y⟩
        have hd0 := HH.out.dig3 _ (List.getElem_mem hes)
        obtain ⟨c1, hc1v⟩ : ∃ c1 : UInt8, c1 = es[0] := ⟨_, rfl⟩
        rw [← hc1v] at hc1 hd0
        have t19 : decide ((p1 : Int) < (s.size : Int)) = true := by simp; omega
        have t20 : decide (p1 < s.size) = true := by simp; omega
        have t21 : (((c1.toNat : Nat) : Int) == 43) = false := by rw [beq_eq_false_iff_ne]; have := hd0.1; omega
        have t22 : (((c1.toNat : Nat) : Int) == 45) = false := by rw [beq_eq_false_iff_ne]; have := hd0.1; omega
        clear hp1 hcv hsx hsz hc1v hd0
        go_upto_if 67 with (fail)
        go_upto_region 18 with (fail)
        try rw [HEP.out]
        obtain ⟨wm, hwm⟩ : ∃ wm, wm = w'.setCell ⟨w.heap.size + 1, 0, none⟩ (.int .i64 (p1 : Int)) := ⟨_, rfl⟩
        rw [← hwm] at hW1 ⊢
        clear hwm e1 k2 k3 q3 t16 t17 t18 hc2
        have k2 := Blk.cell hW1.out.1 0
        have k3 := Blk.cell hW1.out.2.1 0
        have q3 : ∀ o, wm.frozen? ⟨w.heap.size + 1, o, none⟩ = false := fun o => Blk.frozen hW1.out.2.1 o
        go_wp2_with fail
        go_loopw [6] (fun e wr => ∃ j x : Nat, j ≤ es.length ∧ e = .int .i64 x ∧ Hid (x = dval (es.take j)) ∧ NumW s w (p1 + j) wr) (fun _ wr => s.size - (intOf ((wr.cell? ⟨w.heap.size + 1, 0, none⟩).getD undef)).toNat)
        case atStart => exact ⟨0, 0, by omega, rfl, Lib.hid rfl, hW1⟩
        case round =>
          obtain ⟨j, x, hj, rfl, hx, hWr⟩ := hrel
          have k2 := Blk.cell hWr.out.1 0
          have k3 := Blk.cell hWr.out.2.1 0
          have q3 : ∀ o, wr.frozen? ⟨w.heap.size + 1, o, none⟩ = false := fun o => Blk.frozen hWr.out.2.1 o
          obtain ⟨pj, hpj⟩ : ∃ pj, pj = p1 + j := ⟨_, rfl⟩
          rw [← hpj] at hWr k3
          rcases Nat.lt_or_ge j es.length with hlt | hge
          · obtain ⟨hqj, hcj⟩ : ∃ hq : pj < s.size, s[pj]'hq = es[j] := by
              obtain ⟨a, b⟩ := HH.out.power (i := j) hlt
              have e1 := HPP.out
              have e2 := HP1.out
              subst e1 e2 hpj
              exact ⟨a, b⟩
            have HFD := Lib.hid (show digB s pj = true by
              have a := HH.out.more hlt
              rw [← HPP.out] at a
              have e2 := HP1.out
              subst e2 hpj
              exact a)
            have hdj := HH.out.dig3 _ (List.getElem_mem hlt)
            have hy := dval_take hlt
            have hyb := dval_take_lt HH.out.dig3 HH.out.short (j + 1)
            rw [← hx.out] at hy
            obtain ⟨cj, hcjv⟩ : ∃ cj : UInt8, cj = es[j] := ⟨_, rfl⟩
            rw [← hcjv] at hcj hdj hy
            obtain ⟨y, hyv⟩ : ∃ y, y = dval (es.take (j + 1)) := ⟨_, rfl⟩
            rw [← hyv] at hy hyb
            have HY := Lib.hid hyv
            obtain ⟨v, hv⟩ : ∃ v, v = cj.toNat - 48 := ⟨_, rfl⟩
            rw [← hv] at hy
            have hdj1 := hdj.1
            have hdj2 := hdj.2
            have g2 : IntKind.u8.wrap ((cj.toNat : Int) - 48) = (v : Int) := by rw [IntKind.wrap_u8]; omega
            have g3 : IntKind.i64.wrap (v : Int) = (v : Int) := by rw [IntKind.wrap_i64]; omega
            have g1 : IntKind.i64.wrap (10 * (x : Int)) = 10 * (x : Int) := by rw [IntKind.wrap_i64]; omega
            have g4 : IntKind.i64.wrap (10 * (x : Int) + (v : Int)) = (y : Int) := by rw [IntKind.wrap_i64]; omega
            have g5 : (y : Int) ≤ 1125899906842624 := by omega
            have HPJ := Lib.hid hpj
            have hpjb : pj ≤ 1000001 := by omega
            have g6 : IntKind.i64.wrap ((pj : Int) + 1) = ((pj + 1 : Nat) : Int) := by rw [IntKind.wrap_i64]; omega
            clear hpj hyv hcjv hy hyb hdj hv hdj1 hdj2
            go_wp2_with fail
            refine (digit_w hWr (by exact HFD.out)).mono ?_
            rintro r w1 ⟨rfl, rfl⟩
            go_wp2_with fail
            rw [show (pj : Int) + 1 = ((pj + 1 : Nat) : Int) by omega, Int.min_eq_left g5]
            have hWn := hWr.moved (q := pj + 1)
            have en : p1 + (j + 1) = pj + 1 := by have a := HPJ.out; omega
            refine ⟨⟨j + 1, y, hlt, rfl, Lib.hid HY.out, by rw [en]; exact hWn⟩, ?_⟩
            rw [Blk.cell hWn.out.2.1 0, k3]
            show s.size - (intOf (.int .i64 ((pj + 1 : Nat) : Int))).toNat < s.size - (intOf (.int .i64 (pj : Int))).toNat
            simp only [intOf, Int.toNat_natCast]
            omega
          · obtain rfl : j = es.length := by omega
            have HFD := Lib.hid (show digB s pj = false by
              refine digB_end s ?_
              have a := HSX.out
              have e2 := HP1.out
              simp at a
              omega)
            have t25 : ((pj : Int) == (p1 : Int)) = false := by rw [beq_eq_false_iff_ne]; omega
            have t29 : ((pj : Int) == (s.size : Int)) = true := by
              have a := HSX.out
              have e2 := HP1.out
              simp at a
              rw [beq_iff_eq]
              omega
            clear hpj
            go_wp2_with fail
            refine (digit_w hWr (by exact HFD.out)).mono ?_
            rintro r w1 ⟨rfl, rfl⟩
            have HX := Lib.hid (show x = dval es by have a := hx.out; rwa [List.take_length] at a)
            have HPS := Lib.hid (show pj = s.size by rw [beq_iff_eq] at t29; omega)
            have hxb : x < 1000000 := by have a := dval_take_lt HH.out.dig3 HH.out.short es.length; rw [← hx.out] at a; exact a
            have gn : IntKind.i64.wrap (-(x : Int)) = -(x : Int) := by rw [IntKind.wrap_i64]; omega
            go_wp2_with fail
            go_quiet (fail)
            go_wp2_with fail
            first | apply jumps_ret | (apply then_ret; apply jumps_ret) | (apply then_ret; apply then_ret; apply jumps_ret)
            refine bodyPost_ret (v := .tuple #[.string dg, .int .i64 N, .int .i64 x, .int .i64 pj, .bool true]) (by simp [results, Tryz.results67, go_sem]) rfl ⟨?_, ?_⟩
            · rw [HDG.out, HPS.out, HN.out, HX.out]
              rfl
            · exact num_drawn hWr
      · have hp1s : p1 < s.size := by simp at hsx; omega
        obtain ⟨hq1, hc1⟩ : ∃ hq : p1 < s.size, s[p1]'hq = 45 := by
          obtain ⟨x, y⟩ := HH.out.minus
          have e := HPP.out
          subst e
          subst hp1
          exact ⟨x, y⟩
        obtain ⟨c1, hc1v⟩ : ∃ c1 : UInt8, c1 = 45 := ⟨_, rfl⟩
        rw [← hc1v] at hc1
        have t19 : decide ((p1 : Int) < (s.size : Int)) = true := by simp; omega
        have t20 : decide (p1 < s.size) = true := by simp; omega
        have t21 : (((c1.toNat : Nat) : Int) == 43) = false := by rw [hc1v]; rfl
        have t22 : (((c1.toNat : Nat) : Int) == 45) = true := by rw [hc1v]; rfl
        obtain ⟨p2, hp2⟩ : ∃ p2, p2 = p1 + 1 := ⟨_, rfl⟩
        have HP2 := Lib.hid (show p2 = P + 1 + 1 by omega)
        have HEP2 := Lib.hid (show (p1 : Int) + 1 = (p2 : Int) by omega)
        have e2 : IntKind.i64.wrap ((p1 : Int) + 1) = (p2 : Int) := by rw [IntKind.wrap_i64]; omega
        have hW2 : NumW s w p2 _ := hW1.moved (q := p2)
        clear hp1 hcv hsx hsz hc1v hp2
        go_upto_if 67 with (fail)
        go_upto_region 18 with (fail)
        try rw [HEP.out]
        obtain ⟨wm, hwm⟩ : ∃ wm, wm = w'.setCell ⟨w.heap.size + 1, 0, none⟩ (.int .i64 (p1 : Int)) := ⟨_, rfl⟩
        rw [← hwm] at hW1 hW2 ⊢
        clear hwm e1 k2 k3 q3 t16 t17 t18 hc2
        have k2 := Blk.cell hW1.out.1 0
        have k3 := Blk.cell hW1.out.2.1 0
        have q3 : ∀ o, wm.frozen? ⟨w.heap.size + 1, o, none⟩ = false := fun o => Blk.frozen hW1.out.2.1 o
        go_upto_region 21 with (fail)
        try rw [HEP2.out]
        obtain ⟨wn, hwn⟩ : ∃ wn, wn = wm.setCell ⟨w.heap.size + 1, 0, none⟩ (.int .i64 (p2 : Int)) := ⟨_, rfl⟩
        rw [← hwn] at hW2 ⊢
        clear hwn e2 k2 k3 q3 t19 t20 t21 t22 hc1
        have k2 := Blk.cell hW2.out.1 0
        have k3 := Blk.cell hW2.out.2.1 0
        have q3 : ∀ o, wn.frozen? ⟨w.heap.size + 1, o, none⟩ = false := fun o => Blk.frozen hW2.out.2.1 o
        go_wp2_with fail
        go_loopw [6] (fun e wr => ∃ j x : Nat, j ≤ es.length ∧ e = .int .i64 x ∧ Hid (x = dval (es.take j)) ∧ NumW s w (p2 + j) wr) (fun _ wr => s.size - (intOf ((wr.cell? ⟨w.heap.size + 1, 0, none⟩).getD undef)).toNat)
        case atStart => exact ⟨0, 0, by omega, rfl, Lib.hid rfl, hW2⟩
        case round =>
          obtain ⟨j, x, hj, rfl, hx, hWr⟩ := hrel
          have k2 := Blk.cell hWr.out.1 0
          have k3 := Blk.cell hWr.out.2.1 0
          have q3 : ∀ o, wr.frozen? ⟨w.heap.size + 1, o, none⟩ = false := fun o => Blk.frozen hWr.out.2.1 o
          obtain ⟨pj, hpj⟩ : ∃ pj, pj = p2 + j := ⟨_, rfl⟩
          rw [← hpj] at hWr k3
          rcases Nat.lt_or_ge j es.length with hlt | hge
          · obtain ⟨hqj, hcj⟩ : ∃ hq : pj < s.size, s[pj]'hq = es[j] := by
              obtain ⟨a, b⟩ := HH.out.power (i := j) hlt
              have e1 := HPP.out
              have e2 := HP2.out
              subst e1 e2 hpj
              exact ⟨a, b⟩
            have HFD := Lib.hid (show digB s pj = true by
              have a := HH.out.more hlt
              rw [← HPP.out] at a
              have e2 := HP2.out
              subst e2 hpj
              exact a)
            have hdj := HH.out.dig3 _ (List.getElem_mem hlt)
            have hy := dval_take hlt
            have hyb := dval_take_lt HH.out.dig3 HH.out.short (j + 1)
            rw [← hx.out] at hy
            obtain ⟨cj, hcjv⟩ : ∃ cj : UInt8, cj = es[j] := ⟨_, rfl⟩
            rw [← hcjv] at hcj hdj hy
            obtain ⟨y, hyv⟩ : ∃ y, y = dval (es.take (j + 1)) := ⟨_, rfl⟩
            rw [← hyv] at hy hyb
            have HY := Lib.hid hyv
            obtain ⟨v, hv⟩ : ∃ v, v = cj.toNat - 48 := ⟨_, rfl⟩
            rw [← hv] at hy
            have hdj1 := hdj.1
            have hdj2 := hdj.2
            have g2 : IntKind.u8.wrap ((cj.toNat : Int) - 48) = (v : Int) := by rw [IntKind.wrap_u8]; omega
            have g3 : IntKind.i64.wrap (v : Int) = (v : Int) := by rw [IntKind.wrap_i64]; omega
            have g1 : IntKind.i64.wrap (10 * (x : Int)) = 10 * (x : Int) := by rw [IntKind.wrap_i64]; omega
            have g4 : IntKind.i64.wrap (10 * (x : Int) + (v : Int)) = (y : Int) := by rw [IntKind.wrap_i64]; omega
            have g5 : (y : Int) ≤ 1125899906842624 := by omega
            have HPJ := Lib.hid hpj
            have hpjb : pj ≤ 1000001 := by omega
            have g6 : IntKind.i64.wrap ((pj : Int) + 1) = ((pj + 1 : Nat) : Int) := by rw [IntKind.wrap_i64]; omega
            clear hpj hyv hcjv hy hyb hdj hv hdj1 hdj2
            go_wp2_with fail
            refine (digit_w hWr (by exact HFD.out)).mono ?_
            rintro r w1 ⟨rfl, rfl⟩
            go_wp2_with fail
            rw [show (pj : Int) + 1 = ((pj + 1 : Nat) : Int) by omega, Int.min_eq_left g5]
            have hWn := hWr.moved (q := pj + 1)
            have en : p2 + (j + 1) = pj + 1 := by have a := HPJ.out; omega
            refine ⟨⟨j + 1, y, hlt, rfl, Lib.hid HY.out, by rw [en]; exact hWn⟩, ?_⟩
            rw [Blk.cell hWn.out.2.1 0, k3]
            show s.size - (intOf (.int .i64 ((pj + 1 : Nat) : Int))).toNat < s.size - (intOf (.int .i64 (pj : Int))).toNat
            simp only [intOf, Int.toNat_natCast]
            omega
          · obtain rfl : j = es.length := by omega
            have HFD := Lib.hid (show digB s pj = false by
              refine digB_end s ?_
              have a := HSX.out
              have e2 := HP2.out
              simp at a
              omega)
            have t25 : ((pj : Int) == (p2 : Int)) = false := by rw [beq_eq_false_iff_ne]; omega
            have t29 : ((pj : Int) == (s.size : Int)) = true := by
              have a := HSX.out
              have e2 := HP2.out
              simp at a
              rw [beq_iff_eq]
              omega
            clear hpj
            go_wp2_with fail
            refine (digit_w hWr (by exact HFD.out)).mono ?_
            rintro r w1 ⟨rfl, rfl⟩
            have HX := Lib.hid (show x = dval es by have a := hx.out; rwa [List.take_length] at a)
            have HPS := Lib.hid (show pj = s.size by rw [beq_iff_eq] at t29; omega)
            have hxb : x < 1000000 := by have a := dval_take_lt HH.out.dig3 HH.out.short es.length; rw [← hx.out] at a; exact a
            have gn : IntKind.i64.wrap (-(x : Int)) = -(x : Int) := by rw [IntKind.wrap_i64]; omega
            go_wp2_with fail
            go_quiet (fail)
            go_wp2_with fail
            first | apply jumps_ret | (apply then_ret; apply jumps_ret) | (apply then_ret; apply then_ret; apply jumps_ret)
            refine bodyPost_ret (v := .tuple #[.string dg, .int .i64 N, .int .i64 (-(x : Int)), .int .i64 pj, .bool true]) (by simp [results, Tryz.results67, go_sem]) rfl ⟨?_, ?_⟩
            · rw [HDG.out, HPS.out, HN.out, HX.out]
              rfl
            · exact num_drawn hWr
  case pass2 =>
    rintro n a' w' ⟨i, hi1, hi, rfl, rfl, hF, hW⟩
    refine NumF.elim (C := fun a' => Code.wp _ _ _ a' w') hF ?_
    intro u
    show Code.wp _ _ _ _ _
    clear hF
    have k2 := Blk.cell hW.out.1 0
    have k3 := Blk.cell hW.out.2.1 0
    have q3 : ∀ o, w'.frozen? ⟨w.heap.size + 1, o, none⟩ = false := fun o => Blk.frozen hW.out.2.1 o
    obtain ⟨b, hb⟩ : ∃ b, b = a0 + d1.length + 1 := ⟨_, rfl⟩
    have HB := Lib.hid hb
    have hszb : s.size ≥ b + d2.length := by unfold pos2 at hsz; rw [if_pos rfl] at hsz; omega
    rcases Nat.lt_or_ge i d2.length with hlt | hge
    · have HFD := Lib.hid (HH.out.second hlt)
      rw [← hb] at hW k3 HFD ⊢
      obtain ⟨p, hp⟩ : ∃ p, p = b + i := ⟨_, rfl⟩
      rw [← hp] at hW k3 HFD
      have HP := Lib.hid (show p + 1 = b + (i + 1) by omega)
      have hpb : p ≤ 1000000 := by omega
      have e1 : IntKind.i64.wrap ((p : Int) + 1) = ((p + 1 : Nat) : Int) := by rw [IntKind.wrap_i64]; omega
      clear hp hsz hb hszb h
      go_wp2_with fail
      refine (digit_w hW (by exact HFD.out)).mono ?_
      rintro r w1 ⟨rfl, rfl⟩
      go_wp2_with fail
      go_step3
      rw [show (p : Int) + 1 = ((p + 1 : Nat) : Int) by omega]
      repeat apply then_goto
      apply jumps_goto
      refine Or.inr (Or.inr ⟨rfl, _, ?_, i + 1, by omega, hlt, rfl, rfl, ?_, by rw [← HP.out]; exact hW.moved⟩)
      · show _ < _
        omega
      · exact (rfl : _ = _)
    · obtain rfl : i = d2.length := by omega
      have hpos : a0 + d1.length + 1 + d2.length = pos2 a0 d1 true d2 := by unfold pos2; rw [if_pos rfl]; omega
      obtain ⟨PP, hPP⟩ : ∃ PP, PP = pos2 a0 d1 true d2 := ⟨_, rfl⟩
      have HFD := Lib.hid (show digB s PP = false by rw [hPP]; exact HH.out.stop2)
      have hcut : s.extract b PP = ⟨d2.toArray⟩ := by rw [hPP, ← hpos, hb]; exact HH.out.cut2
      have hcat := bytes_cat d1 d2
      rw [hpos, ← hPP] at hW k3
      rw [← hb]
      have c1 : (PP : Int) ≤ (s.size : Int) := by omega
      have c2 : (b : Int) ≤ (PP : Int) := by omega
      have hbN : PP = b + d2.length := by omega
      obtain ⟨N2, hN2⟩ : ∃ N2, N2 = d2.length := ⟨_, rfl⟩
      have e3 : IntKind.i64.wrap ((PP : Int) - (b : Int)) = (N2 : Int) := by rw [IntKind.wrap_i64]; omega
      have hno : ¬ 9223372036854775807 < d1.length + d2.length := by omega
      have HPP2 := Lib.hid hPP
      have HN2 := Lib.hid hN2
      have HSZ2 := Lib.hid hsz
      clear hsz hb hszb h hpos hPP hbN hN2 hge hi hi1
      go_wp2_with fail
      refine (digit_w hW (by exact HFD.out)).mono ?_
      rintro r w' ⟨rfl, rfl⟩
      go_wp2_with fail
      go_step3
      have hsz := HSZ2.out
      have h := HH.out
      rw [HN2.out]
      rw [HPP2.out] at hW
      clear k2 k3 q3 HPP2 HN2 HSZ2 e3 c1 c2 hcut hcat hno
      obtain ⟨beg, hbeg⟩ : ∃ beg : Int, beg = (b : Int) := ⟨_, rfl⟩
      clear hbeg
      obtain ⟨dg, hdg⟩ : ∃ dg : ByteArray, dg = ⟨(d1 ++ d2).toArray⟩ := ⟨_, rfl⟩
      rw [← hdg]
      have k2 := Blk.cell hW.out.1 0
      have k3 := Blk.cell hW.out.2.1 0
      have q3 : ∀ o, w'.frozen? ⟨w.heap.size + 1, o, none⟩ = false := fun o => Blk.frozen hW.out.2.1 o
      have hne : dg.size ≠ 0 := by
        rw [hdg, show (⟨(d1 ++ d2).toArray⟩ : ByteArray).size = (d1 ++ d2).toArray.size from rfl, List.size_toArray, List.length_append]
        omega
      have hemp : dg.toList.isEmpty = false := by
        rw [← decide_eq_emptyBytes]
        exact decide_eq_false (fun h => hne (by rw [h]; rfl))
      obtain ⟨P, hP⟩ : ∃ P, P = pos2 a0 d1 true d2 := ⟨_, rfl⟩
      rw [← hP] at hW k3 hsz
      obtain ⟨N, hN⟩ : ∃ N, N = d2.length := ⟨_, rfl⟩
      rw [← hN]
      have HDG := Lib.hid hdg
      have HN := Lib.hid hN
      have HPP := Lib.hid hP
      clear hne hdg hN hP h F0 hl1
      cases ex
      · obtain ⟨he0, hg0⟩ := HH.out.no3 rfl
        have hPs : P = s.size := by simp at hsz; omega
        have t16 : decide ((P : Int) < (s.size : Int)) = false := by simp; omega
        have t17 : decide (P < s.size) = false := by simp; omega
        have t29 : ((P : Int) == (s.size : Int)) = true := by rw [beq_iff_eq]; omega
        have HR := Lib.hid (show (if eg = true then -(dval es : Int) else dval es) = 0 by rw [hg0, he0]; rfl)
        have HPS := Lib.hid hPs
        clear hsz hPs he0 hg0
        go_wp2_with fail
        go_quiet (fail)
        go_wp2_with fail
        first | apply jumps_ret | (apply then_ret; apply jumps_ret) | (apply then_ret; apply then_ret; apply jumps_ret)
        refine bodyPost_ret (v := .tuple #[.string dg, .int .i64 N, .int .i64 0, .int .i64 P, .bool true]) (by simp [results, Tryz.results67, go_sem]) rfl ⟨?_, ?_⟩
        · rw [HDG.out, HR.out, HPS.out, HN.out]
        · exact num_drawn hW
      · obtain ⟨hlt, hc⟩ := HH.out.expo
        obtain ⟨hq, hc2⟩ : ∃ hq : P < s.size, s[P]'hq = 101 := by have e := HPP.out; subst e; exact ⟨hlt, hc⟩
        clear hlt hc
        obtain ⟨c, hcv⟩ : ∃ c : UInt8, c = 101 := ⟨_, rfl⟩
        rw [← hcv] at hc2
        have t16 : decide ((P : Int) < (s.size : Int)) = true := by simp; omega
        have t17 : decide (P < s.size) = true := by simp; omega
        have t18 : (((c.toNat : Nat) : Int) == 101) = true := by rw [hcv]; rfl
        obtain ⟨p1, hp1⟩ : ∃ p1, p1 = P + 1 := ⟨_, rfl⟩
        have hb1 : p1 ≤ 1000001 := by omega
        have HP1 := Lib.hid hp1
        have HEP := Lib.hid (show (P : Int) + 1 = (p1 : Int) by omega)
        have e1 : IntKind.i64.wrap ((P : Int) + 1) = (p1 : Int) := by rw [IntKind.wrap_i64]; omega
        have hes : 0 < es.length := List.length_pos_iff.2 (HH.out.ne3 rfl)
        have hsx := HH.out.stop3
        rw [← HPP.out] at hsx
        have HSX := Lib.hid hsx
        have hW1 : NumW s w p1 _ := hW.moved (q := p1)
        cases eg
        · have hp1s : p1 < s.size := by simp at hsx; omega
          obtain ⟨hq1, hc1⟩ : ∃ hq : p1 < s.size, s[p1]'hq = es[0] := by
            obtain ⟨x, y⟩ := HH.out.power (i := 0) hes
            have e := HPP.out
            subst e
            subst hp1
            exact ⟨x, y⟩
          have hd0 := HH.out.dig3 _ (List.getElem_mem hes)
          obtain ⟨c1, hc1v⟩ : ∃ c1 : UInt8, c1 = es[0] := ⟨_, rfl⟩
          rw [← hc1v] at hc1 hd0
          have t19 : decide ((p1 : Int) < (s.size : Int)) = true := by simp; omega
          have t20 : decide (p1 < s.size) = true := by simp; omega
          have t21 : (((c1.toNat : Nat) : Int) == 43) = false := by rw [beq_eq_false_iff_ne]; have := hd0.1; omega
          have t22 : (((c1.toNat : Nat) : Int) == 45) = false := by rw [beq_eq_false_iff_ne]; have := hd0.1; omega
          clear hp1 hcv hsx hsz hc1v hd0
          go_upto_if 67 with (fail)
          go_upto_region 18 with (fail)
          try rw [HEP.out]
          obtain ⟨wm, hwm⟩ : ∃ wm, wm = w'.setCell ⟨w.heap.size + 1, 0, none⟩ (.int .i64 (p1 : Int)) := ⟨_, rfl⟩
          rw [← hwm] at hW1 ⊢
          clear hwm e1 k2 k3 q3 t16 t17 t18 hc2
          have k2 := Blk.cell hW1.out.1 0
          have k3 := Blk.cell hW1.out.2.1 0
          have q3 : ∀ o, wm.frozen? ⟨w.heap.size + 1, o, none⟩ = false := fun o => Blk.frozen hW1.out.2.1 o
          go_wp2_with fail
          go_loopw [6] (fun e wr => ∃ j x : Nat, j ≤ es.length ∧ e = .int .i64 x ∧ Hid (x = dval (es.take j)) ∧ NumW s w (p1 + j) wr) (fun _ wr => s.size - (intOf ((wr.cell? ⟨w.heap.size + 1, 0, none⟩).getD undef)).toNat)
          case atStart => exact ⟨0, 0, by omega, rfl, Lib.hid rfl, hW1⟩
          case round =>
            obtain ⟨j, x, hj, rfl, hx, hWr⟩ := hrel
            have k2 := Blk.cell hWr.out.1 0
            have k3 := Blk.cell hWr.out.2.1 0
            have q3 : ∀ o, wr.frozen? ⟨w.heap.size + 1, o, none⟩ = false := fun o => Blk.frozen hWr.out.2.1 o
            obtain ⟨pj, hpj⟩ : ∃ pj, pj = p1 + j := ⟨_, rfl⟩
            rw [← hpj] at hWr k3
            rcases Nat.lt_or_ge j es.length with hlt | hge
            · obtain ⟨hqj, hcj⟩ : ∃ hq : pj < s.size, s[pj]'hq = es[j] := by
                obtain ⟨a, b⟩ := HH.out.power (i := j) hlt
                have e1 := HPP.out
                have e2 := HP1.out
                subst e1 e2 hpj
                exact ⟨a, b⟩
              have HFD := Lib.hid (show digB s pj = true by
                have a := HH.out.more hlt
                rw [← HPP.out] at a
                have e2 := HP1.out
                subst e2 hpj
                exact a)
              have hdj := HH.out.dig3 _ (List.getElem_mem hlt)
              have hy := dval_take hlt
              have hyb := dval_take_lt HH.out.dig3 HH.out.short (j + 1)
              rw [← hx.out] at hy
              obtain ⟨cj, hcjv⟩ : ∃ cj : UInt8, cj = es[j] := ⟨_, rfl⟩
              rw [← hcjv] at hcj hdj hy
              obtain ⟨y, hyv⟩ : ∃ y, y = dval (es.take (j + 1)) := ⟨_, rfl⟩
              rw [← hyv] at hy hyb
              have HY := Lib.hid hyv
              obtain ⟨v, hv⟩ : ∃ v, v = cj.toNat - 48 := ⟨_, rfl⟩
              rw [← hv] at hy
              have hdj1 := hdj.1
              have hdj2 := hdj.2
              have g2 : IntKind.u8.wrap ((cj.toNat : Int) - 48) = (v : Int) := by rw [IntKind.wrap_u8]; omega
              have g3 : IntKind.i64.wrap (v : Int) = (v : Int) := by rw [IntKind.wrap_i64]; omega
              have g1 : IntKind.i64.wrap (10 * (x : Int)) = 10 * (x : Int) := by rw [IntKind.wrap_i64]; omega
              have g4 : IntKind.i64.wrap (10 * (x : Int) + (v : Int)) = (y : Int) := by rw [IntKind.wrap_i64]; omega
              have g5 : (y : Int) ≤ 1125899906842624 := by omega
              have HPJ := Lib.hid hpj
              have hpjb : pj ≤ 1000001 := by omega
              have g6 : IntKind.i64.wrap ((pj : Int) + 1) = ((pj + 1 : Nat) : Int) := by rw [IntKind.wrap_i64]; omega
              clear hpj hyv hcjv hy hyb hdj hv hdj1 hdj2
              go_wp2_with fail
              refine (digit_w hWr (by exact HFD.out)).mono ?_
              rintro r w1 ⟨rfl, rfl⟩
              go_wp2_with fail
              rw [show (pj : Int) + 1 = ((pj + 1 : Nat) : Int) by omega, Int.min_eq_left g5]
              have hWn := hWr.moved (q := pj + 1)
              have en : p1 + (j + 1) = pj + 1 := by have a := HPJ.out; omega
              refine ⟨⟨j + 1, y, hlt, rfl, Lib.hid HY.out, by rw [en]; exact hWn⟩, ?_⟩
              rw [Blk.cell hWn.out.2.1 0, k3]
              show s.size - (intOf (.int .i64 ((pj + 1 : Nat) : Int))).toNat < s.size - (intOf (.int .i64 (pj : Int))).toNat
              simp only [intOf, Int.toNat_natCast]
              omega
            · obtain rfl : j = es.length := by omega
              have HFD := Lib.hid (show digB s pj = false by
                refine digB_end s ?_
                have a := HSX.out
                have e2 := HP1.out
                simp at a
                omega)
              have t25 : ((pj : Int) == (p1 : Int)) = false := by rw [beq_eq_false_iff_ne]; omega
              have t29 : ((pj : Int) == (s.size : Int)) = true := by
                have a := HSX.out
                have e2 := HP1.out
                simp at a
                rw [beq_iff_eq]
                omega
              clear hpj
              go_wp2_with fail
              refine (digit_w hWr (by exact HFD.out)).mono ?_
              rintro r w1 ⟨rfl, rfl⟩
              have HX := Lib.hid (show x = dval es by have a := hx.out; rwa [List.take_length] at a)
              have HPS := Lib.hid (show pj = s.size by rw [beq_iff_eq] at t29; omega)
              have hxb : x < 1000000 := by have a := dval_take_lt HH.out.dig3 HH.out.short es.length; rw [← hx.out] at a; exact a
              have gn : IntKind.i64.wrap (-(x : Int)) = -(x : Int) := by rw [IntKind.wrap_i64]; omega
              go_wp2_with fail
              go_quiet (fail)
              go_wp2_with fail
              first | apply jumps_ret | (apply then_ret; apply jumps_ret) | (apply then_ret; apply then_ret; apply jumps_ret)
              refine bodyPost_ret (v := .tuple #[.string dg, .int .i64 N, .int .i64 x, .int .i64 pj, .bool true]) (by simp [results, Tryz.results67, go_sem]) rfl ⟨?_, ?_⟩
              · rw [HDG.out, HPS.out, HN.out, HX.out]
                rfl
              · exact num_drawn hWr
        · have hp1s : p1 < s.size := by simp at hsx; omega
          obtain ⟨hq1, hc1⟩ : ∃ hq : p1 < s.size, s[p1]'hq = 45 := by
            obtain ⟨x, y⟩ := HH.out.minus
            have e := HPP.out
            subst e
            subst hp1
            exact ⟨x, y⟩
          obtain ⟨c1, hc1v⟩ : ∃ c1 : UInt8, c1 = 45 := ⟨_, rfl⟩
          rw [← hc1v] at hc1
          have t19 : decide ((p1 : Int) < (s.size : Int)) = true := by simp; omega
          have t20 : decide (p1 < s.size) = true := by simp; omega
          have t21 : (((c1.toNat : Nat) : Int) == 43) = false := by rw [hc1v]; rfl
          have t22 : (((c1.toNat : Nat) : Int) == 45) = true := by rw [hc1v]; rfl
          obtain ⟨p2, hp2⟩ : ∃ p2, p2 = p1 + 1 := ⟨_, rfl⟩
          have HP2 := Lib.hid (show p2 = P + 1 + 1 by omega)
          have HEP2 := Lib.hid (show (p1 : Int) + 1 = (p2 : Int) by omega)
          have e2 : IntKind.i64.wrap ((p1 : Int) + 1) = (p2 : Int) := by rw [IntKind.wrap_i64]; omega
          have hW2 : NumW s w p2 _ := hW1.moved (q := p2)
          clear hp1 hcv hsx hsz hc1v hp2
          go_upto_if 67 with (fail)
          go_upto_region 18 with (fail)
          try rw [HEP.out]
          obtain ⟨wm, hwm⟩ : ∃ wm, wm = w'.setCell ⟨w.heap.size + 1, 0, none⟩ (.int .i64 (p1 : Int)) := ⟨_, rfl⟩
          rw [← hwm] at hW1 hW2 ⊢
          clear hwm e1 k2 k3 q3 t16 t17 t18 hc2
          have k2 := Blk.cell hW1.out.1 0
          have k3 := Blk.cell hW1.out.2.1 0
          have q3 : ∀ o, wm.frozen? ⟨w.heap.size + 1, o, none⟩ = false := fun o => Blk.frozen hW1.out.2.1 o
          go_upto_region 21 with (fail)
          try rw [HEP2.out]
          obtain ⟨wn, hwn⟩ : ∃ wn, wn = wm.setCell ⟨w.heap.size + 1, 0, none⟩ (.int .i64 (p2 : Int)) := ⟨_, rfl⟩
          rw [← hwn] at hW2 ⊢
          clear hwn e2 k2 k3 q3 t19 t20 t21 t22 hc1
          have k2 := Blk.cell hW2.out.1 0
          have k3 := Blk.cell hW2.out.2.1 0
          have q3 : ∀ o, wn.frozen? ⟨w.heap.size + 1, o, none⟩ = false := fun o => Blk.frozen hW2.out.2.1 o
          go_wp2_with fail
          go_loopw [6] (fun e wr => ∃ j x : Nat, j ≤ es.length ∧ e = .int .i64 x ∧ Hid (x = dval (es.take j)) ∧ NumW s w (p2 + j) wr) (fun _ wr => s.size - (intOf ((wr.cell? ⟨w.heap.size + 1, 0, none⟩).getD undef)).toNat)
          case atStart => exact ⟨0, 0, by omega, rfl, Lib.hid rfl, hW2⟩
          case round =>
            obtain ⟨j, x, hj, rfl, hx, hWr⟩ := hrel
            have k2 := Blk.cell hWr.out.1 0
            have k3 := Blk.cell hWr.out.2.1 0
            have q3 : ∀ o, wr.frozen? ⟨w.heap.size + 1, o, none⟩ = false := fun o => Blk.frozen hWr.out.2.1 o
            obtain ⟨pj, hpj⟩ : ∃ pj, pj = p2 + j := ⟨_, rfl⟩
            rw [← hpj] at hWr k3
            rcases Nat.lt_or_ge j es.length with hlt | hge
            · obtain ⟨hqj, hcj⟩ : ∃ hq : pj < s.size, s[pj]'hq = es[j] := by
                obtain ⟨a, b⟩ := HH.out.power (i := j) hlt
                have e1 := HPP.out
                have e2 := HP2.out
                subst e1 e2 hpj
                exact ⟨a, b⟩
              have HFD := Lib.hid (show digB s pj = true by
                have a := HH.out.more hlt
                rw [← HPP.out] at a
                have e2 := HP2.out
                subst e2 hpj
                exact a)
              have hdj := HH.out.dig3 _ (List.getElem_mem hlt)
              have hy := dval_take hlt
              have hyb := dval_take_lt HH.out.dig3 HH.out.short (j + 1)
              rw [← hx.out] at hy
              obtain ⟨cj, hcjv⟩ : ∃ cj : UInt8, cj = es[j] := ⟨_, rfl⟩
              rw [← hcjv] at hcj hdj hy
              obtain ⟨y, hyv⟩ : ∃ y, y = dval (es.take (j + 1)) := ⟨_, rfl⟩
              rw [← hyv] at hy hyb
              have HY := Lib.hid hyv
              obtain ⟨v, hv⟩ : ∃ v, v = cj.toNat - 48 := ⟨_, rfl⟩
              rw [← hv] at hy
              have hdj1 := hdj.1
              have hdj2 := hdj.2
              have g2 : IntKind.u8.wrap ((cj.toNat : Int) - 48) = (v : Int) := by rw [IntKind.wrap_u8]; omega
              have g3 : IntKind.i64.wrap (v : Int) = (v : Int) := by rw [IntKind.wrap_i64]; omega
              have g1 : IntKind.i64.wrap (10 * (x : Int)) = 10 * (x : Int) := by rw [IntKind.wrap_i64]; omega
              have g4 : IntKind.i64.wrap (10 * (x : Int) + (v : Int)) = (y : Int) := by rw [IntKind.wrap_i64]; omega
              have g5 : (y : Int) ≤ 1125899906842624 := by omega
              have HPJ := Lib.hid hpj
              have hpjb : pj ≤ 1000001 := by omega
              have g6 : IntKind.i64.wrap ((pj : Int) + 1) = ((pj + 1 : Nat) : Int) := by rw [IntKind.wrap_i64]; omega
              clear hpj hyv hcjv hy hyb hdj hv hdj1 hdj2
              go_wp2_with fail
              refine (digit_w hWr (by exact HFD.out)).mono ?_
              rintro r w1 ⟨rfl, rfl⟩
              go_wp2_with fail
              rw [show (pj : Int) + 1 = ((pj + 1 : Nat) : Int) by omega, Int.min_eq_left g5]
              have hWn := hWr.moved (q := pj + 1)
              have en : p2 + (j + 1) = pj + 1 := by have a := HPJ.out; omega
              refine ⟨⟨j + 1, y, hlt, rfl, Lib.hid HY.out, by rw [en]; exact hWn⟩, ?_⟩
              rw [Blk.cell hWn.out.2.1 0, k3]
              show s.size - (intOf (.int .i64 ((pj + 1 : Nat) : Int))).toNat < s.size - (intOf (.int .i64 (pj : Int))).toNat
              simp only [intOf, Int.toNat_natCast]
              omega
            · obtain rfl : j = es.length := by omega
              have HFD := Lib.hid (show digB s pj = false by
                refine digB_end s ?_
                have a := HSX.out
                have e2 := HP2.out
                simp at a
                omega)
              have t25 : ((pj : Int) == (p2 : Int)) = false := by rw [beq_eq_false_iff_ne]; omega
              have t29 : ((pj : Int) == (s.size : Int)) = true := by
                have a := HSX.out
                have e2 := HP2.out
                simp at a
                rw [beq_iff_eq]
                omega
              clear hpj
              go_wp2_with fail
              refine (digit_w hWr (by exact HFD.out)).mono ?_
              rintro r w1 ⟨rfl, rfl⟩
              have HX := Lib.hid (show x = dval es by have a := hx.out; rwa [List.take_length] at a)
              have HPS := Lib.hid (show pj = s.size by rw [beq_iff_eq] at t29; omega)
              have hxb : x < 1000000 := by have a := dval_take_lt HH.out.dig3 HH.out.short es.length; rw [← hx.out] at a; exact a
              have gn : IntKind.i64.wrap (-(x : Int)) = -(x : Int) := by rw [IntKind.wrap_i64]; omega
              go_wp2_with fail
              go_quiet (fail)
              go_wp2_with fail
              first | apply jumps_ret | (apply then_ret; apply jumps_ret) | (apply then_ret; apply then_ret; apply jumps_ret)
              refine bodyPost_ret (v := .tuple #[.string dg, .int .i64 N, .int .i64 (-(x : Int)), .int .i64 pj, .bool true]) (by simp [results, Tryz.results67, go_sem]) rfl ⟨?_, ?_⟩
              · rw [HDG.out, HPS.out, HN.out, HX.out]
                rfl
              · exact num_drawn hWr
end Go.Proofs.YtnlpkehllihllaaGreatDoor
