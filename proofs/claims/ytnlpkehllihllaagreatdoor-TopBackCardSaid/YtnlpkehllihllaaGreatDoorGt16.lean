/-
  A part of the proofs that calipertop.TopBack, TopFloats and TopNearest return true for every input and leave it as it was: part 16 of 47.
-/
import Derived.Test.YtnlpkehllihllaaGreatDoorGt15
/-
  The walk of value.Between.
-/
namespace Go.Proofs.YtnlpkehllihllaaGreatDoor
open Go.RowKit Go.Sort

theorem ret_uie {a b : Nat} {x y e : Int} (h1 : a = b) (h2 : x = y) : Ending.returned (.tuple #[U a, .int .i64 x, .int .i64 e]) = .returned (.tuple #[U b, .int .i64 y, .int .i64 e]) := by rw [h1, h2]
set_option maxHeartbeats 3200000 in
set_option maxRecDepth 100000 in
/-- value.Between of a magnitude that there is. -/
theorem between_any (n key : Nat) (w : World) (h1 : 1 ≤ n) (h2 : n < 15) (hk : key ≤ (formAt n).most) (hE : Env w) :
    Calls Tryz.prog 87 #[.int .i64 n, U key] w fun r w' => r = .returned (.tuple #[U (oM (formAt n) 1 (2 * key + 1)), .int .i64 (oE (formAt n) 1 (2 * key + 1)), .int .i64 0]) ∧ Below w.heap.size w w' := by
  have hf := form_is h1 h2
  have hm := (most_lt hf).1
  have Vf := Lib.hid (vfits_any n key w h1 h2 hk hE)
  have hok := keyOk_btw (f := formAt n) hk
  have Nm := Lib.hid fun (W : World) (hW : Env W) => num_any (formAt n) 1 (2 * key + 1) 1 W hf hok (by rfl) hW
  have hen := num_enter hf
  have HE := Lib.hid hE
  have e1 : IntKind.u64.wrap (IntKind.u64.wrap (2 * (key : Int)) + 1) = ((2 * key + 1 : Nat) : Int) := by rw [IntKind.wrap_u64, IntKind.wrap_u64]; omega
  clear hok hk hm hE
  obtain ⟨q, hq⟩ : ∃ q, q = 2 * key + 1 := ⟨_, rfl⟩
  rw [← hq] at Nm e1 ⊢
  clear hq
  obtain ⟨f, hff⟩ : ∃ f, f = formAt n := ⟨_, rfl⟩
  rw [← hff] at Vf Nm hen hf ⊢
  clear hff
  obtain ⟨F, hF⟩ : ∃ F, F = numFn f.kind := ⟨_, rfl⟩
  rw [← hF] at Vf Nm hen
  clear hF hf
  obtain ⟨M, hM⟩ : ∃ M, M = oM f 1 q := ⟨_, rfl⟩
  obtain ⟨E, hEE⟩ : ∃ E, E = oE f 1 q := ⟨_, rfl⟩
  rw [← hM, ← hEE] at Nm ⊢
  clear hM hEE
  obtain ⟨a0, a1, a2, a3, a4, a5, a6⟩ := f
  simp only [Fm.sv] at Vf
  go_enter Tryz.func87, Tryz.ntmps87
  go_wp2_with fail
  ((with_reducible refine (Vf.out).mono ?_); rintro r w1 ⟨rfl, g1⟩)
  have G1 := Lib.hid g1
  obtain ⟨wa, hwa, hka, B1, b2⟩ := alloc8 (w := w) a0 a1 a2 a3 a4 a5 a6 F w1 g1
  have B1 := Lib.hid B1
  have E1 := Lib.hid (HE.out.below B1.out)
  obtain ⟨k0, k1, k2, k3, k4, k5, k6, k7⟩ := rest8 hka
  clear g1 b2 hka G1
  go_upto_region 2 with (fail)
  rw [← hwa]
  clear hwa
  go_wp2_with fail
  ((with_reducible refine (Nm.out _ E1.out).mono ?_); rintro r w3 ⟨rfl, g3⟩)
  go_wp2_with fail
  go_ret3
  exact ⟨rfl, B1.out.trans (g3.mono B1.out.size)⟩
end Go.Proofs.YtnlpkehllihllaaGreatDoor

/-
  Plain laws of patterns; the walk of forms.Fits.
-/
namespace Go.Proofs.YtnlpkehllihllaaGreatDoor
open Go.RowKit Go.Sort

/-- A pattern that is a number, and not 0. -/
theorem cls_fin {f : Fm} (hf : FmIs f) {p : Nat} (hp : p < 2 ^ f.width) (h : clsI f p (pKey f p) = 2) :
    pKey f p ≤ mostN f (pNeg f p) ∧ (pKey f p ≠ 0 ∨ f.kind = 4) ∧ (pNeg f p = true → f.kind ≠ 4) ∧ patN f (pNeg f p) (pKey f p) = p := by
  obtain ⟨w1, w2⟩ := width_bd hf
  obtain ⟨n, hn⟩ : ∃ n, f.width = n + 1 := ⟨f.width - 1, by omega⟩
  have hw : 2 ^ f.width = 2 ^ n * 2 := by rw [hn, Nat.pow_succ]
  have hw' : f.width - 1 = n := by omega
  have h2 : (pKey f p ≠ 0 ∨ f.kind = 4) ∧ ¬ ((f.kind = 2 ∧ f.top < pKey f p) ∨ (f.kind ≠ 2 ∧ f.nan ≠ 0 ∧ p = f.nan)) := by
    unfold clsI at h
    split at h
    · cases h
    · split at h
      · cases h
      · next q =>
        split at h
        · cases h
        · next r =>
          refine ⟨?_, q⟩
          rcases Nat.eq_zero_or_pos (pKey f p) with s | s
          · right
            exact Classical.byContradiction fun t => r ⟨s, t⟩
          · left; omega
  obtain ⟨h3, h4⟩ := h2
  have hN : pNeg f p = true ↔ (f.kind ≠ 4 ∧ 2 ^ n ≤ p) := by unfold pNeg; rw [hw', decide_eq_true_eq]
  have hN0 : pNeg f p = false → ¬ (f.kind ≠ 4 ∧ 2 ^ n ≤ p) := fun q r => by rw [hN.2 r] at q; cases q
  have hK : pKey f p = if pNeg f p = false then p else if f.kind = 2 then p - 2 ^ n else 2 ^ f.width - p := by unfold pKey; rw [hw']
  have hP : ∀ k, patN f (pNeg f p) k = if pNeg f p = false then k else if f.kind = 2 then k + 2 ^ n else (2 ^ f.width - k) % 2 ^ f.width := fun k => by unfold patN; rw [hw']
  have hM : ∀ b, mostN f b = if b = true ∧ f.kind = 3 then f.top + 1 else f.top := fun _ => rfl
  refine ⟨?_, h3, fun q => (hN.1 q).1, ?_⟩
  · rw [hM]
    cases hng : pNeg f p with
    | false =>
      rw [hng, if_pos rfl] at hK
      rw [if_neg (by simp), hK]
      have hN1 := hN0 hng
      cases hf with
      | posit k w1 w2 t n' i => rw [t, hw']; omega
      | signed k w1 w2 m b1 b2 t e t3 e2 => rw [hK] at h4; omega
      | turned k w m t n' i => rw [t]; rw [w] at hn; obtain rfl : n = 7 := by omega
                               omega
      | scale k w b t n' i => rw [t]; rw [w] at hp; omega
    | true =>
      obtain ⟨r1, r2⟩ := hN.1 hng
      rw [hng, if_neg (by simp)] at hK
      cases hf with
      | posit k w1 w2 t n' i =>
        rw [if_neg (by omega)] at hK
        rw [if_neg (by omega), hK, t, hw']
        have hp2 := Nat.two_pow_pos n
        rw [hw'] at n'
        omega
      | signed k w1 w2 m b1 b2 t e t3 e2 =>
        rw [if_neg (by omega)]
        omega
      | turned k w m t n' i =>
        rw [if_neg (by omega)] at hK
        rw [if_pos ⟨rfl, k⟩, hK, t, w]
        rw [w] at hn
        obtain rfl : n = 7 := by omega
        omega
      | scale k w b t n' i => omega
  · rw [hP]
    cases hng : pNeg f p with
    | false => rw [if_pos rfl, hK, hng, if_pos rfl]
    | true =>
      obtain ⟨r1, r2⟩ := hN.1 hng
      rw [hng, if_neg (by decide)] at hK
      rw [if_neg (by decide)]
      by_cases k2 : f.kind = 2
      · rw [if_pos k2] at hK ⊢
        omega
      · rw [if_neg k2] at hK ⊢
        have hp0 : 0 < p := Nat.lt_of_lt_of_le (Nat.two_pow_pos n) r2
        rw [hK, show 2 ^ f.width - (2 ^ f.width - p) = p by omega, Nat.mod_eq_of_lt hp]
/-- What a pattern means. -/
def decNeg (f : Fm) (p : Nat) : Bool := if clsI f p (pKey f p) = 4 then false else pNeg f p
def decM (f : Fm) (p : Nat) : Nat := if clsI f p (pKey f p) = 2 then oM f 0 (pKey f p) else 0
def decE (f : Fm) (p : Nat) : Int := if clsI f p (pKey f p) = 2 then oE f 0 (pKey f p) else 0
theorem cls_four (f : Fm) (p key : Nat) : clsI f p key = 1 ∨ clsI f p key = 2 ∨ clsI f p key = 3 ∨ clsI f p key = 4 := by
  unfold clsI
  split
  · omega
  · split
    · omega
    · split <;> omega

/-- Why a pattern may not be. -/
def fitE (n : Int) (p : Nat) : Int := if n < 1 ∨ 15 ≤ n then 3 else if p < 2 ^ (formAt n.toNat).width then 0 else 1

set_option maxHeartbeats 1600000 in
set_option maxRecDepth 100000 in
/-- forms.Fits. -/
theorem fits_any (n : Int) (p : Nat) (w : World) (hp : p < 18446744073709551616) (hE : Env w) :
    Calls Tryz.prog 35 #[.int .i64 n, U p] w fun r w' => r = .returned (.int .i64 (fitE n p)) ∧ Below w.heap.size w w' := by
  by_cases hn : n < 1 ∨ 15 ≤ n
  · have e : fitE n p = 3 := by unfold fitE; rw [if_pos hn]
    rw [e]
    have Fo := Lib.hid (fof_none n w hn)
    have hz : (formAt 0).v = .agg #[.int .i64 0, .int .i64 0, .int .i64 0, .int .i64 0, U 0, U 0, U 0] := rfl
    rw [hz] at Fo
    clear hn e hz hE
    go_enter Tryz.func35, Tryz.ntmps35
    go_wp2_with fail
    ((with_reducible refine (Fo.out).mono ?_); rintro r w1 ⟨rfl, g1⟩)
    go_wp2_with fail
    go_ret
    exact ⟨rfl, g1.trans (((Below.refl _ _).alloc (Nat.le_refl _) _).mono g1.size)⟩
  · obtain ⟨k, rfl⟩ : ∃ k : Nat, n = k := ⟨n.toNat, by omega⟩
    have hf := form_is (n := k) (by omega) (by omega)
    obtain ⟨w1, w2⟩ := width_bd hf
    have Fo := Lib.hid (fof_any k w (by omega) (by omega) hE.ft hE.ft.lt)
    have Mk := Lib.hid fun W => mask_any (formAt k) W w2
    have e : fitE k p = if p < 2 ^ (formAt k).width then 0 else 1 := by unfold fitE; rw [if_neg hn]; rfl
    have hfw := fits_word hp w2
    obtain ⟨r, hr⟩ : ∃ r, r = fitE k p := ⟨_, rfl⟩
    rw [← hr] at e ⊢
    have HR := Lib.hid e
    clear hr e hE hn
    obtain ⟨f, hff⟩ : ∃ f, f = formAt k := ⟨_, rfl⟩
    rw [← hff] at Fo Mk HR hfw
    clear hff hf w1 w2
    obtain ⟨a0, a1, a2, a3, a4, a5, a6⟩ := f
    simp only at HR hfw
    obtain ⟨mk, hmk⟩ : ∃ mk, mk = 2 ^ a1 - 1 := ⟨_, rfl⟩
    simp only at Mk
    rw [← hmk] at Mk hfw
    clear hmk
    by_cases hlt : p < 2 ^ a1
    · rw [decide_eq_false (by omega)] at hfw
      have H0 := Lib.hid (show 0 = r by rw [HR.out, if_pos hlt])
      clear hlt HR
      go_enter Tryz.func35, Tryz.ntmps35
      go_wp2_with fail
      ((with_reducible refine (Fo.out).mono ?_); rintro r w1 ⟨rfl, g1⟩)
      go_wp2_with fail
      ((with_reducible refine (Mk.out _).mono ?_); rintro r w2 ⟨rfl, g2⟩)
      go_wp2_with fail
      go_ret
      exact ⟨ret_i H0.out, g1.trans (((Below.refl _ _).alloc (Nat.le_refl _) _).trans (g2.mono (by simp)) |>.mono g1.size)⟩
    · rw [decide_eq_true (by omega)] at hfw
      have H0 := Lib.hid (show 1 = r by rw [HR.out, if_neg hlt])
      clear hlt HR
      go_enter Tryz.func35, Tryz.ntmps35
      go_wp2_with fail
      ((with_reducible refine (Fo.out).mono ?_); rintro r w1 ⟨rfl, g1⟩)
      go_wp2_with fail
      ((with_reducible refine (Mk.out _).mono ?_); rintro r w2 ⟨rfl, g2⟩)
      go_wp2_with fail
      go_ret
      exact ⟨ret_i H0.out, g1.trans (((Below.refl _ _).alloc (Nat.le_refl _) _).trans (g2.mono (by simp)) |>.mono g1.size)⟩
end Go.Proofs.YtnlpkehllihllaaGreatDoor

/-
  The walk of value.Decode.
-/
namespace Go.Proofs.YtnlpkehllihllaaGreatDoor
open Go.RowKit Go.Sort

theorem rest4 {w2 : World} {b : Nat} {t : TypeId} {x0 x1 x2 x3 : Value} (hk : Blk w2 b t #[x0, x1, x2, x3]) :
    w2.cell? ⟨b, 0, none⟩ = some x0 ∧ w2.cell? ⟨b, 1, none⟩ = some x1 ∧ w2.cell? ⟨b, 2, none⟩ = some x2 ∧ w2.cell? ⟨b, 3, none⟩ = some x3 :=
  ⟨Blk.cell hk 0, Blk.cell hk 1, Blk.cell hk 2, Blk.cell hk 3⟩
theorem new4 (w : World) (t : TypeId) (x0 x1 x2 x3 : Value) : Blk (w.alloc (.cells #[x0, x1, x2, x3] t)) w.heap.size t #[x0, x1, x2, x3] ∧ Below w.heap.size w (w.alloc (.cells #[x0, x1, x2, x3] t)) :=
  ⟨Blk.new w _ _, (Below.refl _ _).alloc (Nat.le_refl _) _⟩

set_option maxHeartbeats 1600000 in
set_option maxRecDepth 100000 in
/-- value.Decode of what may not be. -/
theorem decode_bad (n : Int) (p : Nat) (w : World) (hp : p < 18446744073709551616) (he : fitE n p ≠ 0) (hE : Env w) :
    Calls Tryz.prog 61 #[.int .i64 n, U p] w fun r w' => r = .returned (.tuple #[.agg #[.int .i64 0, .bool false, .int .u64 0, .int .i64 0], .int .i64 (fitE n p)]) ∧ Below w.heap.size w w' := by
  have hb0 := (new4 w 91 (.int .i64 0) (.bool false) (.int .u64 0) (.int .i64 0)).2
  have HK := Lib.hid (new4 w 91 (.int .i64 0) (.bool false) (.int .u64 0) (.int .i64 0)).1
  have HB := Lib.hid hb0
  have Fi := Lib.hid (fits_any n p _ hp (hE.below hb0))
  obtain ⟨e, hee⟩ : ∃ e, e = fitE n p := ⟨_, rfl⟩
  rw [← hee] at Fi he ⊢
  have te : (e != 0) = true := by simpa using he
  clear hee he hb0 hE
  go_enter Tryz.func61, Tryz.ntmps61
  go_wp2_with fail
  ((with_reducible refine (Fi.out).mono ?_); rintro r w1 ⟨rfl, g1⟩)
  have hk1 : Blk w1 w.heap.size 91 #[.int .i64 0, .bool false, .int .u64 0, .int .i64 0] := Blk.below HK.out g1 HK.out.lt
  have B1 := Lib.hid (HB.out.trans (g1.mono HB.out.size))
  have HK1 := Lib.hid hk1
  obtain ⟨k0, k1, k2, k3⟩ := rest4 hk1
  have q0 : ∀ o, w1.frozen? ⟨w.heap.size, o, none⟩ = false := fun o => Blk.frozen hk1 o
  clear hk1 g1
  go_wp2_with fail
  obtain ⟨w4, hw4, hk4, hb4, ho4⟩ := stored4 HK1.out (Nat.le_refl _) B1.out (.int .i64 0) (.bool false) (.int .u64 0) (.int .i64 0)
  obtain ⟨r0, r1, r2, r3⟩ := rest4 hk4
  rw [hw4]
  exact bodyPost_ret (v := .tuple #[.agg #[.int .i64 0, .bool false, .int .u64 0, .int .i64 0], .int .i64 e]) (by simp [results, Tryz.results61, go_sem, r0, r1, r2, r3]) rfl ⟨rfl, hb4⟩

set_option maxHeartbeats 6400000 in
set_option maxRecDepth 100000 in
/-- value.Decode. -/
theorem decode_any (n p : Nat) (w : World) (h1 : 1 ≤ n) (h2 : n < 15) (hp : p < 2 ^ (formAt n).width) (hE : Env w) :
    Calls Tryz.prog 61 #[.int .i64 n, U p] w fun r w' => r = .returned (.tuple #[.agg #[.int .i64 (clsI (formAt n) p (pKey (formAt n) p)), .bool (decNeg (formAt n) p), U (decM (formAt n) p), .int .i64 (decE (formAt n) p)], .int .i64 0]) ∧ Below w.heap.size w w' := by
  have hf := form_is h1 h2
  obtain ⟨wd1, wd2⟩ := width_bd hf
  have hp64 : p < 18446744073709551616 := Nat.lt_of_lt_of_le hp (Nat.pow_le_pow_right (n := 2) (by omega) (show (formAt n).width ≤ 64 from wd2))
  have e0 : fitE n p = 0 := by unfold fitE; rw [if_neg (by omega)]; exact if_pos hp
  have hb0 := (new4 w 91 (.int .i64 0) (.bool false) (.int .u64 0) (.int .i64 0)).2
  have HK := Lib.hid (new4 w 91 (.int .i64 0) (.bool false) (.int .u64 0) (.int .i64 0)).1
  have HB := Lib.hid hb0
  have fi := fits_any n p _ hp64 (hE.below hb0)
  rw [e0] at fi
  have Fi := Lib.hid fi
  have Vo := Lib.hid fun (W : World) (hW : Env W) => vof_any n W h1 h2 hW
  rw [s_sv hf] at Vo
  have Pa := Lib.hid fun (W : World) => parts_any (formAt n) (numFn (formAt n).kind) p W hf hp
  have Cl := Lib.hid fun (W : World) => class_any (formAt n) (numFn (formAt n).kind) p (pKey (formAt n) p) W
  have HE := Lib.hid (hE.below hb0)
  have HE0 := Lib.hid hE
  have hcl := cls_fin hf hp
  have hc4 := cls_four (formAt n) p (pKey (formAt n) p)
  have hen := num_enter hf
  have Nm := Lib.hid fun (hc : clsI (formAt n) p (pKey (formAt n) p) = 2) (W : World) (hW : Env W) => num_any (formAt n) 0 (pKey (formAt n) p) 0 W hf (keyOk_at (Nat.le_trans (hcl hc).1 (mostN_le _)) (hcl hc).2.1) (by rfl) hW
  have hdN : decNeg (formAt n) p = if clsI (formAt n) p (pKey (formAt n) p) = 4 then false else pNeg (formAt n) p := rfl
  have hdM : decM (formAt n) p = if clsI (formAt n) p (pKey (formAt n) p) = 2 then oM (formAt n) 0 (pKey (formAt n) p) else 0 := rfl
  have hdE : decE (formAt n) p = if clsI (formAt n) p (pKey (formAt n) p) = 2 then oE (formAt n) 0 (pKey (formAt n) p) else 0 := rfl
  clear fi e0 hb0 hE hcl hp hp64 wd1 wd2
  obtain ⟨f, hff⟩ : ∃ f, f = formAt n := ⟨_, rfl⟩
  rw [← hff] at Vo Pa Cl hen Nm hc4 hdN hdM hdE ⊢
  clear hff hf
  obtain ⟨F, hF⟩ : ∃ F, F = numFn f.kind := ⟨_, rfl⟩
  rw [← hF] at Vo Pa Cl hen Nm
  clear hF
  obtain ⟨ky, hky⟩ : ∃ ky, ky = pKey f p := ⟨_, rfl⟩
  rw [← hky] at Pa Cl Nm hc4 hdN hdM hdE ⊢
  clear hky
  obtain ⟨c, hcc⟩ : ∃ c, c = clsI f p ky := ⟨_, rfl⟩
  rw [← hcc] at Cl Nm hc4 hdN hdM hdE ⊢
  clear hcc
  obtain ⟨ng, hng⟩ : ∃ ng, ng = pNeg f p := ⟨_, rfl⟩
  rw [← hng] at Pa hdN
  clear hng
  obtain ⟨M, hM⟩ : ∃ M, M = oM f 0 ky := ⟨_, rfl⟩
  obtain ⟨E, hEE⟩ : ∃ E, E = oE f 0 ky := ⟨_, rfl⟩
  rw [← hM, ← hEE] at Nm
  rw [← hM] at hdM
  rw [← hEE] at hdE
  clear hM hEE
  obtain ⟨dN, h⟩ : ∃ dN, dN = decNeg f p := ⟨_, rfl⟩
  rw [← h] at hdN ⊢
  clear h
  obtain ⟨dM, h⟩ : ∃ dM, dM = decM f p := ⟨_, rfl⟩
  rw [← h] at hdM ⊢
  clear h
  obtain ⟨dE, h⟩ : ∃ dE, dE = decE f p := ⟨_, rfl⟩
  rw [← h] at hdE ⊢
  clear h
  obtain ⟨a0, a1, a2, a3, a4, a5, a6⟩ := f
  simp only [Fm.sv] at Vo Pa Cl
  have HDN := Lib.hid hdN
  have HDM := Lib.hid hdM
  have HDE := Lib.hid hdE
  have HC4 := Lib.hid hc4
  clear hdN hdM hdE hc4
  go_enter Tryz.func61, Tryz.ntmps61
  go_wp2_with fail
  ((with_reducible refine (Fi.out).mono ?_); rintro r w1 ⟨rfl, g1⟩)
  have E1 := Lib.hid (HE.out.below g1)
  go_wp2_with fail
  ((with_reducible refine (Vo.out _ E1.out).mono ?_); rintro r w2 ⟨rfl, g2⟩)
  have G2 := Lib.hid (g1.trans (g2.mono g1.size))
  have hk2 : Blk w2 w.heap.size 91 #[.int .i64 0, .bool false, .int .u64 0, .int .i64 0] := Blk.below HK.out G2.out HK.out.lt
  obtain ⟨wa, hwa, hka, _, b2⟩ := alloc8 (w := w2) a0 a1 a2 a3 a4 a5 a6 F w2 (Below.refl _ _)
  have B1 := Lib.hid (HB.out.trans ((G2.out.trans (b2.mono G2.out.size)).mono HB.out.size))
  have HKV := Lib.hid (Blk.below hk2 b2 hk2.lt)
  have HKA := Lib.hid hka
  obtain ⟨k0, k1, k2, k3, k4, k5, k6, k7⟩ := rest8 hka
  have hlt := hk2.lt
  clear g1 g2 b2 hka hk2 G2
  go_upto_region 5 with (fail)
  rw [← hwa]
  clear hwa
  go_wp2_with fail
  ((with_reducible refine (Pa.out _).mono ?_); rintro r w3 ⟨rfl, g3⟩)
  have HKV3 := Lib.hid (Blk.below HKV.out g3 HKV.out.lt)
  have HKA3 := Lib.hid (Blk.below HKA.out g3 HKA.out.lt)
  have B3 := Lib.hid (B1.out.trans (g3.mono B1.out.size))
  clear g3 k0 k1 k2 k3 k4 k5 k6 k7 HKV HKA B1
  obtain ⟨k0, k1, k2, k3, k4, k5, k6, k7⟩ := rest8 HKA3.out
  go_wp2_with fail
  ((with_reducible refine (Cl.out _).mono ?_); rintro r w4 ⟨rfl, g4⟩)
  have HKV4 := Lib.hid (Blk.below HKV3.out g4 HKV3.out.lt)
  have HKA4 := Lib.hid (Blk.below HKA3.out g4 HKA3.out.lt)
  have B4 := Lib.hid (B3.out.trans (g4.mono B3.out.size))
  clear g4 k0 k1 k2 k3 k4 k5 k6 k7 HKV3 HKA3 B3
  obtain ⟨j0, j1, j2, j3⟩ := rest4 HKV4.out
  have q0 : ∀ o, w4.frozen? ⟨w.heap.size, o, none⟩ = false := fun o => Blk.frozen HKV4.out o
  have hne := HKA4.out.lt
  go_upto_region 7 with (fail)
  have HKVb := Lib.hid (show Blk (w4.setCell ⟨w.heap.size, 0, none⟩ (.int .i64 c)) w.heap.size 91 #[.int .i64 c, .bool false, .int .u64 0, .int .i64 0] from HKV4.out.set_ 0 (.int .i64 c))
  have HKAb := Lib.hid (HKA4.out.far (p := ⟨w.heap.size, 0, none⟩) (by simp; omega) (.int .i64 c))
  have Bb := Lib.hid (B4.out.setCell (p := ⟨w.heap.size, 0, none⟩) (Nat.le_refl _) (.int .i64 c))
  obtain ⟨wb, hwb⟩ : ∃ wb, wb = w4.setCell ⟨w.heap.size, 0, none⟩ (.int .i64 c) := ⟨_, rfl⟩
  rw [← hwb] at HKVb HKAb Bb ⊢
  clear hwb HKV4 HKA4 B4 j0 j1 j2 j3 q0 hne
  have Eb := Lib.hid (HE0.out.below Bb.out)
  obtain ⟨k0, k1, k2, k3, k4, k5, k6, k7⟩ := rest8 HKAb.out
  obtain ⟨j0, j1, j2, j3⟩ := rest4 HKVb.out
  have q0 : ∀ o, wb.frozen? ⟨w.heap.size, o, none⟩ = false := fun o => Blk.frozen HKVb.out o
  have hne : w2.heap.size < wb.heap.size := HKAb.out.lt
  rcases HC4.out with rfl | rfl | rfl | rfl
  · have eN : dN = ng := by rw [HDN.out, if_neg (by decide)]
    have eM : dM = 0 := by rw [HDM.out, if_neg (by decide)]
    have eE : dE = 0 := by rw [HDE.out, if_neg (by decide)]
    have HD := Lib.hid (And.intro eN (And.intro eM eE))
    clear eN eM eE Nm
    go_wp2_with fail
    have hk5 : Blk (wb.setCell ⟨w.heap.size, 1, none⟩ (.bool ng)) w.heap.size 91 #[.int .i64 1, .bool ng, .int .u64 0, .int .i64 0] := HKVb.out.set_ 1 (.bool ng)
    obtain ⟨w5, hw5, hk6, hb6, _⟩ := stored4 hk5 (Nat.le_refl _) (Bb.out.setCell (p := ⟨w.heap.size, 1, none⟩) (Nat.le_refl _) (.bool ng)) (.int .i64 1) (.bool ng) (.int .u64 0) (.int .i64 0)
    obtain ⟨r0, r1, r2, r3⟩ := rest4 hk6
    rw [hw5]
    exact bodyPost_ret (v := .tuple #[.agg #[.int .i64 1, .bool ng, .int .u64 0, .int .i64 0], .int .i64 0]) (by simp [results, Tryz.results61, go_sem, r0, r1, r2, r3]) rfl ⟨by rw [HD.out.1, HD.out.2.1, HD.out.2.2]; rfl, hb6⟩
  · have eN : dN = ng := by rw [HDN.out, if_neg (by decide)]
    have eM : dM = M := by rw [HDM.out, if_pos (by decide)]
    have eE : dE = E := by rw [HDE.out, if_pos (by decide)]
    have HD := Lib.hid (And.intro eN (And.intro eM eE))
    have Nm2 := Lib.hid (Nm.out rfl)
    clear eN eM eE Nm
    go_upto_region 10 with (fail)
    have hk5 : Blk (wb.setCell ⟨w.heap.size, 1, none⟩ (.bool ng)) w.heap.size 91 #[.int .i64 2, .bool ng, .int .u64 0, .int .i64 0] := HKVb.out.set_ 1 (.bool ng)
    have hk6 := HKAb.out.far (p := ⟨w.heap.size, 1, none⟩) (by simp; omega) (.bool ng)
    have b5 := Bb.out.setCell (p := ⟨w.heap.size, 1, none⟩) (Nat.le_refl _) (.bool ng)
    obtain ⟨wc, hwc⟩ : ∃ wc, wc = wb.setCell ⟨w.heap.size, 1, none⟩ (.bool ng) := ⟨_, rfl⟩
    rw [← hwc] at hk5 hk6 b5 ⊢
    have Ec := Lib.hid (HE0.out.below b5)
    have HKc := Lib.hid hk5
    have Bc := Lib.hid b5
    clear hwc k0 k1 k2 k3 k4 k5 k6 k7 j0 j1 j2 j3 q0 hne HKVb HKAb Bb Eb
    obtain ⟨k0, k1, k2, k3, k4, k5, k6, k7⟩ := rest8 hk6
    clear hk5 hk6 b5
    go_wp2_with fail
    ((with_reducible refine (Nm2.out _ Ec.out).mono ?_); rintro r w7 ⟨rfl, g7⟩)
    have hk7 := Blk.below HKc.out g7 HKc.out.lt
    have B7 := Lib.hid (Bc.out.trans (g7.mono Bc.out.size))
    have HK7 := Lib.hid hk7
    obtain ⟨j0, j1, j2, j3⟩ := rest4 hk7
    have q0 : ∀ o, w7.frozen? ⟨w.heap.size, o, none⟩ = false := fun o => Blk.frozen hk7 o
    clear k0 k1 k2 k3 k4 k5 k6 k7 g7 hk7
    go_wp2_with fail
    have hk8 : Blk ((w7.setCell ⟨w.heap.size, 2, none⟩ (U M)).setCell ⟨w.heap.size, 3, none⟩ (.int .i64 E)) w.heap.size 91 #[.int .i64 2, .bool ng, U M, .int .i64 E] := (HK7.out.set_ 2 (U M)).set_ 3 (.int .i64 E)
    obtain ⟨w5, hw5, hk6, hb6, _⟩ := stored4 hk8 (Nat.le_refl _) ((B7.out.setCell (p := ⟨w.heap.size, 2, none⟩) (Nat.le_refl _) (U M)).setCell (p := ⟨w.heap.size, 3, none⟩) (Nat.le_refl _) (.int .i64 E)) (.int .i64 2) (.bool ng) (U M) (.int .i64 E)
    obtain ⟨r0, r1, r2, r3⟩ := rest4 hk6
    rw [hw5]
    exact bodyPost_ret (v := .tuple #[.agg #[.int .i64 2, .bool ng, U M, .int .i64 E], .int .i64 0]) (by simp [results, Tryz.results61, go_sem, r0, r1, r2, r3]) rfl ⟨by rw [HD.out.1, HD.out.2.1, HD.out.2.2], hb6⟩
  · have eN : dN = ng := by rw [HDN.out, if_neg (by decide)]
    have eM : dM = 0 := by rw [HDM.out, if_neg (by decide)]
    have eE : dE = 0 := by rw [HDE.out, if_neg (by decide)]
    have HD := Lib.hid (And.intro eN (And.intro eM eE))
    clear eN eM eE Nm
    go_wp2_with fail
    have hk5 : Blk (wb.setCell ⟨w.heap.size, 1, none⟩ (.bool ng)) w.heap.size 91 #[.int .i64 3, .bool ng, .int .u64 0, .int .i64 0] := HKVb.out.set_ 1 (.bool ng)
    obtain ⟨w5, hw5, hk6, hb6, _⟩ := stored4 hk5 (Nat.le_refl _) (Bb.out.setCell (p := ⟨w.heap.size, 1, none⟩) (Nat.le_refl _) (.bool ng)) (.int .i64 3) (.bool ng) (.int .u64 0) (.int .i64 0)
    obtain ⟨r0, r1, r2, r3⟩ := rest4 hk6
    rw [hw5]
    exact bodyPost_ret (v := .tuple #[.agg #[.int .i64 3, .bool ng, .int .u64 0, .int .i64 0], .int .i64 0]) (by simp [results, Tryz.results61, go_sem, r0, r1, r2, r3]) rfl ⟨by rw [HD.out.1, HD.out.2.1, HD.out.2.2]; rfl, hb6⟩
  · have eN : dN = false := by rw [HDN.out, if_pos (by decide)]
    have eM : dM = 0 := by rw [HDM.out, if_neg (by decide)]
    have eE : dE = 0 := by rw [HDE.out, if_neg (by decide)]
    have HD := Lib.hid (And.intro eN (And.intro eM eE))
    clear eN eM eE Nm
    go_wp2_with fail
    obtain ⟨w5, hw5, hk6, hb6, _⟩ := stored4 HKVb.out (Nat.le_refl _) Bb.out (.int .i64 4) (.bool false) (.int .u64 0) (.int .i64 0)
    obtain ⟨r0, r1, r2, r3⟩ := rest4 hk6
    rw [hw5]
    exact bodyPost_ret (v := .tuple #[.agg #[.int .i64 4, .bool false, .int .u64 0, .int .i64 0], .int .i64 0]) (by simp [results, Tryz.results61, go_sem, r0, r1, r2, r3]) rfl ⟨by rw [HD.out.1, HD.out.2.1, HD.out.2.2]; rfl, hb6⟩
end Go.Proofs.YtnlpkehllihllaaGreatDoor

/-
  The walk of value.Key of a number that is not 0.
-/
namespace Go.Proofs.YtnlpkehllihllaaGreatDoor
open Go.RowKit Go.Sort

set_option maxHeartbeats 3200000 in
set_option maxRecDepth 100000 in
/-- value.Key. -/
theorem key_any (n p : Nat) (w : World) (h1 : 1 ≤ n) (h2 : n < 15) (hp : p < 2 ^ (formAt n).width) (hc : clsI (formAt n) p (pKey (formAt n) p) = 2) (hE : Env w) :
    Calls Tryz.prog 74 #[.int .i64 n, U p] w fun r w' => r = .returned (.tuple #[.bool (pNeg (formAt n) p), U (pKey (formAt n) p), .int .i64 0]) ∧ Below w.heap.size w w' := by
  have hf := form_is h1 h2
  have De := Lib.hid (decode_any n p w h1 h2 hp hE)
  rw [hc] at De
  have Vo := Lib.hid fun (W : World) (hW : Env W) => vof_any n W h1 h2 hW
  rw [s_sv hf] at Vo
  have Pa := Lib.hid fun (W : World) => parts_any (formAt n) (numFn (formAt n).kind) p W hf hp
  have HE := Lib.hid hE
  clear hE hc hp
  obtain ⟨f, hff⟩ : ∃ f, f = formAt n := ⟨_, rfl⟩
  rw [← hff] at Vo Pa De ⊢
  clear hff hf
  obtain ⟨F, hF⟩ : ∃ F, F = numFn f.kind := ⟨_, rfl⟩
  rw [← hF] at Vo Pa
  clear hF
  obtain ⟨ky, hky⟩ : ∃ ky, ky = pKey f p := ⟨_, rfl⟩
  rw [← hky] at Pa ⊢
  clear hky
  obtain ⟨ng, hng⟩ : ∃ ng, ng = pNeg f p := ⟨_, rfl⟩
  rw [← hng] at Pa ⊢
  clear hng
  obtain ⟨dN, h⟩ : ∃ dN, dN = decNeg f p := ⟨_, rfl⟩
  rw [← h] at De
  clear h
  obtain ⟨dM, h⟩ : ∃ dM, dM = decM f p := ⟨_, rfl⟩
  rw [← h] at De
  clear h
  obtain ⟨dE, h⟩ : ∃ dE, dE = decE f p := ⟨_, rfl⟩
  rw [← h] at De
  clear h
  obtain ⟨a0, a1, a2, a3, a4, a5, a6⟩ := f
  simp only [Fm.sv] at Vo Pa
  go_enter Tryz.func74, Tryz.ntmps74
  go_wp2_with fail
  ((with_reducible refine (De.out).mono ?_); rintro r w1 ⟨rfl, g1⟩)
  obtain ⟨hk2, b2⟩ := new4 w1 91 (.int .i64 2) (.bool dN) (U dM) (.int .i64 dE)
  obtain ⟨wa, hwa⟩ : ∃ wa, wa = w1.alloc (.cells #[.int .i64 2, .bool dN, U dM, .int .i64 dE] 91) := ⟨_, rfl⟩
  rw [← hwa] at hk2 b2
  have B1 := Lib.hid (g1.trans (b2.mono g1.size))
  have E1 := Lib.hid (HE.out.below B1.out)
  obtain ⟨j0, j1, j2, j3⟩ := rest4 hk2
  clear g1 b2 hk2
  go_upto_region 2 with (fail)
  rw [← hwa]
  clear hwa
  go_wp2_with fail
  ((with_reducible refine (Vo.out _ E1.out).mono ?_); rintro r w3 ⟨rfl, g3⟩)
  obtain ⟨wb, hwb, hka, _, b4⟩ := alloc8 (w := w3) a0 a1 a2 a3 a4 a5 a6 F w3 (Below.refl _ _)
  have B4 := Lib.hid (B1.out.trans ((g3.trans (b4.mono g3.size)).mono B1.out.size))
  obtain ⟨k0, k1, k2, k3, k4, k5, k6, k7⟩ := rest8 hka
  clear g3 b4 hka j0 j1 j2 j3
  go_upto_region 7 with (fail)
  rw [← hwb]
  clear hwb
  go_wp2_with fail
  ((with_reducible refine (Pa.out _).mono ?_); rintro r w5 ⟨rfl, g5⟩)
  go_wp2_with fail
  go_ret3
  exact ⟨rfl, B4.out.trans (g5.mono B4.out.size)⟩
end Go.Proofs.YtnlpkehllihllaaGreatDoor
