/-
  A part of the proofs that calipertop.TopBack, TopFloats and TopNearest return true for every input and leave it as it was: part 45 of 47.
-/
import Derived.Test.YtnlpkehllihllaaGreatDoorGt44
import Derived.Test.YtnlpkehllihllaaGreatDoorGt35
/-
  The walk of calipertop.TopNearest.
-/
namespace Go.Proofs.YtnlpkehllihllaaGreatDoor
open Go.RowKit Go.Sort

/-- What the end of TopNearest asks of a comparison. -/
theorem cmp_neg {x y : Int} (h : cmpI x y < 0) : cmpI x y = -1 := by
  unfold cmpI at h ⊢
  split at h
  · next q => rw [if_pos q]
  · next q => split at h <;> omega
theorem cmp_pos {x y : Int} (h : 0 < cmpI x y) : cmpI x y = 1 := by
  unfold cmpI at h ⊢
  split at h
  · omega
  · next q =>
    split at h
    · next r => rw [if_neg q, if_pos r]
    · omega

def sliceLen : Value → Nat
  | .slice _ n _ => n
  | _ => 0

set_option maxHeartbeats 6400000 in
set_option maxRecDepth 100000 in
/-- calipertop.TopNearest. -/
theorem near_walk (id : Int) (g : Bool) (A : Option Addr) (L c : Nat) (ws : List Nat) (t f : Int) (key : Nat) (w : World) (hr : RW w A ws) (hl : ws.length = L) (ho : okw ws) (hc : L ≤ c) (hm : c ≤ maxLen) (hk : key < 18446744073709551616) (hE : Env w) (hT : Tab w) :
    Calls Tryz.prog 3 #[.int .i64 id, .agg #[.bool g, .slice A L c, .int .i64 t, .int .i64 f], U key] w fun r w' => r = .returned (.bool true) ∧ Below w.heap.size w w' := by
  -- the form
  obtain ⟨a, ha, hid⟩ := low_sixteen id
  obtain ⟨n, hn⟩ : ∃ n, n = 5 + a % 6 := ⟨_, rfl⟩
  have n1 : 5 ≤ n := by omega
  have n2 : n ≤ 10 := by omega
  have hn1 : (5 : Int) + Int.tmod (a : Int) 6 = (n : Int) := by rw [Int.tmod_eq_emod_of_nonneg (by omega)]; omega
  have hn2 : (5 : Int) + (a : Int) % 6 = (n : Int) := by omega
  have hn3 : (5 : Int) + ((a % 6 : Nat) : Int) = (n : Int) := by omega
  clear hn ha
  -- the words
  obtain ⟨M, hM⟩ : ∃ M, M = min L 40 := ⟨_, rfl⟩
  have hML : M ≤ L := by omega
  have hM40 : M ≤ 40 := by omega
  have HM := Lib.hid hM
  clear hM
  obtain ⟨W0, hW0⟩ : ∃ W0, W0 = ws.take M := ⟨_, rfl⟩
  have r0 : RW w A W0 := by rw [hW0]; exact hr.take M
  have l0 : W0.length = M := by rw [hW0, List.length_take, hl]; omega
  have o0 : okw W0 := by rw [hW0]; intro x hx; exact ho x (List.mem_of_mem_take hx)
  clear hr hl ho hW0
  have hmL : c ≤ 9223372036854775807 := by unfold maxLen at hm; omega
  have HN := Lib.hid (num_of_rw r0 l0 o0 (by omega : M ≤ c) hm)
  have hX : lw (val W0) = tl W0 M := by have := tl_len o0; rw [l0] at this; exact this.symm
  have hlX : lw (val W0) ≤ 40 := by have := tl_le W0 M; omega
  obtain ⟨X, hXX⟩ : ∃ X, X = val W0 := ⟨_, rfl⟩
  rw [← hXX] at HN hX hlX
  rw [← hX] at HN
  -- the powers
  obtain ⟨t1, ht1⟩ : ∃ t1, t1 = min t 1000 := ⟨_, rfl⟩
  obtain ⟨t2, ht2⟩ : ∃ t2, t2 = max t1 (-1000) := ⟨_, rfl⟩
  obtain ⟨f1, hf1⟩ : ∃ f1, f1 = min f 1000 := ⟨_, rfl⟩
  obtain ⟨f2, hf2⟩ : ∃ f2, f2 = max f1 (-1000) := ⟨_, rfl⟩
  have m1 := fun ts ty W => show (Builtin.min_ ts ty #[.int .i64 t, .int .i64 1000]).run Tryz.prog W = .ok (.int .i64 t1) W from by rw [run_min_int2, show (if (1000 : Int) < t then 1000 else t) = t1 by rw [ht1]; split <;> omega]
  have m2 := fun ts ty W => show (Builtin.max_ ts ty #[.int .i64 t1, .int .i64 (-1000)]).run Tryz.prog W = .ok (.int .i64 t2) W from by rw [run_max_int2, show (if (-1000 : Int) > t1 then -1000 else t1) = t2 by rw [ht2]; split <;> omega]
  have m3 := fun ts ty W => show (Builtin.min_ ts ty #[.int .i64 f, .int .i64 1000]).run Tryz.prog W = .ok (.int .i64 f1) W from by rw [run_min_int2, show (if (1000 : Int) < f then 1000 else f) = f1 by rw [hf1]; split <;> omega]
  have m4 := fun ts ty W => show (Builtin.max_ ts ty #[.int .i64 f1, .int .i64 (-1000)]).run Tryz.prog W = .ok (.int .i64 f2) W from by rw [run_max_int2, show (if (-1000 : Int) > f1 then -1000 else f1) = f2 by rw [hf2]; split <;> omega]
  have m5 := fun ts ty W => show (Builtin.min_ ts ty #[.int .i64 L, .int .i64 40]).run Tryz.prog W = .ok (.int .i64 M) W from by rw [run_min_int2, show (if (40 : Int) < (L : Int) then 40 else (L : Int)) = (M : Int) by have := HM.out; split <;> omega]
  have XO : XOk X t2 f2 := ⟨by omega, by omega, by omega, by omega, by omega⟩
  -- the calls
  obtain ⟨at1, at2, at3, at4, at5, at6⟩ := at_kind n1 n2
  have Wk := Lib.hid fun W (hE : Env W) (hT : Tab W) => works_any W hE hT
  have Ne := Lib.hid fun W (h : Num W (.slice A (lw X) c) X) (hE : Env W) => nearest_any n false false (.slice A (lw X) c) X t2 f2 W (by omega) (by omega) (fun q => by cases q) h XO hE
  have Mo := Lib.hid fun W (hE : Env W) => most_any n false W (by omega) (by omega) (fun q => by cases q) hE
  have hmost : (formAt n).top ≤ (formAt n).most := by rw [← at4]; exact mostN_le _
  rw [at4] at Ne Mo
  have Va := Lib.hid fun k (hk : k ≤ (formAt n).top) W (hE : Env W) => vat_any n k W n1 n2 (Nat.le_trans hk hmost) hE
  have Ve := Lib.hid fun k (hk : k ≤ (formAt n).top) => at_ex n1 n2 (Nat.le_trans hk hmost)
  have Nl := Lib.hid fun k ky S (h : NearIs (formAt n) (formAt n).top (ex X t2 f2) k false) (hk : ky ≤ (formAt n).top) (hS : 2 * S = VV (formAt n) k + VV (formAt n) ky) => near_end n1 n2 h hk hS
  have Nk := Lib.hid fun k (h : NearIs (formAt n) (formAt n).top (ex X t2 f2) k false) => show k ≤ (formAt n).top from (near_law n1 n2 h (Nat.le_refl _)).1
  have Of := Lib.hid fun (x : Nat) (hx : x < 18446744073709551616) W => of_any x W hx
  have Sh := Lib.hid fun (x : Nat) (e : Int) (hx : lw x ≤ 64) va W (h : Num W va x) => shl_any va x e W h (by omega)
  have Ad := Lib.hid fun (x y : Nat) (hx : lw x ≤ 64) (hy : lw y ≤ 64) va vb W (h : Num W va x) (h2 : Num W vb y) => add_any va vb x y W h h2 (by omega)
  have Cx := Lib.hid fun (y : Nat) (e : Int) (hy : lw y ≤ 256) (e1 : -2500 ≤ e) (e2 : e ≤ 2500) vb W (h : Num W (.slice A (lw X) c) X) (h2 : Num W vb y) => cmpx_any false false (.slice A (lw X) c) vb X y t2 f2 e 0 W h h2 (by omega) hy XO.t1 XO.t2 e1 e2 XO.f1 XO.f2 (by omega) (by omega)
  obtain ⟨T, hTop⟩ : ∃ T, T = (formAt n).top := ⟨_, rfl⟩
  rw [← hTop] at Ne Mo Va Ve Nl Nk at5
  have Hf := Lib.hid hTop
  have HE := Lib.hid hE
  have HT := Lib.hid hT
  have R0 := Lib.hid r0
  have L0 := Lib.hid l0
  have HX := Lib.hid hX
  have HlX := Lib.hid hlX
  clear hTop at1 at2 at3 at4 at6 hmost hE hT r0 l0 o0 hX hlX hXX XO ht1 ht2 hf1 hf2
  obtain ⟨hka, ba⟩ := new4 w 25 (.bool g) (.slice A L c) (.int .i64 t) (.int .i64 f)
  obtain ⟨wa, hwa⟩ : ∃ wa, wa = w.alloc (.cells #[.bool g, .slice A L c, .int .i64 t, .int .i64 f] 25) := ⟨_, rfl⟩
  rw [← hwa] at hka ba
  have HKA := Lib.hid hka
  have HBA := Lib.hid ba
  have EA := Lib.hid (HE.out.below ba)
  have TA := Lib.hid (HT.out.below ba (Nat.le_refl _))
  clear hka ba
  go_enter Tryz.func3, Tryz.ntmps3
  go_upto_region 1 with (fail)
  rw [← hwa]
  clear hwa
  go_wp2_with fail
  ((with_reducible refine (Wk.out _ EA.out TA.out).mono ?_); rintro r w1 ⟨rfl, g1⟩)
  have HK1 := Lib.hid (Blk.below HKA.out g1 HKA.out.lt)
  have HB1 := Lib.hid (HBA.out.trans (g1.mono HBA.out.size))
  clear g1 HKA HBA EA TA Wk
  obtain ⟨k0, k1, k2, k3⟩ := rest4 HK1.out
  have hm0 : M ≤ c := by omega
  go_upto_region 3 with (fail)
  go_cut [8] (fun v wx => v = .slice A M c ∧ wx = w1)
  case first =>
    go_wp2_with fail
    go_meet
    exact ⟨rfl, rfl⟩
  case rest =>
  obtain ⟨rfl, rfl⟩ := hcut
  go_upto_block 0 with (fail)
  go_cut [8] from 35 to 51 (fun v wx => v = .slice A (lw X) c ∧ wx = wc)
  case first =>
    go_wp2_with fail
    go_loop [8] (fun v => ∃ k : Nat, k ≤ M ∧ v = .slice A k c ∧ Hid (tl W0 M = tl W0 k)) (fun v => sliceLen v)
    case atStart => exact ⟨M, Nat.le_refl _, rfl, rfl⟩
    case round =>
      obtain ⟨k, hk, rfl, ht⟩ := hrel
      by_cases h0 : k = 0
      · subst h0
        have e0 := Lib.hid (show lw X = 0 by rw [HX.out]; exact ht.out)
        go_wp2_with fail
        go_meet
        exact ⟨by rw [e0.out], rfl⟩
      · have rw1 : RW wc A W0 := R0.out.below HB1.out
        obtain ⟨b, off, rfl, hb, hcell⟩ := rw1.at_ (k := k - 1) (by rw [L0.out]; omega)
        obtain ⟨m, rfl⟩ : ∃ m, k = m + 1 := ⟨k - 1, by omega⟩
        have hcm := hcell m (by rw [L0.out]; omega)
        obtain ⟨x, hx⟩ : ∃ x : Nat, x = W0.getD m 0 := ⟨_, rfl⟩
        rw [← hx] at hcm
        have Hx := Lib.hid hx
        clear hx hcell
        by_cases hz : x = 0
        · subst hz
          go_wp2_with fail
          go_round
          case rel => exact ⟨m, by omega, rfl, by rw [ht.out]; exact tl_hit _ _ Hx.out.symm⟩
          case measure => simp [sliceLen]
        · have hz' : ((x : Int) == 0) = false := by simp; omega
          have e0 : lw X = m + 1 := by rw [HX.out, ht.out, tl_miss _ _ (by rw [← Hx.out]; exact hz)]
          have E0 := Lib.hid e0
          clear e0
          go_wp2_with fail
          go_meet
          exact ⟨by rw [E0.out], rfl⟩
  case rest =>
  obtain ⟨rfl, rfl⟩ := hcut
  obtain ⟨wq, rfl⟩ : ∃ wq, wq = wc := ⟨_, rfl⟩
  have q0 : ∀ o, wq.frozen? ⟨w.heap.size, o, none⟩ = false := fun o => Blk.frozen HK1.out o
  go_upto_region 7 with (fail)
  obtain ⟨w2, hw2, hk2, hb2, _⟩ := stored4 HK1.out (Nat.le_refl _) HB1.out (.bool false) (.slice A (lw X) c) (.int .i64 t2) (.int .i64 f2)
  rw [hw2]
  have HK2 := Lib.hid hk2
  have HB2 := Lib.hid hb2
  have E2 := Lib.hid (HE.out.below hb2)
  have N2 := Lib.hid (HN.out.below hb2)
  clear hw2 hk2 hb2 q0 k0 k1 k2 k3 HK1 HB1 m1 m2 m3 m4 m5
  obtain ⟨k0, k1, k2, k3⟩ := rest4 HK2.out
  go_wp2_with fail
  ((with_reducible refine (Ne.out _ N2.out E2.out).mono ?_); rintro r w3 ⟨k, over, rfl, hN, g3⟩)
  have HK3 := Lib.hid (Blk.below HK2.out g3 HK2.out.lt)
  have HB3 := Lib.hid (HB2.out.trans (g3.mono HB2.out.size))
  have E3 := Lib.hid (E2.out.below g3)
  clear g3 HK2 HB2 E2 N2 k0 k1 k2 k3 Ne
  cases over
  case true =>
    go_wp2_with fail
    go_ret
    exact ⟨rfl, HB3.out⟩
  case false =>
  have hkT := Nk.out k hN.out
  obtain ⟨kz, hkz⟩ : ∃ kz, kz = key % (T + 1) := ⟨_, rfl⟩
  have hkzT : kz ≤ T := by have := Nat.mod_lt key (show 0 < T + 1 by omega); omega
  have q2 : (key : Int) % ((T : Int) + 1) = (kz : Int) := by rw [hkz, Int.natCast_emod]; rfl
  have q1 : Int.tmod (key : Int) ((T : Int) + 1) = (kz : Int) := by rw [Int.tmod_eq_emod_of_nonneg (by omega), q2]
  have q3 : (((T : Int) + 1) == 0) = false := by rw [beq_eq_false_iff_ne]; omega
  clear hkz
  have HNN := Lib.hid hN.out
  clear hN
  go_wp2_with fail
  ((with_reducible refine (Mo.out _ E3.out).mono ?_); rintro r w4 ⟨rfl, g4⟩)
  have HK4 := Lib.hid (Blk.below HK3.out g4 HK3.out.lt)
  have HB4 := Lib.hid (HB3.out.trans (g4.mono HB3.out.size))
  have E4 := Lib.hid (E3.out.below g4)
  clear g4 HK3 HB3 E3 Mo
  by_cases hkk : kz = k
  · have t9 : ((kz : Int) == (k : Int)) = true := by rw [hkk]; exact beq_self_eq_true _
    clear hkk
    go_wp2_with fail
    go_ret
    exact ⟨rfl, HB4.out⟩
  have t9 : ((kz : Int) == (k : Int)) = false := by rw [beq_eq_false_iff_ne]; omega
  go_upto_region 14 with (fail)
  clear q1 q2 q3
  obtain ⟨va1, va2, va3, va4⟩ := Ve.out k hkT
  obtain ⟨vb1, vb2, vb3, vb4⟩ := Ve.out kz hkzT
  have Va1 := Lib.hid (Va.out k hkT)
  have Va2 := Lib.hid (Va.out kz hkzT)
  have Nl1 := Lib.hid fun S (hS : 2 * S = VV (formAt n) k + VV (formAt n) kz) => Nl.out k kz S HNN.out hkzT hS
  clear Va Ve Nl Nk HNN
  rw [← va1, ← vb1] at Nl1
  clear va1 vb1
  obtain ⟨a1, ha1⟩ : ∃ a1, a1 = atM n k := ⟨_, rfl⟩
  obtain ⟨d1, hd1⟩ : ∃ d1, d1 = atE n k := ⟨_, rfl⟩
  obtain ⟨a2, ha2⟩ : ∃ a2, a2 = atM n kz := ⟨_, rfl⟩
  obtain ⟨d2, hd2⟩ : ∃ d2, d2 = atE n kz := ⟨_, rfl⟩
  rw [← ha1, ← hd1] at Va1 Nl1
  rw [← ha2, ← hd2] at Va2 Nl1
  rw [← ha1] at va2
  rw [← hd1] at va3 va4
  rw [← ha2] at vb2
  rw [← hd2] at vb3 vb4
  clear ha1 hd1 ha2 hd2
  obtain ⟨mm, hmm⟩ : ∃ mm, mm = min d1 d2 := ⟨_, rfl⟩
  have m6 := fun ts ty W => show (Builtin.min_ ts ty #[.int .i64 d1, .int .i64 d2]).run Tryz.prog W = .ok (.int .i64 mm) W from by rw [run_min_int2, show (if d2 < d1 then d2 else d1) = mm by rw [hmm]; split <;> omega]
  have Mid := mid_ex (a := a1) (b := a2) va3 va4 vb3 vb4
  rw [← hmm] at Mid
  obtain ⟨lo, hlo⟩ : ∃ lo, lo = mm - 1 := ⟨_, rfl⟩
  rw [← hlo] at Mid
  obtain ⟨ea, hea⟩ : ∃ ea, ea = d1 - lo - 1 := ⟨_, rfl⟩
  obtain ⟨eb, heb⟩ : ∃ eb, eb = d2 - lo - 1 := ⟨_, rfl⟩
  have la : lw (a1 * 2 ^ shN ea) ≤ 64 := by rw [hea, hlo]; exact mid_lw va2 (by omega) (by omega)
  have lb : lw (a2 * 2 ^ shN eb) ≤ 64 := by rw [heb, hlo]; exact mid_lw vb2 (by omega) (by omega)
  rw [← hea, ← heb] at Mid
  have l0 : mm - 1 = lo := hlo.symm
  have l1 : d1 - lo - 1 = ea := hea.symm
  have l2 : d2 - lo - 1 = eb := heb.symm
  have b1 : -1101 ≤ lo := by omega
  have b2 : lo ≤ 1169 := by omega
  have b3 : -1100 ≤ mm := by omega
  have b4 : mm ≤ 1170 := by omega
  have b5 : -5000 ≤ d1 - lo := by omega
  have b6 : d1 - lo ≤ 5000 := by omega
  have b7 : -5000 ≤ d2 - lo := by omega
  have b8 : d2 - lo ≤ 5000 := by omega
  clear hmm hlo hea heb
  obtain ⟨xa, hxa⟩ : ∃ xa, xa = a1 * 2 ^ shN ea := ⟨_, rfl⟩
  obtain ⟨xb, hxb⟩ : ∃ xb, xb = a2 * 2 ^ shN eb := ⟨_, rfl⟩
  rw [← hxa] at la
  rw [← hxb] at lb
  rw [← hxa, ← hxb] at Mid
  have Sh1 := Lib.hid fun va W (h : Num W va a1) => Sh.out a1 ea (Nat.le_trans (lw_le (k := 1) (by rw [bp_two]; simpa using va2)) (by omega)) va W h
  have Sh2 := Lib.hid fun va W (h : Num W va a2) => Sh.out a2 eb (Nat.le_trans (lw_le (k := 1) (by rw [bp_two]; simpa using vb2)) (by omega)) va W h
  rw [← hxa] at Sh1
  rw [← hxb] at Sh2
  have Of1 := Lib.hid (Of.out a1 va2)
  have Of2 := Lib.hid (Of.out a2 vb2)
  have Ad1 := Lib.hid (Ad.out xa xb la lb)
  have ls : lw (xa + xb) ≤ 256 := by have := lw_add xa xb; omega
  have Cx1 := Lib.hid (Cx.out (xa + xb) lo ls (by omega) (by omega))
  have Nl2 := Lib.hid (Nl1.out _ Mid)
  clear Of Sh Ad Cx Mid Nl1 la lb ls hxa hxb va2 vb2
  obtain ⟨SS, hSS⟩ : ∃ SS, SS = xa + xb := ⟨_, rfl⟩
  rw [← hSS] at Ad1 Cx1 Nl2
  clear hSS
  obtain ⟨z, hz⟩ : ∃ z, z = cmpI (ex X t2 f2 : Int) (ex SS lo 0 : Int) := ⟨_, rfl⟩
  have zn := cmp_neg (x := (ex X t2 f2 : Int)) (y := (ex SS lo 0 : Int))
  have zp := cmp_pos (x := (ex X t2 f2 : Int)) (y := (ex SS lo 0 : Int))
  rw [← hz] at Cx1 Nl2 zn zp
  have Zn := Lib.hid zn
  have Zp := Lib.hid zp
  clear hz zn zp
  go_wp2_with fail
  ((with_reducible refine (Va1.out _ E4.out).mono ?_); rintro r w5 ⟨rfl, g5⟩)
  have HK5 := Lib.hid (Blk.below HK4.out g5 HK4.out.lt)
  have HB5 := Lib.hid (HB4.out.trans (g5.mono HB4.out.size))
  have E5 := Lib.hid (E4.out.below g5)
  clear g5 HK4 HB4 E4 Va1
  go_wp2_with fail
  ((with_reducible refine (Va2.out _ E5.out).mono ?_); rintro r w6 ⟨rfl, g6⟩)
  have HK6 := Lib.hid (Blk.below HK5.out g6 HK5.out.lt)
  have HB6 := Lib.hid (HB5.out.trans (g6.mono HB5.out.size))
  clear g6 HK5 HB5 E5 Va2
  go_wp2_with fail
  ((with_reducible refine (Of1.out _).mono ?_); rintro r w7 ⟨v1, rfl, n7, g7⟩)
  have N7 := Lib.hid n7
  clear n7
  go_wp2_with fail
  ((with_reducible refine (Sh1.out _ _ N7.out).mono ?_); rintro r w8 ⟨v2, rfl, n8, g8⟩)
  have N8 := Lib.hid n8
  clear n8
  go_wp2_with fail
  ((with_reducible refine (Of2.out _).mono ?_); rintro r w9 ⟨v3, rfl, n9, g9⟩)
  have N9 := Lib.hid n9
  clear n9
  go_wp2_with fail
  ((with_reducible refine (Sh2.out _ _ N9.out).mono ?_); rintro r wA ⟨v4, rfl, nA, gA⟩)
  have NA := Lib.hid nA
  have N8A := Lib.hid (N8.out.below (g9.trans (gA.mono g9.size)))
  have GA := Lib.hid (g7.trans ((g8.trans ((g9.trans (gA.mono g9.size)).mono g8.size)).mono g7.size))
  have HKA := Lib.hid (Blk.below HK6.out GA.out HK6.out.lt)
  have HBA := Lib.hid (HB6.out.trans (GA.out.mono HB6.out.size))
  clear nA g7 g8 g9 gA GA HK6 HB6 N7 N8 N9
  go_wp2_with fail
  ((with_reducible refine (Ad1.out _ _ _ N8A.out NA.out).mono ?_); rintro r wB ⟨v5, rfl, nB, gB⟩)
  have HKB := Lib.hid (Blk.below HKA.out gB HKA.out.lt)
  have HBB := Lib.hid (HBA.out.trans (gB.mono HBA.out.size))
  have NB := Lib.hid nB
  have NX := Lib.hid (HN.out.below HBB.out)
  have nB2 := nB
  obtain ⟨A5, c5, rfl, _, _, _⟩ := nB2
  clear nB gB HKA HBA N8A NA
  obtain ⟨k0, k1, k2, k3⟩ := rest4 HKB.out
  go_wp2_with fail
  ((with_reducible refine (Cx1.out _ _ NX.out NB.out).mono ?_); rintro r wC ⟨rfl, gC⟩)
  have HBC := Lib.hid (HBB.out.trans (gC.mono HBB.out.size))
  clear gC k0 k1 k2 k3 HKB HBB NB NX
  by_cases hlt : k < kz
  · have s1 : decide ((k : Int) < (kz : Int)) = true := by simpa using hlt
    rcases Nl2.out.1 hlt with h | ⟨h, h2⟩
    · obtain rfl := Zn.out h
      clear h
      go_wp2_with fail
      go_ret
      exact ⟨rfl, HBC.out⟩
    · subst h
      have s2 : (Int.tmod (k : Int) 2 == 0) = true := by rw [Int.tmod_eq_emod_of_nonneg (by omega), beq_iff_eq]; omega
      have s3 : ((k : Int) % 2 == 0) = true := by rw [beq_iff_eq]; omega
      have s4 : (k : Int) % 2 = 0 := by omega
      clear h2
      go_wp2_with fail
      go_ret
      exact ⟨rfl, HBC.out⟩
  · have s1 : decide ((k : Int) < (kz : Int)) = false := by simpa using hlt
    rcases Nl2.out.2 (by omega) with h | ⟨h, h2⟩
    · obtain rfl := Zp.out h
      clear h
      go_wp2_with fail
      go_ret
      exact ⟨rfl, HBC.out⟩
    · subst h
      have s2 : (Int.tmod (k : Int) 2 == 0) = true := by rw [Int.tmod_eq_emod_of_nonneg (by omega), beq_iff_eq]; omega
      have s3 : ((k : Int) % 2 == 0) = true := by rw [beq_iff_eq]; omega
      have s4 : (k : Int) % 2 = 0 := by omega
      clear h2
      go_wp2_with fail
      go_ret
      exact ⟨rfl, HBC.out⟩
end Go.Proofs.YtnlpkehllihllaaGreatDoor
