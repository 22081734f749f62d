/-
  Small functions: nat.at, ten.cut, the logarithms, cmp.Compare, Add64, Sub64, Mul64, Len64.
-/
import Derived.Test.YtfciahfdmnnejaaDoorMem
import Derived.WalkSpells
import Derived.Lib.Hide
import Derived.Shelf.Bits.Mul64
import Derived.Shelf.Spec.BitsCarry
namespace Go.Proofs.YtfciahfdmnnejaaDoor
open Go.RowKit

theorem ret_int {k : IntKind} {a b : Int} (h : a = b) : Ending.returned (.int k a) = .returned (.int k b) := by rw [h]
theorem ret_bool {a b : Bool} (h : a = b) : Ending.returned (.bool a) = .returned (.bool b) := by rw [h]

set_option maxHeartbeats 400000 in
/-- nat.at: the word at a place; 0 behind the last one. -/
theorem at_any (A : Option Addr) (n c : Nat) (ws : List Nat) (i : Int) (w : World) (hr : RW w A ws) (hl : ws.length = n) (hi0 : 0 ≤ i) (hi : i ≤ 9223372036854775807) :
    Calls Tryd.prog 50 #[.slice A n c, .int .i64 i] w fun e w' => e = .returned (U (ws.getD i.toNat 0)) ∧ w = w' := by
  have Hl := Lib.hid hl
  clear hl
  by_cases h : i < n
  · obtain ⟨b, off, rfl, hb, hcell⟩ := hr.at_ (k := i.toNat) (by rw [Hl.out]; omega)
    have hcm := hcell i.toNat (by rw [Hl.out]; omega)
    obtain ⟨x, hx⟩ : ∃ x : Nat, x = ws.getD i.toNat 0 := ⟨_, rfl⟩
    rw [← hx] at hcm
    have Hx := Lib.hid hx
    rw [← hx]
    clear hx hcell
    go_enter Tryd.func50, Tryd.ntmps50
    go_wp2
    go_ret
    exact ⟨rfl, rfl⟩
  · have e : ws.getD i.toNat 0 = 0 := by rw [List.getD_eq_getElem?_getD, List.getElem?_eq_none (by rw [Hl.out]; omega)]; rfl
    rw [e]
    clear e
    go_enter Tryd.func50, Tryd.ntmps50
    go_wp2
    go_ret
    exact ⟨rfl, rfl⟩

/-- ten.cut. -/
def cutI (n : Int) : Int := min (max n (-5000)) 5000
set_option maxHeartbeats 400000 in
theorem cut_any (n : Int) (w : World) : Calls Tryd.prog 34 #[.int .i64 n] w fun e w' => e = .returned (.int .i64 (cutI n)) ∧ w = w' := by
  go_enter Tryd.func34, Tryd.ntmps34
  go_wp2
  all_goals
    go_ret
    exact ⟨ret_int (by unfold cutI; omega), rfl⟩

set_option maxHeartbeats 400000 in
theorem log10Of2_any (n : Int) (w : World) : Calls Tryd.prog 13 #[.int .i64 n] w fun e w' => e = .returned (.int .i64 (cutI n * 661971961083 / 2199023255552)) ∧ w = w' := by
  have h1 : -5000 ≤ cutI n := by unfold cutI; omega
  have h2 : cutI n ≤ 5000 := by unfold cutI; omega
  go_enter Tryd.func13, Tryd.ntmps13
  go_wp2_with (go_at_call 34; refine (cut_any _ _).mono ?_; rintro e w' ⟨rfl, rfl⟩)
  go_ret
  exact ⟨rfl, rfl⟩

set_option maxHeartbeats 400000 in
theorem log2Of10_any (n : Int) (w : World) : Calls Tryd.prog 14 #[.int .i64 n] w fun e w' => e = .returned (.int .i64 (cutI n * 913124641741 / 274877906944)) ∧ w = w' := by
  have h1 : -5000 ≤ cutI n := by unfold cutI; omega
  have h2 : cutI n ≤ 5000 := by unfold cutI; omega
  go_enter Tryd.func14, Tryd.ntmps14
  go_wp2_with (go_at_call 34; refine (cut_any _ _).mono ?_; rintro e w' ⟨rfl, rfl⟩)
  go_ret
  exact ⟨rfl, rfl⟩

/-- cmp.Compare. -/
def cmpI (a b : Int) : Int := if a < b then -1 else if b < a then 1 else 0
set_option maxHeartbeats 400000 in
theorem compare_int (a b : Int) (w : World) : Calls Tryd.prog 36 #[.int .i64 a, .int .i64 b] w fun e w' => e = .returned (.int .i64 (cmpI a b)) ∧ w = w' := by
  go_enter Tryd.func36, Tryd.ntmps36
  go_wp2
  all_goals
    go_ret
    exact ⟨ret_int (by unfold cmpI; omega), rfl⟩
set_option maxHeartbeats 400000 in
theorem compare_u64 (a b : Int) (w : World) : Calls Tryd.prog 37 #[.int .u64 a, .int .u64 b] w fun e w' => e = .returned (.int .i64 (cmpI a b)) ∧ w = w' := by
  go_enter Tryd.func37, Tryd.ntmps37
  go_wp2
  all_goals
    go_ret
    exact ⟨ret_int (by unfold cmpI; omega), rfl⟩

/-- math/bits.Add64: the sum and the carry. -/
def sumI (x y c : Int) : Int := (x + y + c) % 18446744073709551616
def carI (x y c : Int) : Int := (x + y + c) / 18446744073709551616
theorem sumI_nat (x y c : Nat) : sumI x y c = ((x + y + c) % 18446744073709551616 : Nat) := by unfold sumI; omega
theorem carI_nat (x y c : Nat) : carI x y c = ((x + y + c) / 18446744073709551616 : Nat) := by unfold carI; omega
theorem run_add64' (x y c : Int) (hx0 : 0 ≤ x) (hy0 : 0 ≤ y) (hc0 : 0 ≤ c) (hc : c ≤ 1) (w : World) :
    (callFunc 47 #[.int .u64 x, .int .u64 y, .int .u64 c]).run Tryd.prog w = .ok (.value (.tuple #[.int .u64 (sumI x y c), .int .u64 (carI x y c)])) w := by
  obtain ⟨x, rfl⟩ := Int.eq_ofNat_of_zero_le hx0
  obtain ⟨y, rfl⟩ := Int.eq_ofNat_of_zero_le hy0
  obtain ⟨c, rfl⟩ := Int.eq_ofNat_of_zero_le hc0
  rw [run_callFunc_extern Tryd.func47 (by kernel_rfl) (by kernel_rfl) (by kernel_rfl) (e := add64Entry) (by kernel_rfl), run_add64 x y c (by omega) (by omega) (by omega) (by omega)]
  rw [sumI_nat, carI_nat]
  simp only [Result.andThen]
  congr 5 <;> omega

/-- math/bits.Sub64: the difference and the borrow. -/
def difI (x y b : Int) : Int := (x + 18446744073709551616 - y - b) % 18446744073709551616
def borI (x y b : Int) : Int := if x < y + b then 1 else 0
theorem run_sub64' (x y b : Int) (hx0 : 0 ≤ x) (hy0 : 0 ≤ y) (hb0 : 0 ≤ b) (hb : b ≤ 1) (hy : y ≤ 18446744073709551615) (w : World) :
    (callFunc 83 #[.int .u64 x, .int .u64 y, .int .u64 b]).run Tryd.prog w = .ok (.value (.tuple #[.int .u64 (difI x y b), .int .u64 (borI x y b)])) w := by
  obtain ⟨x, rfl⟩ := Int.eq_ofNat_of_zero_le hx0
  obtain ⟨y, rfl⟩ := Int.eq_ofNat_of_zero_le hy0
  obtain ⟨b, rfl⟩ := Int.eq_ofNat_of_zero_le hb0
  rw [run_callFunc_extern Tryd.func83 (by kernel_rfl) (by kernel_rfl) (by kernel_rfl) (e := sub64Entry) (by kernel_rfl), run_sub64 x y b (by omega)]
  have e1 : difI x y b = (((x + 18446744073709551616 - y - b) % 18446744073709551616 : Nat) : Int) := by unfold difI; omega
  have e2 : borI x y b = ((if x < y + b then 1 else 0 : Nat) : Int) := by unfold borI; split <;> split <;> omega
  rw [e1, e2]
  rfl

/-- math/bits.Mul64: the high word and the low word. -/
def mulhI (x y : Int) : Int := x * y / 18446744073709551616
def mullI (x y : Int) : Int := x * y % 18446744073709551616
theorem mulhI_nat (x y : Nat) : mulhI x y = ((x * y / 18446744073709551616 : Nat) : Int) := by unfold mulhI; rw [← Int.natCast_mul]; omega
theorem mullI_nat (x y : Nat) : mullI x y = ((x * y % 18446744073709551616 : Nat) : Int) := by unfold mullI; rw [← Int.natCast_mul]; omega
set_option maxHeartbeats 1000000 in
theorem mul64_nat (x y : Nat) (hx : x < 18446744073709551616) (hy : y < 18446744073709551616) (w : World) :
    Calls Tryd.prog 46 #[.int .u64 x, .int .u64 y] w fun e w' => e = .returned (.tuple #[.int .u64 ((x * y / 18446744073709551616 : Nat) : Int), .int .u64 ((x * y % 18446744073709551616 : Nat) : Int)]) ∧ w = w' := by
  obtain ⟨bd, bt, bw, hhi⟩ := Lib.mul64_hi x y hx hy
  have ba := Lib.half_mul_le (a := x / 4294967296) (b := y / 4294967296) (by omega) (by omega)
  have bb := Lib.half_mul_le (a := x / 4294967296) (b := y % 4294967296) (by omega) (by omega)
  have bc := Lib.half_mul_le (a := x % 4294967296) (b := y / 4294967296) (by omega) (by omega)
  have ba' : x / 4294967296 * (y / 4294967296) < 18446744073709551616 := by omega
  have bb' : x / 4294967296 * (y % 4294967296) < 18446744073709551616 := by omega
  have bc' : x % 4294967296 * (y / 4294967296) < 18446744073709551616 := by omega
  have bh1 : x / 4294967296 * (y / 4294967296) + (x / 4294967296 * (y % 4294967296) + x % 4294967296 * (y % 4294967296) / 4294967296) / 4294967296 < 18446744073709551616 := by omega
  have bh : x / 4294967296 * (y / 4294967296) + (x / 4294967296 * (y % 4294967296) + x % 4294967296 * (y % 4294967296) / 4294967296) / 4294967296 + ((x / 4294967296 * (y % 4294967296) + x % 4294967296 * (y % 4294967296) / 4294967296) % 4294967296 + x % 4294967296 * (y / 4294967296)) / 4294967296 < 18446744073709551616 := by omega
  go_enter Tryd.func46, Tryd.ntmps46
  go_wp2
  simp only [Mul64.maskN x hx, Mul64.maskN y hy, Mul64.divN, Mul64.mulN, Mul64.addN, Mul64.wrapN _ bd, Mul64.wrapN _ bb', Mul64.wrapN _ bt, Mul64.maskN _ bt, Mul64.wrapN _ bc', Mul64.wrapN _ bw, Mul64.wrapN _ ba', Mul64.wrapN _ bh1, Mul64.wrapN _ bh, Mul64.wrapM (x * y)]
  rw [hhi]
  go_ret2
  exact ⟨rfl, rfl⟩
theorem mul64_any (x y : Int) (hx0 : 0 ≤ x) (hx : x ≤ 18446744073709551615) (hy0 : 0 ≤ y) (hy : y ≤ 18446744073709551615) (w : World) :
    Calls Tryd.prog 46 #[.int .u64 x, .int .u64 y] w fun e w' => e = .returned (.tuple #[.int .u64 (mulhI x y), .int .u64 (mullI x y)]) ∧ w = w' := by
  obtain ⟨x, rfl⟩ := Int.eq_ofNat_of_zero_le hx0
  obtain ⟨y, rfl⟩ := Int.eq_ofNat_of_zero_le hy0
  rw [mulhI_nat, mullI_nat]
  exact mul64_nat x y (by omega) (by omega) w
end Go.Proofs.YtfciahfdmnnejaaDoor
