/-
  NARROWER THAN 'FOR EVERY INPUT', by the rows' own cells (each row's printed sentence says how): TenPowers: laid · TenSignificands: laid · TenGoes: laid · TenCut: laid · TenProducts: laid · TenTops: laid · TenBits: laid · TenNext: laid · TenChecked: laid.
  DERIVED. THE GIVEN ROWS OF THIS SEAT. 9 by the template 'for every input the law returns true; each argument reads behind the call as it read before'; 0 by the template 'total and deterministic' (their statements: YtfciahfdmnnejaaDoorTotals.lean).
  GIVEN WITH THE SEED: the statements are not yours to turn. If you find one false, say at which input.
  Laid BY PROGRAM, IN A SANDBOX (cutbox-rows.mjs): the forced cells as the released guide's own fill.sh prints them over the translation 0aa0e065de86a6bf… (all of the seat's roots in one cut). By AI agents, Wed Nov 11 2026. No macro, syntax, notation, axiom, sorry.
-/
import Derived.Test.YtfciahfdmnnejaaDoorChecked
import GoSem.Claim
import GoSem.ClaimJoined
import GoSem.ClaimMapViews
import Derived.JoinedTies
import Derived.KernelRfl
namespace Go.Proofs.YtfciahfdmnnejaaDoor
/- THE CELL 'sum', in the pinned program and in every row, IS THE sha256 OF THE DUMP (.gsa) THAT YtfciahfdmnnejaaDoorProg.lean LOADS. Nothing in Lean hashes anything: it is a label: what it is worth is what the hold of that sum in a sandbox is worth. -/
noncomputable def Tryd.pinned : Pinned := { name := "ytfciahfdmnnejaadoor", sum := "0aa0e065de86a6bf6866030eeade7fd989f453a04e5c64e70ee43318f6439b5d", checked := Tryd.checked }
namespace Rows
def none {H : Type} : Left H := { results := [], args := [] }

/- WHAT THE LISTED PACKAGE-LEVEL VARIABLES READ AS WHEN THE CALL BEGINS. Each datum BY PROGRAM (the guide's laid-datum.mjs) off the statement by which the dump's own 'gosem.cut.vars' lays the variable. In a bare row this is a premise. The card (YtfciahfdmnnejaaDoorCards.lean) ties it to the program's text. -/
def laid_math_bits_deBruijn32tab {H : Type} : DataW H := .agg [.lit (.int .u8 0), .lit (.int .u8 1), .lit (.int .u8 28), .lit (.int .u8 2), .lit (.int .u8 29), .lit (.int .u8 14), .lit (.int .u8 24), .lit (.int .u8 3), .lit (.int .u8 30), .lit (.int .u8 22), .lit (.int .u8 20), .lit (.int .u8 15), .lit (.int .u8 25), .lit (.int .u8 17), .lit (.int .u8 4), .lit (.int .u8 8), .lit (.int .u8 31), .lit (.int .u8 27), .lit (.int .u8 13), .lit (.int .u8 23), .lit (.int .u8 21), .lit (.int .u8 19), .lit (.int .u8 16), .lit (.int .u8 7), .lit (.int .u8 26), .lit (.int .u8 12), .lit (.int .u8 18), .lit (.int .u8 6), .lit (.int .u8 11), .lit (.int .u8 5), .lit (.int .u8 10), .lit (.int .u8 9)]
def laid_math_bits_deBruijn64tab {H : Type} : DataW H := .agg [.lit (.int .u8 0), .lit (.int .u8 1), .lit (.int .u8 56), .lit (.int .u8 2), .lit (.int .u8 57), .lit (.int .u8 49), .lit (.int .u8 28), .lit (.int .u8 3), .lit (.int .u8 61), .lit (.int .u8 58), .lit (.int .u8 42), .lit (.int .u8 50), .lit (.int .u8 38), .lit (.int .u8 29), .lit (.int .u8 17), .lit (.int .u8 4), .lit (.int .u8 62), .lit (.int .u8 47), .lit (.int .u8 59), .lit (.int .u8 36), .lit (.int .u8 45), .lit (.int .u8 43), .lit (.int .u8 51), .lit (.int .u8 22), .lit (.int .u8 53), .lit (.int .u8 39), .lit (.int .u8 33), .lit (.int .u8 30), .lit (.int .u8 24), .lit (.int .u8 18), .lit (.int .u8 12), .lit (.int .u8 5), .lit (.int .u8 63), .lit (.int .u8 55), .lit (.int .u8 48), .lit (.int .u8 27), .lit (.int .u8 60), .lit (.int .u8 41), .lit (.int .u8 37), .lit (.int .u8 16), .lit (.int .u8 46), .lit (.int .u8 35), .lit (.int .u8 44), .lit (.int .u8 21), .lit (.int .u8 52), .lit (.int .u8 32), .lit (.int .u8 23), .lit (.int .u8 11), .lit (.int .u8 54), .lit (.int .u8 26), .lit (.int .u8 40), .lit (.int .u8 15), .lit (.int .u8 34), .lit (.int .u8 20), .lit (.int .u8 31), .lit (.int .u8 10), .lit (.int .u8 25), .lit (.int .u8 14), .lit (.int .u8 19), .lit (.int .u8 9), .lit (.int .u8 13), .lit (.int .u8 8), .lit (.int .u8 7), .lit (.int .u8 6)]
def laid_internal_strconv_uint64pow10 {H : Type} : DataW H := .agg [.lit (.int .u64 1), .lit (.int .u64 10), .lit (.int .u64 100), .lit (.int .u64 1000), .lit (.int .u64 10000), .lit (.int .u64 100000), .lit (.int .u64 1000000), .lit (.int .u64 10000000), .lit (.int .u64 100000000), .lit (.int .u64 1000000000), .lit (.int .u64 10000000000), .lit (.int .u64 100000000000), .lit (.int .u64 1000000000000), .lit (.int .u64 10000000000000), .lit (.int .u64 100000000000000), .lit (.int .u64 1000000000000000), .lit (.int .u64 10000000000000000), .lit (.int .u64 100000000000000000), .lit (.int .u64 1000000000000000000), .lit (.int .u64 10000000000000000000)]

/-- 'caliperlaw03.TenPowers': WHATEVER THE INPUT: true; the input reads as it did. -/
def tenPowersSpec : ChangeSpec := { name := "tenPowers", fn := fun _ => fun
  | [d] => { results := [.lit (.bool true)], args := [d] }
  | _ => none }
def tenPowersRow : OpenClaim := { program := "ytfciahfdmnnejaadoor", sum := "0aa0e065de86a6bf6866030eeade7fd989f453a04e5c64e70ee43318f6439b5d", func := "caliper/caliperlaw03.TenPowers", spec := "tenPowers", inPlace := ["math/bits.Add64", "math/bits.Sub64", "internal/abi.NoEscape", "internal/bytealg.MakeNoZero"], recurses := true, named := ["math/bits.divideError", "math/bits.overflowError", "internal/strconv.uint64pow10", "math/bits.deBruijn32tab", "math/bits.deBruijn64tab"], apart := false, laid := [("math/bits.deBruijn32tab", laid_math_bits_deBruijn32tab), ("math/bits.deBruijn64tab", laid_math_bits_deBruijn64tab), ("internal/strconv.uint64pow10", laid_internal_strconv_uint64pow10)] }
def TenPowersSaid : Prop := tenPowersRow.holds Tryd.pinned (OpenSpec.ofChange tenPowersSpec)

/-- ITS FALSE NEIGHBOUR: 'it returns false'. Refute it at one input. -/
def tenPowersWrong : ChangeSpec := { name := "tenPowers", fn := fun _ => fun
  | [d] => { results := [.lit (.bool false)], args := [d] }
  | _ => none }
def TenPowersWrongFalsely : Prop := tenPowersRow.holds Tryd.pinned (OpenSpec.ofChange tenPowersWrong)

/-- 'caliperlaw03.TenSignificands': WHATEVER THE INPUT: true; the input reads as it did. -/
def tenSignificandsSpec : ChangeSpec := { name := "tenSignificands", fn := fun _ => fun
  | [d] => { results := [.lit (.bool true)], args := [d] }
  | _ => none }
def tenSignificandsRow : OpenClaim := { program := "ytfciahfdmnnejaadoor", sum := "0aa0e065de86a6bf6866030eeade7fd989f453a04e5c64e70ee43318f6439b5d", func := "caliper/caliperlaw03.TenSignificands", spec := "tenSignificands", inPlace := ["math/bits.Add64", "math/bits.Sub64", "internal/abi.NoEscape", "internal/bytealg.MakeNoZero"], recurses := true, named := ["math/bits.divideError", "math/bits.overflowError", "internal/strconv.uint64pow10", "math/bits.deBruijn32tab", "math/bits.deBruijn64tab"], apart := false, laid := [("math/bits.deBruijn32tab", laid_math_bits_deBruijn32tab), ("math/bits.deBruijn64tab", laid_math_bits_deBruijn64tab), ("internal/strconv.uint64pow10", laid_internal_strconv_uint64pow10)] }
def TenSignificandsSaid : Prop := tenSignificandsRow.holds Tryd.pinned (OpenSpec.ofChange tenSignificandsSpec)

/-- ITS FALSE NEIGHBOUR: 'it returns false'. Refute it at one input. -/
def tenSignificandsWrong : ChangeSpec := { name := "tenSignificands", fn := fun _ => fun
  | [d] => { results := [.lit (.bool false)], args := [d] }
  | _ => none }
def TenSignificandsWrongFalsely : Prop := tenSignificandsRow.holds Tryd.pinned (OpenSpec.ofChange tenSignificandsWrong)

/-- 'caliperlaw03.TenGoes': WHATEVER THE INPUT: true; the input reads as it did. -/
def tenGoesSpec : ChangeSpec := { name := "tenGoes", fn := fun _ => fun
  | [d1, d2] => { results := [.lit (.bool true)], args := [d1, d2] }
  | _ => none }
def tenGoesRow : OpenClaim := { program := "ytfciahfdmnnejaadoor", sum := "0aa0e065de86a6bf6866030eeade7fd989f453a04e5c64e70ee43318f6439b5d", func := "caliper/caliperlaw03.TenGoes", spec := "tenGoes", inPlace := ["math/bits.Add64", "math/bits.Sub64", "internal/abi.NoEscape", "internal/bytealg.MakeNoZero"], named := ["math/bits.divideError", "math/bits.overflowError", "internal/strconv.uint64pow10", "math/bits.deBruijn32tab", "math/bits.deBruijn64tab"], apart := false, laid := [("math/bits.deBruijn32tab", laid_math_bits_deBruijn32tab), ("math/bits.deBruijn64tab", laid_math_bits_deBruijn64tab), ("internal/strconv.uint64pow10", laid_internal_strconv_uint64pow10)] }
def TenGoesSaid : Prop := tenGoesRow.holds Tryd.pinned (OpenSpec.ofChange tenGoesSpec)

/-- ITS FALSE NEIGHBOUR: 'it returns false'. Refute it at one input. -/
def tenGoesWrong : ChangeSpec := { name := "tenGoes", fn := fun _ => fun
  | [d1, d2] => { results := [.lit (.bool false)], args := [d1, d2] }
  | _ => none }
def TenGoesWrongFalsely : Prop := tenGoesRow.holds Tryd.pinned (OpenSpec.ofChange tenGoesWrong)

/-- 'caliperlaw03.TenCut': WHATEVER THE INPUT: true; the input reads as it did. -/
def tenCutSpec : ChangeSpec := { name := "tenCut", fn := fun _ => fun
  | [d] => { results := [.lit (.bool true)], args := [d] }
  | _ => none }
def tenCutRow : OpenClaim := { program := "ytfciahfdmnnejaadoor", sum := "0aa0e065de86a6bf6866030eeade7fd989f453a04e5c64e70ee43318f6439b5d", func := "caliper/caliperlaw03.TenCut", spec := "tenCut", inPlace := ["math/bits.Add64", "math/bits.Sub64", "internal/abi.NoEscape", "internal/bytealg.MakeNoZero"], named := ["math/bits.divideError", "math/bits.overflowError", "internal/strconv.uint64pow10", "math/bits.deBruijn32tab", "math/bits.deBruijn64tab"], apart := false, laid := [("math/bits.deBruijn32tab", laid_math_bits_deBruijn32tab), ("math/bits.deBruijn64tab", laid_math_bits_deBruijn64tab), ("internal/strconv.uint64pow10", laid_internal_strconv_uint64pow10)] }
def TenCutSaid : Prop := tenCutRow.holds Tryd.pinned (OpenSpec.ofChange tenCutSpec)

/-- ITS FALSE NEIGHBOUR: 'it returns false'. Refute it at one input. -/
def tenCutWrong : ChangeSpec := { name := "tenCut", fn := fun _ => fun
  | [d] => { results := [.lit (.bool false)], args := [d] }
  | _ => none }
def TenCutWrongFalsely : Prop := tenCutRow.holds Tryd.pinned (OpenSpec.ofChange tenCutWrong)

/-- 'caliperlaw03.TenProducts': WHATEVER THE INPUT: true; the input reads as it did. -/
def tenProductsSpec : ChangeSpec := { name := "tenProducts", fn := fun _ => fun
  | [d1, d2] => { results := [.lit (.bool true)], args := [d1, d2] }
  | _ => none }
def tenProductsRow : OpenClaim := { program := "ytfciahfdmnnejaadoor", sum := "0aa0e065de86a6bf6866030eeade7fd989f453a04e5c64e70ee43318f6439b5d", func := "caliper/caliperlaw03.TenProducts", spec := "tenProducts", inPlace := ["math/bits.Add64", "math/bits.Sub64", "internal/abi.NoEscape", "internal/bytealg.MakeNoZero"], named := ["math/bits.divideError", "math/bits.overflowError", "internal/strconv.uint64pow10", "math/bits.deBruijn32tab", "math/bits.deBruijn64tab"], apart := false, laid := [("math/bits.deBruijn32tab", laid_math_bits_deBruijn32tab), ("math/bits.deBruijn64tab", laid_math_bits_deBruijn64tab), ("internal/strconv.uint64pow10", laid_internal_strconv_uint64pow10)] }
def TenProductsSaid : Prop := tenProductsRow.holds Tryd.pinned (OpenSpec.ofChange tenProductsSpec)

/-- ITS FALSE NEIGHBOUR: 'it returns false'. Refute it at one input. -/
def tenProductsWrong : ChangeSpec := { name := "tenProducts", fn := fun _ => fun
  | [d1, d2] => { results := [.lit (.bool false)], args := [d1, d2] }
  | _ => none }
def TenProductsWrongFalsely : Prop := tenProductsRow.holds Tryd.pinned (OpenSpec.ofChange tenProductsWrong)

/-- 'caliperlaw03.TenTops': WHATEVER THE INPUT: true; the input reads as it did. -/
def tenTopsSpec : ChangeSpec := { name := "tenTops", fn := fun _ => fun
  | [d] => { results := [.lit (.bool true)], args := [d] }
  | _ => none }
def tenTopsRow : OpenClaim := { program := "ytfciahfdmnnejaadoor", sum := "0aa0e065de86a6bf6866030eeade7fd989f453a04e5c64e70ee43318f6439b5d", func := "caliper/caliperlaw03.TenTops", spec := "tenTops", inPlace := ["math/bits.Add64", "math/bits.Sub64", "internal/abi.NoEscape", "internal/bytealg.MakeNoZero"], named := ["math/bits.divideError", "math/bits.overflowError", "internal/strconv.uint64pow10", "math/bits.deBruijn32tab", "math/bits.deBruijn64tab"], apart := false, laid := [("math/bits.deBruijn32tab", laid_math_bits_deBruijn32tab), ("math/bits.deBruijn64tab", laid_math_bits_deBruijn64tab), ("internal/strconv.uint64pow10", laid_internal_strconv_uint64pow10)] }
def TenTopsSaid : Prop := tenTopsRow.holds Tryd.pinned (OpenSpec.ofChange tenTopsSpec)

/-- ITS FALSE NEIGHBOUR: 'it returns false'. Refute it at one input. -/
def tenTopsWrong : ChangeSpec := { name := "tenTops", fn := fun _ => fun
  | [d] => { results := [.lit (.bool false)], args := [d] }
  | _ => none }
def TenTopsWrongFalsely : Prop := tenTopsRow.holds Tryd.pinned (OpenSpec.ofChange tenTopsWrong)

/-- 'caliperlaw03.TenBits': WHATEVER THE INPUT: true; the input reads as it did. -/
def tenBitsSpec : ChangeSpec := { name := "tenBits", fn := fun _ => fun
  | [d] => { results := [.lit (.bool true)], args := [d] }
  | _ => none }
def tenBitsRow : OpenClaim := { program := "ytfciahfdmnnejaadoor", sum := "0aa0e065de86a6bf6866030eeade7fd989f453a04e5c64e70ee43318f6439b5d", func := "caliper/caliperlaw03.TenBits", spec := "tenBits", inPlace := ["math/bits.Add64", "math/bits.Sub64", "internal/abi.NoEscape", "internal/bytealg.MakeNoZero"], named := ["math/bits.divideError", "math/bits.overflowError", "internal/strconv.uint64pow10", "math/bits.deBruijn32tab", "math/bits.deBruijn64tab"], apart := false, laid := [("math/bits.deBruijn32tab", laid_math_bits_deBruijn32tab), ("math/bits.deBruijn64tab", laid_math_bits_deBruijn64tab), ("internal/strconv.uint64pow10", laid_internal_strconv_uint64pow10)] }
def TenBitsSaid : Prop := tenBitsRow.holds Tryd.pinned (OpenSpec.ofChange tenBitsSpec)

/-- ITS FALSE NEIGHBOUR: 'it returns false'. Refute it at one input. -/
def tenBitsWrong : ChangeSpec := { name := "tenBits", fn := fun _ => fun
  | [d] => { results := [.lit (.bool false)], args := [d] }
  | _ => none }
def TenBitsWrongFalsely : Prop := tenBitsRow.holds Tryd.pinned (OpenSpec.ofChange tenBitsWrong)

/-- 'caliperlaw03.TenNext': WHATEVER THE INPUT: true; the input reads as it did. -/
def tenNextSpec : ChangeSpec := { name := "tenNext", fn := fun _ => fun
  | [d] => { results := [.lit (.bool true)], args := [d] }
  | _ => none }
def tenNextRow : OpenClaim := { program := "ytfciahfdmnnejaadoor", sum := "0aa0e065de86a6bf6866030eeade7fd989f453a04e5c64e70ee43318f6439b5d", func := "caliper/caliperlaw03.TenNext", spec := "tenNext", inPlace := ["math/bits.Add64", "math/bits.Sub64", "internal/abi.NoEscape", "internal/bytealg.MakeNoZero"], named := ["math/bits.divideError", "math/bits.overflowError", "internal/strconv.uint64pow10", "math/bits.deBruijn32tab", "math/bits.deBruijn64tab"], apart := false, laid := [("math/bits.deBruijn32tab", laid_math_bits_deBruijn32tab), ("math/bits.deBruijn64tab", laid_math_bits_deBruijn64tab), ("internal/strconv.uint64pow10", laid_internal_strconv_uint64pow10)] }
def TenNextSaid : Prop := tenNextRow.holds Tryd.pinned (OpenSpec.ofChange tenNextSpec)

/-- ITS FALSE NEIGHBOUR: 'it returns false'. Refute it at one input. -/
def tenNextWrong : ChangeSpec := { name := "tenNext", fn := fun _ => fun
  | [d] => { results := [.lit (.bool false)], args := [d] }
  | _ => none }
def TenNextWrongFalsely : Prop := tenNextRow.holds Tryd.pinned (OpenSpec.ofChange tenNextWrong)

/-- 'caliperlaw03.TenChecked': WHATEVER THE INPUT: true; the input reads as it did. -/
def tenCheckedSpec : ChangeSpec := { name := "tenChecked", fn := fun _ => fun
  | [d] => { results := [.lit (.bool true)], args := [d] }
  | _ => none }
def tenCheckedRow : OpenClaim := { program := "ytfciahfdmnnejaadoor", sum := "0aa0e065de86a6bf6866030eeade7fd989f453a04e5c64e70ee43318f6439b5d", func := "caliper/caliperlaw03.TenChecked", spec := "tenChecked", inPlace := ["math/bits.Add64", "math/bits.Sub64", "internal/abi.NoEscape", "internal/bytealg.MakeNoZero"], unfollowed := true, recurses := true, named := ["math/bits.divideError", "math/bits.overflowError", "internal/strconv.uint64pow10", "math/bits.deBruijn32tab", "math/bits.deBruijn64tab"], apart := false, laid := [("math/bits.deBruijn32tab", laid_math_bits_deBruijn32tab), ("math/bits.deBruijn64tab", laid_math_bits_deBruijn64tab), ("internal/strconv.uint64pow10", laid_internal_strconv_uint64pow10)] }
def TenCheckedSaid : Prop := tenCheckedRow.holds Tryd.pinned (OpenSpec.ofChange tenCheckedSpec)

/-- ITS FALSE NEIGHBOUR: 'it returns false'. Refute it at one input. -/
def tenCheckedWrong : ChangeSpec := { name := "tenChecked", fn := fun _ => fun
  | [d] => { results := [.lit (.bool false)], args := [d] }
  | _ => none }
def TenCheckedWrongFalsely : Prop := tenCheckedRow.holds Tryd.pinned (OpenSpec.ofChange tenCheckedWrong)

/- THE SECOND FORM. 'bulk': how many values and letters a reading holds, each counted each time it is reached (what is shared counts as often as it is met; a slice's spare places count too). A statement '..UptoSaid' is the law's where the arguments, and the package variables that the reading takes, are together of bulk at most 1048576: NARROWER than '..Said'. Prove '..Said' where nothing that the law and all that it calls make is longer than what came in: it says more and counts as full. Else prove '..UptoSaid'. A law counts once. -/
mutual
def uptoBulk {H : Type} : DataW H → Nat
  | .lit (.string bytes) => bytes.length + 1
  | .lit _ => 1
  | .nil => 1
  | .ptr d => uptoBulk d + 1
  | .slice elems spare => uptoBulkAll elems + uptoBulkAll spare + 1
  | .agg parts => uptoBulkAll parts + 1
  | .iface _ d => uptoBulk d + 1
  | .map entries => uptoBulkEntries entries + 1
  | .held _ => 1
def uptoBulkAll {H : Type} : List (DataW H) → Nat
  | [] => 0
  | d :: r => uptoBulk d + uptoBulkAll r
def uptoBulkEntries {H : Type} : List (Lit × DataW H) → Nat
  | [] => 0
  | x :: r => uptoBulkEntry x + uptoBulkEntries r
def uptoBulkEntry {H : Type} : Lit × DataW H → Nat
  | (.string bytes, d) => bytes.length + uptoBulk d + 1
  | (_, d) => uptoBulk d + 1
 end
def uptoSmall : (H : Type) → List (DataW H) → Bool := fun _ ds => decide (uptoBulkAll ds ≤ 1048576)
def OpenSpec.upto (s : _root_.Go.ChangeSpec) : _root_.Go.OpenSpec := { _root_.Go.OpenSpec.ofChange s with cond := some uptoSmall }

/-- 'caliperlaw03.TenPowers', WHERE WHAT IT READS IS OF BULK AT MOST 1048576: true; the input reads as it did. -/
def tenPowersUptoRow : OpenClaim := { program := "ytfciahfdmnnejaadoor", sum := "0aa0e065de86a6bf6866030eeade7fd989f453a04e5c64e70ee43318f6439b5d", func := "caliper/caliperlaw03.TenPowers", spec := "tenPowers", inPlace := ["math/bits.Add64", "math/bits.Sub64", "internal/abi.NoEscape", "internal/bytealg.MakeNoZero"], recurses := true, named := ["math/bits.divideError", "math/bits.overflowError", "internal/strconv.uint64pow10", "math/bits.deBruijn32tab", "math/bits.deBruijn64tab"], apart := false, laid := [("math/bits.deBruijn32tab", laid_math_bits_deBruijn32tab), ("math/bits.deBruijn64tab", laid_math_bits_deBruijn64tab), ("internal/strconv.uint64pow10", laid_internal_strconv_uint64pow10)], narrowed := true }
def TenPowersUptoSaid : Prop := tenPowersUptoRow.holds Tryd.pinned (OpenSpec.upto tenPowersSpec)

/-- 'caliperlaw03.TenSignificands', WHERE WHAT IT READS IS OF BULK AT MOST 1048576: true; the input reads as it did. -/
def tenSignificandsUptoRow : OpenClaim := { program := "ytfciahfdmnnejaadoor", sum := "0aa0e065de86a6bf6866030eeade7fd989f453a04e5c64e70ee43318f6439b5d", func := "caliper/caliperlaw03.TenSignificands", spec := "tenSignificands", inPlace := ["math/bits.Add64", "math/bits.Sub64", "internal/abi.NoEscape", "internal/bytealg.MakeNoZero"], recurses := true, named := ["math/bits.divideError", "math/bits.overflowError", "internal/strconv.uint64pow10", "math/bits.deBruijn32tab", "math/bits.deBruijn64tab"], apart := false, laid := [("math/bits.deBruijn32tab", laid_math_bits_deBruijn32tab), ("math/bits.deBruijn64tab", laid_math_bits_deBruijn64tab), ("internal/strconv.uint64pow10", laid_internal_strconv_uint64pow10)], narrowed := true }
def TenSignificandsUptoSaid : Prop := tenSignificandsUptoRow.holds Tryd.pinned (OpenSpec.upto tenSignificandsSpec)

/-- 'caliperlaw03.TenGoes', WHERE WHAT IT READS IS OF BULK AT MOST 1048576: true; the input reads as it did. -/
def tenGoesUptoRow : OpenClaim := { program := "ytfciahfdmnnejaadoor", sum := "0aa0e065de86a6bf6866030eeade7fd989f453a04e5c64e70ee43318f6439b5d", func := "caliper/caliperlaw03.TenGoes", spec := "tenGoes", inPlace := ["math/bits.Add64", "math/bits.Sub64", "internal/abi.NoEscape", "internal/bytealg.MakeNoZero"], named := ["math/bits.divideError", "math/bits.overflowError", "internal/strconv.uint64pow10", "math/bits.deBruijn32tab", "math/bits.deBruijn64tab"], apart := false, laid := [("math/bits.deBruijn32tab", laid_math_bits_deBruijn32tab), ("math/bits.deBruijn64tab", laid_math_bits_deBruijn64tab), ("internal/strconv.uint64pow10", laid_internal_strconv_uint64pow10)], narrowed := true }
def TenGoesUptoSaid : Prop := tenGoesUptoRow.holds Tryd.pinned (OpenSpec.upto tenGoesSpec)

/-- 'caliperlaw03.TenCut', WHERE WHAT IT READS IS OF BULK AT MOST 1048576: true; the input reads as it did. -/
def tenCutUptoRow : OpenClaim := { program := "ytfciahfdmnnejaadoor", sum := "0aa0e065de86a6bf6866030eeade7fd989f453a04e5c64e70ee43318f6439b5d", func := "caliper/caliperlaw03.TenCut", spec := "tenCut", inPlace := ["math/bits.Add64", "math/bits.Sub64", "internal/abi.NoEscape", "internal/bytealg.MakeNoZero"], named := ["math/bits.divideError", "math/bits.overflowError", "internal/strconv.uint64pow10", "math/bits.deBruijn32tab", "math/bits.deBruijn64tab"], apart := false, laid := [("math/bits.deBruijn32tab", laid_math_bits_deBruijn32tab), ("math/bits.deBruijn64tab", laid_math_bits_deBruijn64tab), ("internal/strconv.uint64pow10", laid_internal_strconv_uint64pow10)], narrowed := true }
def TenCutUptoSaid : Prop := tenCutUptoRow.holds Tryd.pinned (OpenSpec.upto tenCutSpec)

/-- 'caliperlaw03.TenProducts', WHERE WHAT IT READS IS OF BULK AT MOST 1048576: true; the input reads as it did. -/
def tenProductsUptoRow : OpenClaim := { program := "ytfciahfdmnnejaadoor", sum := "0aa0e065de86a6bf6866030eeade7fd989f453a04e5c64e70ee43318f6439b5d", func := "caliper/caliperlaw03.TenProducts", spec := "tenProducts", inPlace := ["math/bits.Add64", "math/bits.Sub64", "internal/abi.NoEscape", "internal/bytealg.MakeNoZero"], named := ["math/bits.divideError", "math/bits.overflowError", "internal/strconv.uint64pow10", "math/bits.deBruijn32tab", "math/bits.deBruijn64tab"], apart := false, laid := [("math/bits.deBruijn32tab", laid_math_bits_deBruijn32tab), ("math/bits.deBruijn64tab", laid_math_bits_deBruijn64tab), ("internal/strconv.uint64pow10", laid_internal_strconv_uint64pow10)], narrowed := true }
def TenProductsUptoSaid : Prop := tenProductsUptoRow.holds Tryd.pinned (OpenSpec.upto tenProductsSpec)

/-- 'caliperlaw03.TenTops', WHERE WHAT IT READS IS OF BULK AT MOST 1048576: true; the input reads as it did. -/
def tenTopsUptoRow : OpenClaim := { program := "ytfciahfdmnnejaadoor", sum := "0aa0e065de86a6bf6866030eeade7fd989f453a04e5c64e70ee43318f6439b5d", func := "caliper/caliperlaw03.TenTops", spec := "tenTops", inPlace := ["math/bits.Add64", "math/bits.Sub64", "internal/abi.NoEscape", "internal/bytealg.MakeNoZero"], named := ["math/bits.divideError", "math/bits.overflowError", "internal/strconv.uint64pow10", "math/bits.deBruijn32tab", "math/bits.deBruijn64tab"], apart := false, laid := [("math/bits.deBruijn32tab", laid_math_bits_deBruijn32tab), ("math/bits.deBruijn64tab", laid_math_bits_deBruijn64tab), ("internal/strconv.uint64pow10", laid_internal_strconv_uint64pow10)], narrowed := true }
def TenTopsUptoSaid : Prop := tenTopsUptoRow.holds Tryd.pinned (OpenSpec.upto tenTopsSpec)

/-- 'caliperlaw03.TenBits', WHERE WHAT IT READS IS OF BULK AT MOST 1048576: true; the input reads as it did. -/
def tenBitsUptoRow : OpenClaim := { program := "ytfciahfdmnnejaadoor", sum := "0aa0e065de86a6bf6866030eeade7fd989f453a04e5c64e70ee43318f6439b5d", func := "caliper/caliperlaw03.TenBits", spec := "tenBits", inPlace := ["math/bits.Add64", "math/bits.Sub64", "internal/abi.NoEscape", "internal/bytealg.MakeNoZero"], named := ["math/bits.divideError", "math/bits.overflowError", "internal/strconv.uint64pow10", "math/bits.deBruijn32tab", "math/bits.deBruijn64tab"], apart := false, laid := [("math/bits.deBruijn32tab", laid_math_bits_deBruijn32tab), ("math/bits.deBruijn64tab", laid_math_bits_deBruijn64tab), ("internal/strconv.uint64pow10", laid_internal_strconv_uint64pow10)], narrowed := true }
def TenBitsUptoSaid : Prop := tenBitsUptoRow.holds Tryd.pinned (OpenSpec.upto tenBitsSpec)

/-- 'caliperlaw03.TenNext', WHERE WHAT IT READS IS OF BULK AT MOST 1048576: true; the input reads as it did. -/
def tenNextUptoRow : OpenClaim := { program := "ytfciahfdmnnejaadoor", sum := "0aa0e065de86a6bf6866030eeade7fd989f453a04e5c64e70ee43318f6439b5d", func := "caliper/caliperlaw03.TenNext", spec := "tenNext", inPlace := ["math/bits.Add64", "math/bits.Sub64", "internal/abi.NoEscape", "internal/bytealg.MakeNoZero"], named := ["math/bits.divideError", "math/bits.overflowError", "internal/strconv.uint64pow10", "math/bits.deBruijn32tab", "math/bits.deBruijn64tab"], apart := false, laid := [("math/bits.deBruijn32tab", laid_math_bits_deBruijn32tab), ("math/bits.deBruijn64tab", laid_math_bits_deBruijn64tab), ("internal/strconv.uint64pow10", laid_internal_strconv_uint64pow10)], narrowed := true }
def TenNextUptoSaid : Prop := tenNextUptoRow.holds Tryd.pinned (OpenSpec.upto tenNextSpec)

/-- 'caliperlaw03.TenChecked', WHERE WHAT IT READS IS OF BULK AT MOST 1048576: true; the input reads as it did. -/
def tenCheckedUptoRow : OpenClaim := { program := "ytfciahfdmnnejaadoor", sum := "0aa0e065de86a6bf6866030eeade7fd989f453a04e5c64e70ee43318f6439b5d", func := "caliper/caliperlaw03.TenChecked", spec := "tenChecked", inPlace := ["math/bits.Add64", "math/bits.Sub64", "internal/abi.NoEscape", "internal/bytealg.MakeNoZero"], unfollowed := true, recurses := true, named := ["math/bits.divideError", "math/bits.overflowError", "internal/strconv.uint64pow10", "math/bits.deBruijn32tab", "math/bits.deBruijn64tab"], apart := false, laid := [("math/bits.deBruijn32tab", laid_math_bits_deBruijn32tab), ("math/bits.deBruijn64tab", laid_math_bits_deBruijn64tab), ("internal/strconv.uint64pow10", laid_internal_strconv_uint64pow10)], narrowed := true }
def TenCheckedUptoSaid : Prop := tenCheckedUptoRow.holds Tryd.pinned (OpenSpec.upto tenCheckedSpec)

end Rows
end Go.Proofs.YtfciahfdmnnejaaDoor
