/-
  DERIVED. GIVEN WITH THE SEED: THE CARDS: each row of YtdafplhemockgaaDoorRows.lean that lists a variable, with what it lists TIED to the program's text (the seventh form; the later family's looks); each row that meets fmt, with fmt's text TOLD by the authors' own Lean function (tested against real Go, not proved from fmt's source: count such statements apart). THE CARD IS WHAT COUNTS. Prove the row's statement (the work); the ties are given (YtdafplhemockgaaDoorTie.lean); close each card by the builder's one call (the guide's Derived/Test/ToyasCard.lean, 'card_holds'). Laid BY PROGRAM, IN A SANDBOX (cutbox-door.mjs). By AI agents, Wed Nov 11 2026. No macro, syntax, notation, axiom, sorry.
-/
import Derived.Test.YtdafplhemockgaaDoorRows
import GoSem.ClaimSeven
namespace Go.Proofs.YtdafplhemockgaaDoor
namespace Rows

/-- THE TIED CARD OF 'caliperlaw11.ShortNone'. -/
def shortNoneCard : Claim7 := { stood := { row := shortNoneRow, standIns := [], harness := (true, "46d95359b779222a8faabe6b5e49d796eca5069031f588775b60d6556e1acc4b"), looks := true }, kinds := [], alts := [], laidByText := true, laidKinds := [.data, .data, .data, .data, .funcs], laidTests := true, laidLooks := .later }
def ShortNoneCardSaid : Prop := Claim7.holds Tryd.pinned (.plain (OpenSpec.ofChange shortNoneSpec)) shortNoneCard

/-- THE SECOND FORM's CARD OF 'caliperlaw11.ShortNone'. -/
def shortNoneUptoCard : Claim7 := { stood := { row := shortNoneUptoRow, standIns := [], harness := (true, "46d95359b779222a8faabe6b5e49d796eca5069031f588775b60d6556e1acc4b"), looks := true }, kinds := [], alts := [], laidByText := true, laidKinds := [.data, .data, .data, .data, .funcs], laidTests := true, laidLooks := .later }
def ShortNoneUptoCardSaid : Prop := Claim7.holds Tryd.pinned (.plain (OpenSpec.upto shortNoneSpec)) shortNoneUptoCard
end Rows
end Go.Proofs.YtdafplhemockgaaDoor
