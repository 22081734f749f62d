/-
  DERIVED. GIVEN WITH THE SEED: THE CARDS: each row of YtnlpkehllihllaaGreatDoorRows.lean that lists a variable, with what it lists TIED to the program's text (the seventh form; the later family's looks); each row that meets fmt, with fmt's text TOLD by the authors' own Lean function (tested against real Go, not proved from fmt's source: count such statements apart). THE CARD IS WHAT COUNTS. Prove the row's statement (the work); the ties are given (YtnlpkehllihllaaGreatDoorTie.lean); close each card by the builder's one call (the guide's Derived/Test/ToyasCard.lean, 'card_holds'). Laid BY PROGRAM, IN A SANDBOX (cutbox-door.mjs). By AI agents, Wed Nov 11 2026. No macro, syntax, notation, axiom, sorry.
-/
import Derived.Test.YtnlpkehllihllaaGreatDoorRows
import GoSem.ClaimSeven
namespace Go.Proofs.YtnlpkehllihllaaGreatDoor
namespace Rows

/-- THE TIED CARD OF 'calipertop.TopNearest'. -/
def topNearestCard : Claim7 := { stood := { row := topNearestRow, standIns := [], harness := (true, "b2dc81ee32f86a81aef27a858de594daf40017f40c7339ddd95e4944c5cf3764"), looks := true }, kinds := [], alts := [], laidByText := true, laidKinds := [.data, .data, .data, .data, .sentinel, .sentinel, .data, .funcs, .mapped, .pinned], laidTests := true, laidLooks := .later }
def TopNearestCardSaid : Prop := Claim7.holds Tryz.pinned (.plain (OpenSpec.ofChange topNearestSpec)) topNearestCard

/-- THE TIED CARD OF 'calipertop.TopBack'. -/
def topBackCard : Claim7 := { stood := { row := topBackRow, standIns := [], harness := (true, "b2dc81ee32f86a81aef27a858de594daf40017f40c7339ddd95e4944c5cf3764"), looks := true }, kinds := [], alts := [], laidByText := true, laidKinds := [.data, .data, .data, .data, .sentinel, .sentinel, .data, .funcs, .mapped, .pinned], laidTests := true, laidLooks := .later }
def TopBackCardSaid : Prop := Claim7.holds Tryz.pinned (.plain (OpenSpec.ofChange topBackSpec)) topBackCard

/-- THE TIED CARD OF 'calipertop.TopFloats'. -/
def topFloatsCard : Claim7 := { stood := { row := topFloatsRow, standIns := [], harness := (true, "b2dc81ee32f86a81aef27a858de594daf40017f40c7339ddd95e4944c5cf3764"), looks := true }, kinds := [], alts := [], laidByText := true, laidKinds := [.data, .data, .data, .data, .sentinel, .sentinel, .data, .funcs, .mapped, .pinned], laidTests := true, laidLooks := .later }
def TopFloatsCardSaid : Prop := Claim7.holds Tryz.pinned (.plain (OpenSpec.ofChange topFloatsSpec)) topFloatsCard

/-- THE SECOND FORM's CARD OF 'calipertop.TopNearest'. -/
def topNearestUptoCard : Claim7 := { stood := { row := topNearestUptoRow, standIns := [], harness := (true, "b2dc81ee32f86a81aef27a858de594daf40017f40c7339ddd95e4944c5cf3764"), looks := true }, kinds := [], alts := [], laidByText := true, laidKinds := [.data, .data, .data, .data, .sentinel, .sentinel, .data, .funcs, .mapped, .pinned], laidTests := true, laidLooks := .later }
def TopNearestUptoCardSaid : Prop := Claim7.holds Tryz.pinned (.plain (OpenSpec.upto topNearestSpec)) topNearestUptoCard

/-- THE SECOND FORM's CARD OF 'calipertop.TopBack'. -/
def topBackUptoCard : Claim7 := { stood := { row := topBackUptoRow, standIns := [], harness := (true, "b2dc81ee32f86a81aef27a858de594daf40017f40c7339ddd95e4944c5cf3764"), looks := true }, kinds := [], alts := [], laidByText := true, laidKinds := [.data, .data, .data, .data, .sentinel, .sentinel, .data, .funcs, .mapped, .pinned], laidTests := true, laidLooks := .later }
def TopBackUptoCardSaid : Prop := Claim7.holds Tryz.pinned (.plain (OpenSpec.upto topBackSpec)) topBackUptoCard

/-- THE SECOND FORM's CARD OF 'calipertop.TopFloats'. -/
def topFloatsUptoCard : Claim7 := { stood := { row := topFloatsUptoRow, standIns := [], harness := (true, "b2dc81ee32f86a81aef27a858de594daf40017f40c7339ddd95e4944c5cf3764"), looks := true }, kinds := [], alts := [], laidByText := true, laidKinds := [.data, .data, .data, .data, .sentinel, .sentinel, .data, .funcs, .mapped, .pinned], laidTests := true, laidLooks := .later }
def TopFloatsUptoCardSaid : Prop := Claim7.holds Tryz.pinned (.plain (OpenSpec.upto topFloatsSpec)) topFloatsUptoCard
end Rows
end Go.Proofs.YtnlpkehllihllaaGreatDoor
