/-
  DERIVED. GIVEN WITH THE SEED: THE CARDS: each row of YtfciahfdmnnejaaDoorRows.lean that lists a variable, with what it lists TIED to the program's text (the seventh form; the later family's looks); each row that meets fmt, with fmt's text TOLD by the authors' own Lean function (tested against real Go, not proved from fmt's source: count such statements apart). THE CARD IS WHAT COUNTS. Prove the row's statement (the work); the ties are given (YtfciahfdmnnejaaDoorTie.lean); close each card by the builder's one call (the guide's Derived/Test/ToyasCard.lean, 'card_holds'). Laid BY PROGRAM, IN A SANDBOX (cutbox-door.mjs). By AI agents, Wed Nov 11 2026. No macro, syntax, notation, axiom, sorry.
-/
import Derived.Test.YtfciahfdmnnejaaDoorRows
import GoSem.ClaimSeven
namespace Go.Proofs.YtfciahfdmnnejaaDoor
namespace Rows

/-- THE TIED CARD OF 'caliperlaw03.TenPowers'. -/
def tenPowersCard : Claim7 := { stood := { row := tenPowersRow, standIns := [], harness := (true, "83f7f9b0d40da97558a3c04cf22be92b2ee4152752023eb555237771d32a4270"), looks := true }, kinds := [], alts := [], laidByText := true, laidKinds := [.data, .data, .data], laidTests := true, laidLooks := .later }
def TenPowersCardSaid : Prop := Claim7.holds Tryd.pinned (.plain (OpenSpec.ofChange tenPowersSpec)) tenPowersCard

/-- THE TIED CARD OF 'caliperlaw03.TenSignificands'. -/
def tenSignificandsCard : Claim7 := { stood := { row := tenSignificandsRow, standIns := [], harness := (true, "83f7f9b0d40da97558a3c04cf22be92b2ee4152752023eb555237771d32a4270"), looks := true }, kinds := [], alts := [], laidByText := true, laidKinds := [.data, .data, .data], laidTests := true, laidLooks := .later }
def TenSignificandsCardSaid : Prop := Claim7.holds Tryd.pinned (.plain (OpenSpec.ofChange tenSignificandsSpec)) tenSignificandsCard

/-- THE TIED CARD OF 'caliperlaw03.TenGoes'. -/
def tenGoesCard : Claim7 := { stood := { row := tenGoesRow, standIns := [], harness := (true, "83f7f9b0d40da97558a3c04cf22be92b2ee4152752023eb555237771d32a4270"), looks := true }, kinds := [], alts := [], laidByText := true, laidKinds := [.data, .data, .data], laidTests := true, laidLooks := .later }
def TenGoesCardSaid : Prop := Claim7.holds Tryd.pinned (.plain (OpenSpec.ofChange tenGoesSpec)) tenGoesCard

/-- THE TIED CARD OF 'caliperlaw03.TenCut'. -/
def tenCutCard : Claim7 := { stood := { row := tenCutRow, standIns := [], harness := (true, "83f7f9b0d40da97558a3c04cf22be92b2ee4152752023eb555237771d32a4270"), looks := true }, kinds := [], alts := [], laidByText := true, laidKinds := [.data, .data, .data], laidTests := true, laidLooks := .later }
def TenCutCardSaid : Prop := Claim7.holds Tryd.pinned (.plain (OpenSpec.ofChange tenCutSpec)) tenCutCard

/-- THE TIED CARD OF 'caliperlaw03.TenProducts'. -/
def tenProductsCard : Claim7 := { stood := { row := tenProductsRow, standIns := [], harness := (true, "83f7f9b0d40da97558a3c04cf22be92b2ee4152752023eb555237771d32a4270"), looks := true }, kinds := [], alts := [], laidByText := true, laidKinds := [.data, .data, .data], laidTests := true, laidLooks := .later }
def TenProductsCardSaid : Prop := Claim7.holds Tryd.pinned (.plain (OpenSpec.ofChange tenProductsSpec)) tenProductsCard

/-- THE TIED CARD OF 'caliperlaw03.TenTops'. -/
def tenTopsCard : Claim7 := { stood := { row := tenTopsRow, standIns := [], harness := (true, "83f7f9b0d40da97558a3c04cf22be92b2ee4152752023eb555237771d32a4270"), looks := true }, kinds := [], alts := [], laidByText := true, laidKinds := [.data, .data, .data], laidTests := true, laidLooks := .later }
def TenTopsCardSaid : Prop := Claim7.holds Tryd.pinned (.plain (OpenSpec.ofChange tenTopsSpec)) tenTopsCard

/-- THE TIED CARD OF 'caliperlaw03.TenBits'. -/
def tenBitsCard : Claim7 := { stood := { row := tenBitsRow, standIns := [], harness := (true, "83f7f9b0d40da97558a3c04cf22be92b2ee4152752023eb555237771d32a4270"), looks := true }, kinds := [], alts := [], laidByText := true, laidKinds := [.data, .data, .data], laidTests := true, laidLooks := .later }
def TenBitsCardSaid : Prop := Claim7.holds Tryd.pinned (.plain (OpenSpec.ofChange tenBitsSpec)) tenBitsCard

/-- THE TIED CARD OF 'caliperlaw03.TenNext'. -/
def tenNextCard : Claim7 := { stood := { row := tenNextRow, standIns := [], harness := (true, "83f7f9b0d40da97558a3c04cf22be92b2ee4152752023eb555237771d32a4270"), looks := true }, kinds := [], alts := [], laidByText := true, laidKinds := [.data, .data, .data], laidTests := true, laidLooks := .later }
def TenNextCardSaid : Prop := Claim7.holds Tryd.pinned (.plain (OpenSpec.ofChange tenNextSpec)) tenNextCard

/-- THE TIED CARD OF 'caliperlaw03.TenChecked'. -/
def tenCheckedCard : Claim7 := { stood := { row := tenCheckedRow, standIns := [], harness := (true, "83f7f9b0d40da97558a3c04cf22be92b2ee4152752023eb555237771d32a4270"), looks := true }, kinds := [], alts := [], laidByText := true, laidKinds := [.data, .data, .data], laidTests := true, laidLooks := .later }
def TenCheckedCardSaid : Prop := Claim7.holds Tryd.pinned (.plain (OpenSpec.ofChange tenCheckedSpec)) tenCheckedCard

/-- THE SECOND FORM's CARD OF 'caliperlaw03.TenPowers'. -/
def tenPowersUptoCard : Claim7 := { stood := { row := tenPowersUptoRow, standIns := [], harness := (true, "83f7f9b0d40da97558a3c04cf22be92b2ee4152752023eb555237771d32a4270"), looks := true }, kinds := [], alts := [], laidByText := true, laidKinds := [.data, .data, .data], laidTests := true, laidLooks := .later }
def TenPowersUptoCardSaid : Prop := Claim7.holds Tryd.pinned (.plain (OpenSpec.upto tenPowersSpec)) tenPowersUptoCard

/-- THE SECOND FORM's CARD OF 'caliperlaw03.TenSignificands'. -/
def tenSignificandsUptoCard : Claim7 := { stood := { row := tenSignificandsUptoRow, standIns := [], harness := (true, "83f7f9b0d40da97558a3c04cf22be92b2ee4152752023eb555237771d32a4270"), looks := true }, kinds := [], alts := [], laidByText := true, laidKinds := [.data, .data, .data], laidTests := true, laidLooks := .later }
def TenSignificandsUptoCardSaid : Prop := Claim7.holds Tryd.pinned (.plain (OpenSpec.upto tenSignificandsSpec)) tenSignificandsUptoCard

/-- THE SECOND FORM's CARD OF 'caliperlaw03.TenGoes'. -/
def tenGoesUptoCard : Claim7 := { stood := { row := tenGoesUptoRow, standIns := [], harness := (true, "83f7f9b0d40da97558a3c04cf22be92b2ee4152752023eb555237771d32a4270"), looks := true }, kinds := [], alts := [], laidByText := true, laidKinds := [.data, .data, .data], laidTests := true, laidLooks := .later }
def TenGoesUptoCardSaid : Prop := Claim7.holds Tryd.pinned (.plain (OpenSpec.upto tenGoesSpec)) tenGoesUptoCard

/-- THE SECOND FORM's CARD OF 'caliperlaw03.TenCut'. -/
def tenCutUptoCard : Claim7 := { stood := { row := tenCutUptoRow, standIns := [], harness := (true, "83f7f9b0d40da97558a3c04cf22be92b2ee4152752023eb555237771d32a4270"), looks := true }, kinds := [], alts := [], laidByText := true, laidKinds := [.data, .data, .data], laidTests := true, laidLooks := .later }
def TenCutUptoCardSaid : Prop := Claim7.holds Tryd.pinned (.plain (OpenSpec.upto tenCutSpec)) tenCutUptoCard

/-- THE SECOND FORM's CARD OF 'caliperlaw03.TenProducts'. -/
def tenProductsUptoCard : Claim7 := { stood := { row := tenProductsUptoRow, standIns := [], harness := (true, "83f7f9b0d40da97558a3c04cf22be92b2ee4152752023eb555237771d32a4270"), looks := true }, kinds := [], alts := [], laidByText := true, laidKinds := [.data, .data, .data], laidTests := true, laidLooks := .later }
def TenProductsUptoCardSaid : Prop := Claim7.holds Tryd.pinned (.plain (OpenSpec.upto tenProductsSpec)) tenProductsUptoCard

/-- THE SECOND FORM's CARD OF 'caliperlaw03.TenTops'. -/
def tenTopsUptoCard : Claim7 := { stood := { row := tenTopsUptoRow, standIns := [], harness := (true, "83f7f9b0d40da97558a3c04cf22be92b2ee4152752023eb555237771d32a4270"), looks := true }, kinds := [], alts := [], laidByText := true, laidKinds := [.data, .data, .data], laidTests := true, laidLooks := .later }
def TenTopsUptoCardSaid : Prop := Claim7.holds Tryd.pinned (.plain (OpenSpec.upto tenTopsSpec)) tenTopsUptoCard

/-- THE SECOND FORM's CARD OF 'caliperlaw03.TenBits'. -/
def tenBitsUptoCard : Claim7 := { stood := { row := tenBitsUptoRow, standIns := [], harness := (true, "83f7f9b0d40da97558a3c04cf22be92b2ee4152752023eb555237771d32a4270"), looks := true }, kinds := [], alts := [], laidByText := true, laidKinds := [.data, .data, .data], laidTests := true, laidLooks := .later }
def TenBitsUptoCardSaid : Prop := Claim7.holds Tryd.pinned (.plain (OpenSpec.upto tenBitsSpec)) tenBitsUptoCard

/-- THE SECOND FORM's CARD OF 'caliperlaw03.TenNext'. -/
def tenNextUptoCard : Claim7 := { stood := { row := tenNextUptoRow, standIns := [], harness := (true, "83f7f9b0d40da97558a3c04cf22be92b2ee4152752023eb555237771d32a4270"), looks := true }, kinds := [], alts := [], laidByText := true, laidKinds := [.data, .data, .data], laidTests := true, laidLooks := .later }
def TenNextUptoCardSaid : Prop := Claim7.holds Tryd.pinned (.plain (OpenSpec.upto tenNextSpec)) tenNextUptoCard

/-- THE SECOND FORM's CARD OF 'caliperlaw03.TenChecked'. -/
def tenCheckedUptoCard : Claim7 := { stood := { row := tenCheckedUptoRow, standIns := [], harness := (true, "83f7f9b0d40da97558a3c04cf22be92b2ee4152752023eb555237771d32a4270"), looks := true }, kinds := [], alts := [], laidByText := true, laidKinds := [.data, .data, .data], laidTests := true, laidLooks := .later }
def TenCheckedUptoCardSaid : Prop := Claim7.holds Tryd.pinned (.plain (OpenSpec.upto tenCheckedSpec)) tenCheckedUptoCard
end Rows
end Go.Proofs.YtfciahfdmnnejaaDoor
