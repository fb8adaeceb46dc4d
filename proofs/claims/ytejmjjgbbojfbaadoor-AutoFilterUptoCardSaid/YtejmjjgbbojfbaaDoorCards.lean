/-
  DERIVED. GIVEN WITH THE SEED: THE CARDS: each row of YtejmjjgbbojfbaaDoorRows.lean that lists a variable, with what it lists TIED to the program's text (the seventh form; the later family's looks); each row that meets fmt, with fmt's text TOLD by the authors' own Lean function (tested against real Go, not proved from fmt's source: count such statements apart). THE CARD IS WHAT COUNTS. Prove the row's statement (the work); the ties are given (YtejmjjgbbojfbaaDoorTie.lean); close each card by the builder's one call (the guide's Derived/Test/ToyasCard.lean, 'card_holds'). Laid BY PROGRAM, IN A SANDBOX (cutbox-door.mjs). By AI agents, Wed Nov 11 2026. No macro, syntax, notation, axiom, sorry.
-/
import Derived.Test.YtejmjjgbbojfbaaDoorRows
import GoSem.ClaimSeven
namespace Go.Proofs.YtejmjjgbbojfbaaDoor
namespace Rows

/-- THE TIED CARD OF 'concordlaw07.AutoReaches'. -/
def autoReachesCard : Claim7 := { stood := { row := autoReachesRow, standIns := [], harness := (true, "bbc3487616b6e175a86861084383dd15c324d3cf0158b46e9958de62adbd7ef3"), looks := true }, kinds := [], alts := [], laidByText := true, laidKinds := [.sentinel, .sentinel], laidTests := true, laidLooks := .later }
def AutoReachesCardSaid : Prop := Claim7.holds Tryd.pinned (.plain (OpenSpec.ofChange autoReachesSpec)) autoReachesCard

/-- THE TIED CARD OF 'concordlaw07.AutoAccepts'. -/
def autoAcceptsCard : Claim7 := { stood := { row := autoAcceptsRow, standIns := [], harness := (true, "bbc3487616b6e175a86861084383dd15c324d3cf0158b46e9958de62adbd7ef3"), looks := true }, kinds := [], alts := [], laidByText := true, laidKinds := [.sentinel, .sentinel, .sentinel, .sentinel, .sentinel, .sentinel, .sentinel, .sentinel, .sentinel, .sentinel, .sentinel, .sentinel, .sentinel, .sentinel, .sentinel, .sentinel, .sentinel, .sentinel, .sentinel, .sentinel, .sentinel, .sentinel, .sentinel, .sentinel], laidTests := true, laidLooks := .later }
def AutoAcceptsCardSaid : Prop := Claim7.holds Tryd.pinned (.plain (OpenSpec.ofChange autoAcceptsSpec)) autoAcceptsCard

/-- THE TIED CARD OF 'concordlaw07.AutoDead'. -/
def autoDeadCard : Claim7 := { stood := { row := autoDeadRow, standIns := [], harness := (true, "bbc3487616b6e175a86861084383dd15c324d3cf0158b46e9958de62adbd7ef3"), looks := true }, kinds := [], alts := [], laidByText := true, laidKinds := [.sentinel, .sentinel, .sentinel, .sentinel, .sentinel, .sentinel, .sentinel, .sentinel, .sentinel, .sentinel, .sentinel, .sentinel, .sentinel, .sentinel, .sentinel, .sentinel, .sentinel, .sentinel, .sentinel, .sentinel, .sentinel, .sentinel, .sentinel, .sentinel], laidTests := true, laidLooks := .later }
def AutoDeadCardSaid : Prop := Claim7.holds Tryd.pinned (.plain (OpenSpec.ofChange autoDeadSpec)) autoDeadCard

/-- THE TIED CARD OF 'concordlaw07.AutoPieces'. -/
def autoPiecesCard : Claim7 := { stood := { row := autoPiecesRow, standIns := [], harness := (true, "bbc3487616b6e175a86861084383dd15c324d3cf0158b46e9958de62adbd7ef3"), looks := true }, kinds := [], alts := [], laidByText := true, laidKinds := [.sentinel], laidTests := true, laidLooks := .later }
def AutoPiecesCardSaid : Prop := Claim7.holds Tryd.pinned (.plain (OpenSpec.ofChange autoPiecesSpec)) autoPiecesCard

/-- THE TIED CARD OF 'concordlaw07.AutoMakes'. -/
def autoMakesCard : Claim7 := { stood := { row := autoMakesRow, standIns := [], harness := (true, "bbc3487616b6e175a86861084383dd15c324d3cf0158b46e9958de62adbd7ef3"), looks := true }, kinds := [], alts := [], laidByText := true, laidKinds := [.sentinel, .sentinel, .sentinel, .sentinel, .sentinel, .sentinel, .sentinel, .sentinel, .sentinel, .sentinel, .sentinel, .sentinel, .sentinel, .sentinel, .sentinel, .sentinel, .sentinel, .sentinel, .sentinel, .sentinel, .sentinel, .sentinel, .sentinel, .sentinel], laidTests := true, laidLooks := .later }
def AutoMakesCardSaid : Prop := Claim7.holds Tryd.pinned (.plain (OpenSpec.ofChange autoMakesSpec)) autoMakesCard

/-- THE TIED CARD OF 'concordlaw07.AutoOneTable'. -/
def autoOneTableCard : Claim7 := { stood := { row := autoOneTableRow, standIns := [], harness := (true, "bbc3487616b6e175a86861084383dd15c324d3cf0158b46e9958de62adbd7ef3"), looks := true }, kinds := [], alts := [], laidByText := true, laidKinds := [.sentinel, .sentinel, .sentinel], laidTests := true, laidLooks := .later }
def AutoOneTableCardSaid : Prop := Claim7.holds Tryd.pinned (.plain (OpenSpec.ofChange autoOneTableSpec)) autoOneTableCard

/-- THE TIED CARD OF 'concordlaw07.AutoTables'. -/
def autoTablesCard : Claim7 := { stood := { row := autoTablesRow, standIns := [], harness := (true, "bbc3487616b6e175a86861084383dd15c324d3cf0158b46e9958de62adbd7ef3"), looks := true }, kinds := [], alts := [], laidByText := true, laidKinds := [.sentinel, .sentinel, .sentinel, .sentinel, .sentinel, .sentinel, .sentinel, .sentinel, .sentinel, .sentinel, .sentinel, .sentinel, .sentinel, .sentinel, .sentinel, .sentinel, .sentinel, .sentinel, .sentinel, .sentinel, .sentinel, .sentinel, .sentinel, .sentinel], laidTests := true, laidLooks := .later }
def AutoTablesCardSaid : Prop := Claim7.holds Tryd.pinned (.plain (OpenSpec.ofChange autoTablesSpec)) autoTablesCard

/-- THE TIED CARD OF 'concordlaw07.AutoLeast'. -/
def autoLeastCard : Claim7 := { stood := { row := autoLeastRow, standIns := [], harness := (true, "bbc3487616b6e175a86861084383dd15c324d3cf0158b46e9958de62adbd7ef3"), looks := true }, kinds := [], alts := [], laidByText := true, laidKinds := [.sentinel, .sentinel, .sentinel, .sentinel, .sentinel, .sentinel, .sentinel, .sentinel, .sentinel, .sentinel, .sentinel, .sentinel, .sentinel, .sentinel, .sentinel, .sentinel, .sentinel, .sentinel, .sentinel, .sentinel, .sentinel, .sentinel, .sentinel, .sentinel], laidTests := true, laidLooks := .later }
def AutoLeastCardSaid : Prop := Claim7.holds Tryd.pinned (.plain (OpenSpec.ofChange autoLeastSpec)) autoLeastCard

/-- THE TIED CARD OF 'concordlaw07.AutoTerms'. -/
def autoTermsCard : Claim7 := { stood := { row := autoTermsRow, standIns := [], harness := (true, "bbc3487616b6e175a86861084383dd15c324d3cf0158b46e9958de62adbd7ef3"), looks := true }, kinds := [], alts := [], laidByText := true, laidKinds := [.sentinel, .sentinel, .sentinel, .sentinel, .sentinel, .sentinel, .sentinel, .sentinel, .sentinel, .sentinel, .sentinel, .sentinel, .sentinel, .sentinel, .sentinel, .sentinel, .sentinel, .sentinel, .sentinel, .sentinel, .sentinel, .sentinel, .sentinel, .sentinel], laidTests := true, laidLooks := .later }
def AutoTermsCardSaid : Prop := Claim7.holds Tryd.pinned (.plain (OpenSpec.ofChange autoTermsSpec)) autoTermsCard

/-- THE TIED CARD OF 'concordlaw07.AutoFilter'. -/
def autoFilterCard : Claim7 := { stood := { row := autoFilterRow, standIns := [], harness := (true, "bbc3487616b6e175a86861084383dd15c324d3cf0158b46e9958de62adbd7ef3"), looks := true }, kinds := [], alts := [], laidByText := true, laidKinds := [.sentinel, .sentinel, .sentinel, .sentinel, .sentinel, .sentinel, .sentinel, .sentinel, .sentinel, .sentinel, .sentinel, .sentinel, .sentinel, .sentinel, .sentinel, .sentinel, .sentinel, .sentinel, .sentinel, .sentinel, .sentinel, .sentinel, .sentinel, .sentinel], laidTests := true, laidLooks := .later }
def AutoFilterCardSaid : Prop := Claim7.holds Tryd.pinned (.plain (OpenSpec.ofChange autoFilterSpec)) autoFilterCard

/-- THE SECOND FORM's CARD OF 'concordlaw07.AutoReaches'. -/
def autoReachesUptoCard : Claim7 := { stood := { row := autoReachesUptoRow, standIns := [], harness := (true, "bbc3487616b6e175a86861084383dd15c324d3cf0158b46e9958de62adbd7ef3"), looks := true }, kinds := [], alts := [], laidByText := true, laidKinds := [.sentinel, .sentinel], laidTests := true, laidLooks := .later }
def AutoReachesUptoCardSaid : Prop := Claim7.holds Tryd.pinned (.plain (OpenSpec.upto autoReachesSpec)) autoReachesUptoCard

/-- THE SECOND FORM's CARD OF 'concordlaw07.AutoAccepts'. -/
def autoAcceptsUptoCard : Claim7 := { stood := { row := autoAcceptsUptoRow, standIns := [], harness := (true, "bbc3487616b6e175a86861084383dd15c324d3cf0158b46e9958de62adbd7ef3"), looks := true }, kinds := [], alts := [], laidByText := true, laidKinds := [.sentinel, .sentinel, .sentinel, .sentinel, .sentinel, .sentinel, .sentinel, .sentinel, .sentinel, .sentinel, .sentinel, .sentinel, .sentinel, .sentinel, .sentinel, .sentinel, .sentinel, .sentinel, .sentinel, .sentinel, .sentinel, .sentinel, .sentinel, .sentinel], laidTests := true, laidLooks := .later }
def AutoAcceptsUptoCardSaid : Prop := Claim7.holds Tryd.pinned (.plain (OpenSpec.upto autoAcceptsSpec)) autoAcceptsUptoCard

/-- THE SECOND FORM's CARD OF 'concordlaw07.AutoDead'. -/
def autoDeadUptoCard : Claim7 := { stood := { row := autoDeadUptoRow, standIns := [], harness := (true, "bbc3487616b6e175a86861084383dd15c324d3cf0158b46e9958de62adbd7ef3"), looks := true }, kinds := [], alts := [], laidByText := true, laidKinds := [.sentinel, .sentinel, .sentinel, .sentinel, .sentinel, .sentinel, .sentinel, .sentinel, .sentinel, .sentinel, .sentinel, .sentinel, .sentinel, .sentinel, .sentinel, .sentinel, .sentinel, .sentinel, .sentinel, .sentinel, .sentinel, .sentinel, .sentinel, .sentinel], laidTests := true, laidLooks := .later }
def AutoDeadUptoCardSaid : Prop := Claim7.holds Tryd.pinned (.plain (OpenSpec.upto autoDeadSpec)) autoDeadUptoCard

/-- THE SECOND FORM's CARD OF 'concordlaw07.AutoPieces'. -/
def autoPiecesUptoCard : Claim7 := { stood := { row := autoPiecesUptoRow, standIns := [], harness := (true, "bbc3487616b6e175a86861084383dd15c324d3cf0158b46e9958de62adbd7ef3"), looks := true }, kinds := [], alts := [], laidByText := true, laidKinds := [.sentinel], laidTests := true, laidLooks := .later }
def AutoPiecesUptoCardSaid : Prop := Claim7.holds Tryd.pinned (.plain (OpenSpec.upto autoPiecesSpec)) autoPiecesUptoCard

/-- THE SECOND FORM's CARD OF 'concordlaw07.AutoMakes'. -/
def autoMakesUptoCard : Claim7 := { stood := { row := autoMakesUptoRow, standIns := [], harness := (true, "bbc3487616b6e175a86861084383dd15c324d3cf0158b46e9958de62adbd7ef3"), looks := true }, kinds := [], alts := [], laidByText := true, laidKinds := [.sentinel, .sentinel, .sentinel, .sentinel, .sentinel, .sentinel, .sentinel, .sentinel, .sentinel, .sentinel, .sentinel, .sentinel, .sentinel, .sentinel, .sentinel, .sentinel, .sentinel, .sentinel, .sentinel, .sentinel, .sentinel, .sentinel, .sentinel, .sentinel], laidTests := true, laidLooks := .later }
def AutoMakesUptoCardSaid : Prop := Claim7.holds Tryd.pinned (.plain (OpenSpec.upto autoMakesSpec)) autoMakesUptoCard

/-- THE SECOND FORM's CARD OF 'concordlaw07.AutoOneTable'. -/
def autoOneTableUptoCard : Claim7 := { stood := { row := autoOneTableUptoRow, standIns := [], harness := (true, "bbc3487616b6e175a86861084383dd15c324d3cf0158b46e9958de62adbd7ef3"), looks := true }, kinds := [], alts := [], laidByText := true, laidKinds := [.sentinel, .sentinel, .sentinel], laidTests := true, laidLooks := .later }
def AutoOneTableUptoCardSaid : Prop := Claim7.holds Tryd.pinned (.plain (OpenSpec.upto autoOneTableSpec)) autoOneTableUptoCard

/-- THE SECOND FORM's CARD OF 'concordlaw07.AutoTables'. -/
def autoTablesUptoCard : Claim7 := { stood := { row := autoTablesUptoRow, standIns := [], harness := (true, "bbc3487616b6e175a86861084383dd15c324d3cf0158b46e9958de62adbd7ef3"), looks := true }, kinds := [], alts := [], laidByText := true, laidKinds := [.sentinel, .sentinel, .sentinel, .sentinel, .sentinel, .sentinel, .sentinel, .sentinel, .sentinel, .sentinel, .sentinel, .sentinel, .sentinel, .sentinel, .sentinel, .sentinel, .sentinel, .sentinel, .sentinel, .sentinel, .sentinel, .sentinel, .sentinel, .sentinel], laidTests := true, laidLooks := .later }
def AutoTablesUptoCardSaid : Prop := Claim7.holds Tryd.pinned (.plain (OpenSpec.upto autoTablesSpec)) autoTablesUptoCard

/-- THE SECOND FORM's CARD OF 'concordlaw07.AutoLeast'. -/
def autoLeastUptoCard : Claim7 := { stood := { row := autoLeastUptoRow, standIns := [], harness := (true, "bbc3487616b6e175a86861084383dd15c324d3cf0158b46e9958de62adbd7ef3"), looks := true }, kinds := [], alts := [], laidByText := true, laidKinds := [.sentinel, .sentinel, .sentinel, .sentinel, .sentinel, .sentinel, .sentinel, .sentinel, .sentinel, .sentinel, .sentinel, .sentinel, .sentinel, .sentinel, .sentinel, .sentinel, .sentinel, .sentinel, .sentinel, .sentinel, .sentinel, .sentinel, .sentinel, .sentinel], laidTests := true, laidLooks := .later }
def AutoLeastUptoCardSaid : Prop := Claim7.holds Tryd.pinned (.plain (OpenSpec.upto autoLeastSpec)) autoLeastUptoCard

/-- THE SECOND FORM's CARD OF 'concordlaw07.AutoTerms'. -/
def autoTermsUptoCard : Claim7 := { stood := { row := autoTermsUptoRow, standIns := [], harness := (true, "bbc3487616b6e175a86861084383dd15c324d3cf0158b46e9958de62adbd7ef3"), looks := true }, kinds := [], alts := [], laidByText := true, laidKinds := [.sentinel, .sentinel, .sentinel, .sentinel, .sentinel, .sentinel, .sentinel, .sentinel, .sentinel, .sentinel, .sentinel, .sentinel, .sentinel, .sentinel, .sentinel, .sentinel, .sentinel, .sentinel, .sentinel, .sentinel, .sentinel, .sentinel, .sentinel, .sentinel], laidTests := true, laidLooks := .later }
def AutoTermsUptoCardSaid : Prop := Claim7.holds Tryd.pinned (.plain (OpenSpec.upto autoTermsSpec)) autoTermsUptoCard

/-- THE SECOND FORM's CARD OF 'concordlaw07.AutoFilter'. -/
def autoFilterUptoCard : Claim7 := { stood := { row := autoFilterUptoRow, standIns := [], harness := (true, "bbc3487616b6e175a86861084383dd15c324d3cf0158b46e9958de62adbd7ef3"), looks := true }, kinds := [], alts := [], laidByText := true, laidKinds := [.sentinel, .sentinel, .sentinel, .sentinel, .sentinel, .sentinel, .sentinel, .sentinel, .sentinel, .sentinel, .sentinel, .sentinel, .sentinel, .sentinel, .sentinel, .sentinel, .sentinel, .sentinel, .sentinel, .sentinel, .sentinel, .sentinel, .sentinel, .sentinel], laidTests := true, laidLooks := .later }
def AutoFilterUptoCardSaid : Prop := Claim7.holds Tryd.pinned (.plain (OpenSpec.upto autoFilterSpec)) autoFilterUptoCard
end Rows
end Go.Proofs.YtejmjjgbbojfbaaDoor
