/-
  DERIVED. GIVEN WITH THE SEED: THE CARDS: each row of YtfeldllcpeibcaaDoorRows.lean that lists a variable, with what it lists TIED to the program's text (the seventh form; the later family's looks); each row that meets fmt, with fmt's text TOLD by the authors' own Lean function (tested against real Go, not proved from fmt's source: count such statements apart). THE CARD IS WHAT COUNTS. Prove the row's statement (the work); the ties are given (YtfeldllcpeibcaaDoorTie.lean); close each card by the builder's one call (the guide's Derived/Test/ToyasCard.lean, 'card_holds'). Laid BY PROGRAM, IN A SANDBOX (cutbox-door.mjs). By AI agents, Wed Nov 11 2026. No macro, syntax, notation, axiom, sorry.
-/
import Derived.Test.YtfeldllcpeibcaaDoorRows
import GoSem.ClaimSeven
namespace Go.Proofs.YtfeldllcpeibcaaDoor
namespace Rows

/-- THE TIED CARD OF 'concordlaw06.DictOneForm'. -/
def dictOneFormCard : Claim7 := { stood := { row := dictOneFormRow, standIns := [], harness := (true, "bb6c5099510f33f545e3af8fe3857847623c82b35e6d452b50d595da73736d7b"), looks := true }, kinds := [], alts := [], laidByText := true, laidKinds := [.sentinel, .sentinel, .sentinel, .sentinel, .sentinel, .sentinel, .sentinel, .sentinel, .sentinel, .sentinel, .sentinel, .sentinel, .sentinel, .sentinel, .sentinel, .sentinel, .sentinel, .sentinel, .sentinel, .sentinel, .sentinel, .sentinel, .sentinel, .sentinel], laidTests := true, laidLooks := .later }
def DictOneFormCardSaid : Prop := Claim7.holds Tryd.pinned (.plain (OpenSpec.ofChange dictOneFormSpec)) dictOneFormCard

/-- THE TIED CARD OF 'concordlaw06.DictPlays'. -/
def dictPlaysCard : Claim7 := { stood := { row := dictPlaysRow, standIns := [], harness := (true, "bb6c5099510f33f545e3af8fe3857847623c82b35e6d452b50d595da73736d7b"), looks := true }, kinds := [], alts := [], laidByText := true, laidKinds := [.sentinel, .sentinel, .sentinel, .sentinel, .sentinel, .sentinel, .sentinel, .sentinel, .sentinel, .sentinel, .sentinel, .sentinel, .sentinel, .sentinel, .sentinel, .sentinel, .sentinel, .sentinel, .sentinel, .sentinel, .sentinel, .sentinel, .sentinel, .sentinel], laidTests := true, laidLooks := .later }
def DictPlaysCardSaid : Prop := Claim7.holds Tryd.pinned (.plain (OpenSpec.ofChange dictPlaysSpec)) dictPlaysCard

/-- THE TIED CARD OF 'concordlaw06.DictOpens'. -/
def dictOpensCard : Claim7 := { stood := { row := dictOpensRow, standIns := [], harness := (true, "bb6c5099510f33f545e3af8fe3857847623c82b35e6d452b50d595da73736d7b"), looks := true }, kinds := [], alts := [], laidByText := true, laidKinds := [.sentinel, .sentinel, .sentinel, .sentinel, .sentinel, .sentinel, .sentinel, .sentinel, .sentinel, .sentinel, .sentinel, .sentinel, .sentinel, .sentinel, .sentinel, .sentinel, .sentinel, .sentinel, .sentinel, .sentinel, .sentinel, .sentinel, .sentinel, .sentinel], laidTests := true, laidLooks := .later }
def DictOpensCardSaid : Prop := Claim7.holds Tryd.pinned (.plain (OpenSpec.ofChange dictOpensSpec)) dictOpensCard

/-- THE TIED CARD OF 'concordlaw06.DictMemory'. -/
def dictMemoryCard : Claim7 := { stood := { row := dictMemoryRow, standIns := [], harness := (true, "bb6c5099510f33f545e3af8fe3857847623c82b35e6d452b50d595da73736d7b"), looks := true }, kinds := [], alts := [], laidByText := true, laidKinds := [.sentinel, .sentinel, .sentinel, .sentinel, .sentinel, .sentinel, .sentinel, .sentinel, .sentinel, .sentinel, .sentinel, .sentinel, .sentinel, .sentinel, .sentinel, .sentinel, .sentinel, .sentinel, .sentinel, .sentinel, .sentinel, .sentinel, .sentinel, .sentinel], laidTests := true, laidLooks := .later }
def DictMemoryCardSaid : Prop := Claim7.holds Tryd.pinned (.plain (OpenSpec.ofChange dictMemorySpec)) dictMemoryCard

/-- THE TIED CARD OF 'concordlaw06.DictWalks'. -/
def dictWalksCard : Claim7 := { stood := { row := dictWalksRow, standIns := [], harness := (true, "bb6c5099510f33f545e3af8fe3857847623c82b35e6d452b50d595da73736d7b"), looks := true }, kinds := [], alts := [], laidByText := true, laidKinds := [.sentinel, .sentinel, .sentinel, .sentinel, .sentinel, .sentinel, .sentinel, .sentinel, .sentinel, .sentinel, .sentinel, .sentinel, .sentinel, .sentinel, .sentinel, .sentinel, .sentinel, .sentinel, .sentinel, .sentinel, .sentinel, .sentinel, .sentinel, .sentinel], laidTests := true, laidLooks := .later }
def DictWalksCardSaid : Prop := Claim7.holds Tryd.pinned (.plain (OpenSpec.ofChange dictWalksSpec)) dictWalksCard

/-- THE TIED CARD OF 'concordlaw06.DictFinds'. -/
def dictFindsCard : Claim7 := { stood := { row := dictFindsRow, standIns := [], harness := (true, "bb6c5099510f33f545e3af8fe3857847623c82b35e6d452b50d595da73736d7b"), looks := true }, kinds := [], alts := [], laidByText := true, laidKinds := [.sentinel, .sentinel, .sentinel, .sentinel, .sentinel, .sentinel, .sentinel, .sentinel, .sentinel, .sentinel, .sentinel, .sentinel, .sentinel, .sentinel, .sentinel, .sentinel, .sentinel, .sentinel, .sentinel, .sentinel, .sentinel, .sentinel, .sentinel, .sentinel], laidTests := true, laidLooks := .later }
def DictFindsCardSaid : Prop := Claim7.holds Tryd.pinned (.plain (OpenSpec.ofChange dictFindsSpec)) dictFindsCard

/-- THE TIED CARD OF 'concordlaw06.DictRefuses'. -/
def dictRefusesCard : Claim7 := { stood := { row := dictRefusesRow, standIns := [], harness := (true, "bb6c5099510f33f545e3af8fe3857847623c82b35e6d452b50d595da73736d7b"), looks := true }, kinds := [], alts := [], laidByText := true, laidKinds := [.sentinel, .sentinel, .sentinel, .sentinel, .sentinel, .sentinel, .sentinel, .sentinel, .sentinel, .sentinel, .sentinel, .sentinel, .sentinel, .sentinel, .sentinel, .sentinel, .sentinel, .sentinel, .sentinel, .sentinel, .sentinel, .sentinel, .sentinel, .sentinel], laidTests := true, laidLooks := .later }
def DictRefusesCardSaid : Prop := Claim7.holds Tryd.pinned (.plain (OpenSpec.ofChange dictRefusesSpec)) dictRefusesCard

/-- THE SECOND FORM's CARD OF 'concordlaw06.DictOneForm'. -/
def dictOneFormUptoCard : Claim7 := { stood := { row := dictOneFormUptoRow, standIns := [], harness := (true, "bb6c5099510f33f545e3af8fe3857847623c82b35e6d452b50d595da73736d7b"), looks := true }, kinds := [], alts := [], laidByText := true, laidKinds := [.sentinel, .sentinel, .sentinel, .sentinel, .sentinel, .sentinel, .sentinel, .sentinel, .sentinel, .sentinel, .sentinel, .sentinel, .sentinel, .sentinel, .sentinel, .sentinel, .sentinel, .sentinel, .sentinel, .sentinel, .sentinel, .sentinel, .sentinel, .sentinel], laidTests := true, laidLooks := .later }
def DictOneFormUptoCardSaid : Prop := Claim7.holds Tryd.pinned (.plain (OpenSpec.upto dictOneFormSpec)) dictOneFormUptoCard

/-- THE SECOND FORM's CARD OF 'concordlaw06.DictPlays'. -/
def dictPlaysUptoCard : Claim7 := { stood := { row := dictPlaysUptoRow, standIns := [], harness := (true, "bb6c5099510f33f545e3af8fe3857847623c82b35e6d452b50d595da73736d7b"), looks := true }, kinds := [], alts := [], laidByText := true, laidKinds := [.sentinel, .sentinel, .sentinel, .sentinel, .sentinel, .sentinel, .sentinel, .sentinel, .sentinel, .sentinel, .sentinel, .sentinel, .sentinel, .sentinel, .sentinel, .sentinel, .sentinel, .sentinel, .sentinel, .sentinel, .sentinel, .sentinel, .sentinel, .sentinel], laidTests := true, laidLooks := .later }
def DictPlaysUptoCardSaid : Prop := Claim7.holds Tryd.pinned (.plain (OpenSpec.upto dictPlaysSpec)) dictPlaysUptoCard

/-- THE SECOND FORM's CARD OF 'concordlaw06.DictOpens'. -/
def dictOpensUptoCard : Claim7 := { stood := { row := dictOpensUptoRow, standIns := [], harness := (true, "bb6c5099510f33f545e3af8fe3857847623c82b35e6d452b50d595da73736d7b"), looks := true }, kinds := [], alts := [], laidByText := true, laidKinds := [.sentinel, .sentinel, .sentinel, .sentinel, .sentinel, .sentinel, .sentinel, .sentinel, .sentinel, .sentinel, .sentinel, .sentinel, .sentinel, .sentinel, .sentinel, .sentinel, .sentinel, .sentinel, .sentinel, .sentinel, .sentinel, .sentinel, .sentinel, .sentinel], laidTests := true, laidLooks := .later }
def DictOpensUptoCardSaid : Prop := Claim7.holds Tryd.pinned (.plain (OpenSpec.upto dictOpensSpec)) dictOpensUptoCard

/-- THE SECOND FORM's CARD OF 'concordlaw06.DictMemory'. -/
def dictMemoryUptoCard : Claim7 := { stood := { row := dictMemoryUptoRow, standIns := [], harness := (true, "bb6c5099510f33f545e3af8fe3857847623c82b35e6d452b50d595da73736d7b"), looks := true }, kinds := [], alts := [], laidByText := true, laidKinds := [.sentinel, .sentinel, .sentinel, .sentinel, .sentinel, .sentinel, .sentinel, .sentinel, .sentinel, .sentinel, .sentinel, .sentinel, .sentinel, .sentinel, .sentinel, .sentinel, .sentinel, .sentinel, .sentinel, .sentinel, .sentinel, .sentinel, .sentinel, .sentinel], laidTests := true, laidLooks := .later }
def DictMemoryUptoCardSaid : Prop := Claim7.holds Tryd.pinned (.plain (OpenSpec.upto dictMemorySpec)) dictMemoryUptoCard

/-- THE SECOND FORM's CARD OF 'concordlaw06.DictWalks'. -/
def dictWalksUptoCard : Claim7 := { stood := { row := dictWalksUptoRow, standIns := [], harness := (true, "bb6c5099510f33f545e3af8fe3857847623c82b35e6d452b50d595da73736d7b"), looks := true }, kinds := [], alts := [], laidByText := true, laidKinds := [.sentinel, .sentinel, .sentinel, .sentinel, .sentinel, .sentinel, .sentinel, .sentinel, .sentinel, .sentinel, .sentinel, .sentinel, .sentinel, .sentinel, .sentinel, .sentinel, .sentinel, .sentinel, .sentinel, .sentinel, .sentinel, .sentinel, .sentinel, .sentinel], laidTests := true, laidLooks := .later }
def DictWalksUptoCardSaid : Prop := Claim7.holds Tryd.pinned (.plain (OpenSpec.upto dictWalksSpec)) dictWalksUptoCard

/-- THE SECOND FORM's CARD OF 'concordlaw06.DictFinds'. -/
def dictFindsUptoCard : Claim7 := { stood := { row := dictFindsUptoRow, standIns := [], harness := (true, "bb6c5099510f33f545e3af8fe3857847623c82b35e6d452b50d595da73736d7b"), looks := true }, kinds := [], alts := [], laidByText := true, laidKinds := [.sentinel, .sentinel, .sentinel, .sentinel, .sentinel, .sentinel, .sentinel, .sentinel, .sentinel, .sentinel, .sentinel, .sentinel, .sentinel, .sentinel, .sentinel, .sentinel, .sentinel, .sentinel, .sentinel, .sentinel, .sentinel, .sentinel, .sentinel, .sentinel], laidTests := true, laidLooks := .later }
def DictFindsUptoCardSaid : Prop := Claim7.holds Tryd.pinned (.plain (OpenSpec.upto dictFindsSpec)) dictFindsUptoCard

/-- THE SECOND FORM's CARD OF 'concordlaw06.DictRefuses'. -/
def dictRefusesUptoCard : Claim7 := { stood := { row := dictRefusesUptoRow, standIns := [], harness := (true, "bb6c5099510f33f545e3af8fe3857847623c82b35e6d452b50d595da73736d7b"), looks := true }, kinds := [], alts := [], laidByText := true, laidKinds := [.sentinel, .sentinel, .sentinel, .sentinel, .sentinel, .sentinel, .sentinel, .sentinel, .sentinel, .sentinel, .sentinel, .sentinel, .sentinel, .sentinel, .sentinel, .sentinel, .sentinel, .sentinel, .sentinel, .sentinel, .sentinel, .sentinel, .sentinel, .sentinel], laidTests := true, laidLooks := .later }
def DictRefusesUptoCardSaid : Prop := Claim7.holds Tryd.pinned (.plain (OpenSpec.upto dictRefusesSpec)) dictRefusesUptoCard
end Rows
end Go.Proofs.YtfeldllcpeibcaaDoor
