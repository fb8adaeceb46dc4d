/-
  DERIVED. GIVEN WITH THE SEED: THE CARDS: each row of YtmmflhippbegaaaDoorRows.lean that lists a variable, with what it lists TIED to the program's text (the seventh form; the later family's looks); each row that meets fmt, with fmt's text TOLD by the authors' own Lean function (tested against real Go, not proved from fmt's source: count such statements apart). THE CARD IS WHAT COUNTS. Prove the row's statement (the work); the ties are given (YtmmflhippbegaaaDoorTie.lean); close each card by the builder's one call (the guide's Derived/Test/ToyasCard.lean, 'card_holds'). Laid BY PROGRAM, IN A SANDBOX (cutbox-door.mjs). By AI agents, Wed Nov 11 2026. No macro, syntax, notation, axiom, sorry.
-/
import Derived.Test.YtmmflhippbegaaaDoorRows
import GoSem.ClaimSeven
namespace Go.Proofs.YtmmflhippbegaaaDoor
namespace Rows

/-- THE TIED CARD OF 'concordlaw01.CodecSizes'. -/
def codecSizesCard : Claim7 := { stood := { row := codecSizesRow, standIns := [], harness := (true, "df36f7f654b3dc560dc8f1ff8f84f780336ed47b8aba85a0754824384dfdcedf"), looks := true }, kinds := [], alts := [], laidByText := true, laidKinds := [.sentinel, .sentinel, .sentinel, .sentinel, .sentinel], laidTests := true, laidLooks := .later }
def CodecSizesCardSaid : Prop := Claim7.holds Tryd.pinned (.plain (OpenSpec.ofChange codecSizesSpec)) codecSizesCard

/-- THE TIED CARD OF 'concordlaw01.CodecWrites'. -/
def codecWritesCard : Claim7 := { stood := { row := codecWritesRow, standIns := [], harness := (true, "df36f7f654b3dc560dc8f1ff8f84f780336ed47b8aba85a0754824384dfdcedf"), looks := true }, kinds := [], alts := [], laidByText := true, laidKinds := [.sentinel, .sentinel, .sentinel, .sentinel, .sentinel, .sentinel, .sentinel, .sentinel, .sentinel, .sentinel, .sentinel, .sentinel, .sentinel, .sentinel, .sentinel, .sentinel, .sentinel, .sentinel, .sentinel, .sentinel, .sentinel, .sentinel, .sentinel, .sentinel], laidTests := true, laidLooks := .later }
def CodecWritesCardSaid : Prop := Claim7.holds Tryd.pinned (.plain (OpenSpec.ofChange codecWritesSpec)) codecWritesCard

/-- THE TIED CARD OF 'concordlaw01.CodecReads'. -/
def codecReadsCard : Claim7 := { stood := { row := codecReadsRow, standIns := [], harness := (true, "df36f7f654b3dc560dc8f1ff8f84f780336ed47b8aba85a0754824384dfdcedf"), looks := true }, kinds := [], alts := [], laidByText := true, laidKinds := [.sentinel, .sentinel, .sentinel, .sentinel, .sentinel, .sentinel, .sentinel, .sentinel, .sentinel, .sentinel, .sentinel, .sentinel, .sentinel, .sentinel, .sentinel, .sentinel, .sentinel, .sentinel, .sentinel, .sentinel, .sentinel, .sentinel, .sentinel, .sentinel], laidTests := true, laidLooks := .later }
def CodecReadsCardSaid : Prop := Claim7.holds Tryd.pinned (.plain (OpenSpec.ofChange codecReadsSpec)) codecReadsCard

/-- THE TIED CARD OF 'concordlaw01.CodecTwice'. -/
def codecTwiceCard : Claim7 := { stood := { row := codecTwiceRow, standIns := [], harness := (true, "df36f7f654b3dc560dc8f1ff8f84f780336ed47b8aba85a0754824384dfdcedf"), looks := true }, kinds := [], alts := [], laidByText := true, laidKinds := [.sentinel, .sentinel, .sentinel, .sentinel, .sentinel], laidTests := true, laidLooks := .later }
def CodecTwiceCardSaid : Prop := Claim7.holds Tryd.pinned (.plain (OpenSpec.ofChange codecTwiceSpec)) codecTwiceCard

/-- THE TIED CARD OF 'concordlaw01.CodecOneForm'. -/
def codecOneFormCard : Claim7 := { stood := { row := codecOneFormRow, standIns := [], harness := (true, "df36f7f654b3dc560dc8f1ff8f84f780336ed47b8aba85a0754824384dfdcedf"), looks := true }, kinds := [], alts := [], laidByText := true, laidKinds := [.sentinel, .sentinel, .sentinel, .sentinel, .sentinel], laidTests := true, laidLooks := .later }
def CodecOneFormCardSaid : Prop := Claim7.holds Tryd.pinned (.plain (OpenSpec.ofChange codecOneFormSpec)) codecOneFormCard

/-- THE TIED CARD OF 'concordlaw01.CodecPrefix'. -/
def codecPrefixCard : Claim7 := { stood := { row := codecPrefixRow, standIns := [], harness := (true, "df36f7f654b3dc560dc8f1ff8f84f780336ed47b8aba85a0754824384dfdcedf"), looks := true }, kinds := [], alts := [], laidByText := true, laidKinds := [.sentinel, .sentinel, .sentinel, .sentinel, .sentinel], laidTests := true, laidLooks := .later }
def CodecPrefixCardSaid : Prop := Claim7.holds Tryd.pinned (.plain (OpenSpec.ofChange codecPrefixSpec)) codecPrefixCard

/-- THE TIED CARD OF 'concordlaw01.CodecBack'. -/
def codecBackCard : Claim7 := { stood := { row := codecBackRow, standIns := [], harness := (true, "df36f7f654b3dc560dc8f1ff8f84f780336ed47b8aba85a0754824384dfdcedf"), looks := true }, kinds := [], alts := [], laidByText := true, laidKinds := [.sentinel, .sentinel, .sentinel, .sentinel, .sentinel, .sentinel], laidTests := true, laidLooks := .later }
def CodecBackCardSaid : Prop := Claim7.holds Tryd.pinned (.plain (OpenSpec.ofChange codecBackSpec)) codecBackCard

/-- THE SECOND FORM's CARD OF 'concordlaw01.CodecSizes'. -/
def codecSizesUptoCard : Claim7 := { stood := { row := codecSizesUptoRow, standIns := [], harness := (true, "df36f7f654b3dc560dc8f1ff8f84f780336ed47b8aba85a0754824384dfdcedf"), looks := true }, kinds := [], alts := [], laidByText := true, laidKinds := [.sentinel, .sentinel, .sentinel, .sentinel, .sentinel], laidTests := true, laidLooks := .later }
def CodecSizesUptoCardSaid : Prop := Claim7.holds Tryd.pinned (.plain (OpenSpec.upto codecSizesSpec)) codecSizesUptoCard

/-- THE SECOND FORM's CARD OF 'concordlaw01.CodecWrites'. -/
def codecWritesUptoCard : Claim7 := { stood := { row := codecWritesUptoRow, standIns := [], harness := (true, "df36f7f654b3dc560dc8f1ff8f84f780336ed47b8aba85a0754824384dfdcedf"), looks := true }, kinds := [], alts := [], laidByText := true, laidKinds := [.sentinel, .sentinel, .sentinel, .sentinel, .sentinel, .sentinel, .sentinel, .sentinel, .sentinel, .sentinel, .sentinel, .sentinel, .sentinel, .sentinel, .sentinel, .sentinel, .sentinel, .sentinel, .sentinel, .sentinel, .sentinel, .sentinel, .sentinel, .sentinel], laidTests := true, laidLooks := .later }
def CodecWritesUptoCardSaid : Prop := Claim7.holds Tryd.pinned (.plain (OpenSpec.upto codecWritesSpec)) codecWritesUptoCard

/-- THE SECOND FORM's CARD OF 'concordlaw01.CodecReads'. -/
def codecReadsUptoCard : Claim7 := { stood := { row := codecReadsUptoRow, standIns := [], harness := (true, "df36f7f654b3dc560dc8f1ff8f84f780336ed47b8aba85a0754824384dfdcedf"), looks := true }, kinds := [], alts := [], laidByText := true, laidKinds := [.sentinel, .sentinel, .sentinel, .sentinel, .sentinel, .sentinel, .sentinel, .sentinel, .sentinel, .sentinel, .sentinel, .sentinel, .sentinel, .sentinel, .sentinel, .sentinel, .sentinel, .sentinel, .sentinel, .sentinel, .sentinel, .sentinel, .sentinel, .sentinel], laidTests := true, laidLooks := .later }
def CodecReadsUptoCardSaid : Prop := Claim7.holds Tryd.pinned (.plain (OpenSpec.upto codecReadsSpec)) codecReadsUptoCard

/-- THE SECOND FORM's CARD OF 'concordlaw01.CodecTwice'. -/
def codecTwiceUptoCard : Claim7 := { stood := { row := codecTwiceUptoRow, standIns := [], harness := (true, "df36f7f654b3dc560dc8f1ff8f84f780336ed47b8aba85a0754824384dfdcedf"), looks := true }, kinds := [], alts := [], laidByText := true, laidKinds := [.sentinel, .sentinel, .sentinel, .sentinel, .sentinel], laidTests := true, laidLooks := .later }
def CodecTwiceUptoCardSaid : Prop := Claim7.holds Tryd.pinned (.plain (OpenSpec.upto codecTwiceSpec)) codecTwiceUptoCard

/-- THE SECOND FORM's CARD OF 'concordlaw01.CodecOneForm'. -/
def codecOneFormUptoCard : Claim7 := { stood := { row := codecOneFormUptoRow, standIns := [], harness := (true, "df36f7f654b3dc560dc8f1ff8f84f780336ed47b8aba85a0754824384dfdcedf"), looks := true }, kinds := [], alts := [], laidByText := true, laidKinds := [.sentinel, .sentinel, .sentinel, .sentinel, .sentinel], laidTests := true, laidLooks := .later }
def CodecOneFormUptoCardSaid : Prop := Claim7.holds Tryd.pinned (.plain (OpenSpec.upto codecOneFormSpec)) codecOneFormUptoCard

/-- THE SECOND FORM's CARD OF 'concordlaw01.CodecPrefix'. -/
def codecPrefixUptoCard : Claim7 := { stood := { row := codecPrefixUptoRow, standIns := [], harness := (true, "df36f7f654b3dc560dc8f1ff8f84f780336ed47b8aba85a0754824384dfdcedf"), looks := true }, kinds := [], alts := [], laidByText := true, laidKinds := [.sentinel, .sentinel, .sentinel, .sentinel, .sentinel], laidTests := true, laidLooks := .later }
def CodecPrefixUptoCardSaid : Prop := Claim7.holds Tryd.pinned (.plain (OpenSpec.upto codecPrefixSpec)) codecPrefixUptoCard

/-- THE SECOND FORM's CARD OF 'concordlaw01.CodecBack'. -/
def codecBackUptoCard : Claim7 := { stood := { row := codecBackUptoRow, standIns := [], harness := (true, "df36f7f654b3dc560dc8f1ff8f84f780336ed47b8aba85a0754824384dfdcedf"), looks := true }, kinds := [], alts := [], laidByText := true, laidKinds := [.sentinel, .sentinel, .sentinel, .sentinel, .sentinel, .sentinel], laidTests := true, laidLooks := .later }
def CodecBackUptoCardSaid : Prop := Claim7.holds Tryd.pinned (.plain (OpenSpec.upto codecBackSpec)) codecBackUptoCard
end Rows
end Go.Proofs.YtmmflhippbegaaaDoor
