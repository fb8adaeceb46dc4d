/-
  DERIVED. GIVEN WITH THE SEED: THE CARDS: each row of YtaijepjhmjjecaaDoorRows.lean that lists a variable, with what it lists TIED to the program's text (the seventh form; the later family's looks); each row that meets fmt, with fmt's text TOLD by the authors' own Lean function (tested against real Go, not proved from fmt's source: count such statements apart). THE CARD IS WHAT COUNTS. Prove the row's statement (the work); the ties are given (YtaijepjhmjjecaaDoorTie.lean); close each card by the builder's one call (the guide's Derived/Test/ToyasCard.lean, 'card_holds'). Laid BY PROGRAM, IN A SANDBOX (cutbox-door.mjs). By AI agents, Wed Nov 11 2026. No macro, syntax, notation, axiom, sorry.
-/
import Derived.Test.YtaijepjhmjjecaaDoorRows
import GoSem.ClaimSeven
namespace Go.Proofs.YtaijepjhmjjecaaDoor
namespace Rows

/-- THE TIED CARD OF 'concordlaw09.CursorPhrase'. -/
def cursorPhraseCard : Claim7 := { stood := { row := cursorPhraseRow, standIns := [], harness := (true, "b6c07d92838001dcbe89811bf2d39ea434ed1b0bfcfc7fd57d5e5c912156e1d9"), looks := true }, kinds := [], alts := [], laidByText := true, laidKinds := [.sentinel, .sentinel, .sentinel, .sentinel, .sentinel, .sentinel], laidTests := true, laidLooks := .later }
def CursorPhraseCardSaid : Prop := Claim7.holds Tryd.pinned (.plain (OpenSpec.ofChange cursorPhraseSpec)) cursorPhraseCard

/-- THE TIED CARD OF 'concordlaw09.CursorPhraseRules'. -/
def cursorPhraseRulesCard : Claim7 := { stood := { row := cursorPhraseRulesRow, standIns := [], harness := (true, "b6c07d92838001dcbe89811bf2d39ea434ed1b0bfcfc7fd57d5e5c912156e1d9"), looks := true }, kinds := [], alts := [], laidByText := true, laidKinds := [.sentinel, .sentinel, .sentinel, .sentinel, .sentinel, .sentinel], laidTests := true, laidLooks := .later }
def CursorPhraseRulesCardSaid : Prop := Claim7.holds Tryd.pinned (.plain (OpenSpec.ofChange cursorPhraseRulesSpec)) cursorPhraseRulesCard

/-- THE TIED CARD OF 'concordlaw09.CursorOpens'. -/
def cursorOpensCard : Claim7 := { stood := { row := cursorOpensRow, standIns := [], harness := (true, "b6c07d92838001dcbe89811bf2d39ea434ed1b0bfcfc7fd57d5e5c912156e1d9"), looks := true }, kinds := [], alts := [], laidByText := true, laidKinds := [.sentinel, .sentinel, .sentinel, .sentinel, .sentinel, .sentinel, .sentinel, .sentinel, .sentinel, .sentinel, .sentinel, .sentinel, .sentinel, .sentinel, .sentinel, .sentinel, .sentinel, .sentinel, .sentinel, .sentinel, .sentinel, .sentinel, .sentinel, .sentinel], laidTests := true, laidLooks := .later }
def CursorOpensCardSaid : Prop := Claim7.holds Tryd.pinned (.plain (OpenSpec.ofChange cursorOpensSpec)) cursorOpensCard

/-- THE TIED CARD OF 'concordlaw09.CursorMemory'. -/
def cursorMemoryCard : Claim7 := { stood := { row := cursorMemoryRow, standIns := [], harness := (true, "b6c07d92838001dcbe89811bf2d39ea434ed1b0bfcfc7fd57d5e5c912156e1d9"), looks := true }, kinds := [], alts := [], laidByText := true, laidKinds := [.sentinel, .sentinel, .sentinel, .sentinel, .sentinel, .sentinel, .sentinel, .sentinel, .sentinel, .sentinel, .sentinel, .sentinel, .sentinel, .sentinel, .sentinel, .sentinel, .sentinel, .sentinel, .sentinel, .sentinel, .sentinel, .sentinel, .sentinel, .sentinel], laidTests := true, laidLooks := .later }
def CursorMemoryCardSaid : Prop := Claim7.holds Tryd.pinned (.plain (OpenSpec.ofChange cursorMemorySpec)) cursorMemoryCard

/-- THE TIED CARD OF 'concordlaw09.CursorPlays'. -/
def cursorPlaysCard : Claim7 := { stood := { row := cursorPlaysRow, standIns := [], harness := (true, "b6c07d92838001dcbe89811bf2d39ea434ed1b0bfcfc7fd57d5e5c912156e1d9"), looks := true }, kinds := [], alts := [], laidByText := true, laidKinds := [.sentinel, .sentinel, .sentinel, .sentinel, .sentinel, .sentinel], laidTests := true, laidLooks := .later }
def CursorPlaysCardSaid : Prop := Claim7.holds Tryd.pinned (.plain (OpenSpec.ofChange cursorPlaysSpec)) cursorPlaysCard

/-- THE TIED CARD OF 'concordlaw09.CursorScan'. -/
def cursorScanCard : Claim7 := { stood := { row := cursorScanRow, standIns := [], harness := (true, "b6c07d92838001dcbe89811bf2d39ea434ed1b0bfcfc7fd57d5e5c912156e1d9"), looks := true }, kinds := [], alts := [], laidByText := true, laidKinds := [.sentinel, .sentinel, .sentinel, .sentinel, .sentinel, .sentinel, .sentinel], laidTests := true, laidLooks := .later }
def CursorScanCardSaid : Prop := Claim7.holds Tryd.pinned (.plain (OpenSpec.ofChange cursorScanSpec)) cursorScanCard

/-- THE SECOND FORM's CARD OF 'concordlaw09.CursorPhrase'. -/
def cursorPhraseUptoCard : Claim7 := { stood := { row := cursorPhraseUptoRow, standIns := [], harness := (true, "b6c07d92838001dcbe89811bf2d39ea434ed1b0bfcfc7fd57d5e5c912156e1d9"), looks := true }, kinds := [], alts := [], laidByText := true, laidKinds := [.sentinel, .sentinel, .sentinel, .sentinel, .sentinel, .sentinel], laidTests := true, laidLooks := .later }
def CursorPhraseUptoCardSaid : Prop := Claim7.holds Tryd.pinned (.plain (OpenSpec.upto cursorPhraseSpec)) cursorPhraseUptoCard

/-- THE SECOND FORM's CARD OF 'concordlaw09.CursorPhraseRules'. -/
def cursorPhraseRulesUptoCard : Claim7 := { stood := { row := cursorPhraseRulesUptoRow, standIns := [], harness := (true, "b6c07d92838001dcbe89811bf2d39ea434ed1b0bfcfc7fd57d5e5c912156e1d9"), looks := true }, kinds := [], alts := [], laidByText := true, laidKinds := [.sentinel, .sentinel, .sentinel, .sentinel, .sentinel, .sentinel], laidTests := true, laidLooks := .later }
def CursorPhraseRulesUptoCardSaid : Prop := Claim7.holds Tryd.pinned (.plain (OpenSpec.upto cursorPhraseRulesSpec)) cursorPhraseRulesUptoCard

/-- THE SECOND FORM's CARD OF 'concordlaw09.CursorOpens'. -/
def cursorOpensUptoCard : Claim7 := { stood := { row := cursorOpensUptoRow, standIns := [], harness := (true, "b6c07d92838001dcbe89811bf2d39ea434ed1b0bfcfc7fd57d5e5c912156e1d9"), looks := true }, kinds := [], alts := [], laidByText := true, laidKinds := [.sentinel, .sentinel, .sentinel, .sentinel, .sentinel, .sentinel, .sentinel, .sentinel, .sentinel, .sentinel, .sentinel, .sentinel, .sentinel, .sentinel, .sentinel, .sentinel, .sentinel, .sentinel, .sentinel, .sentinel, .sentinel, .sentinel, .sentinel, .sentinel], laidTests := true, laidLooks := .later }
def CursorOpensUptoCardSaid : Prop := Claim7.holds Tryd.pinned (.plain (OpenSpec.upto cursorOpensSpec)) cursorOpensUptoCard

/-- THE SECOND FORM's CARD OF 'concordlaw09.CursorMemory'. -/
def cursorMemoryUptoCard : Claim7 := { stood := { row := cursorMemoryUptoRow, standIns := [], harness := (true, "b6c07d92838001dcbe89811bf2d39ea434ed1b0bfcfc7fd57d5e5c912156e1d9"), looks := true }, kinds := [], alts := [], laidByText := true, laidKinds := [.sentinel, .sentinel, .sentinel, .sentinel, .sentinel, .sentinel, .sentinel, .sentinel, .sentinel, .sentinel, .sentinel, .sentinel, .sentinel, .sentinel, .sentinel, .sentinel, .sentinel, .sentinel, .sentinel, .sentinel, .sentinel, .sentinel, .sentinel, .sentinel], laidTests := true, laidLooks := .later }
def CursorMemoryUptoCardSaid : Prop := Claim7.holds Tryd.pinned (.plain (OpenSpec.upto cursorMemorySpec)) cursorMemoryUptoCard

/-- THE SECOND FORM's CARD OF 'concordlaw09.CursorPlays'. -/
def cursorPlaysUptoCard : Claim7 := { stood := { row := cursorPlaysUptoRow, standIns := [], harness := (true, "b6c07d92838001dcbe89811bf2d39ea434ed1b0bfcfc7fd57d5e5c912156e1d9"), looks := true }, kinds := [], alts := [], laidByText := true, laidKinds := [.sentinel, .sentinel, .sentinel, .sentinel, .sentinel, .sentinel], laidTests := true, laidLooks := .later }
def CursorPlaysUptoCardSaid : Prop := Claim7.holds Tryd.pinned (.plain (OpenSpec.upto cursorPlaysSpec)) cursorPlaysUptoCard

/-- THE SECOND FORM's CARD OF 'concordlaw09.CursorScan'. -/
def cursorScanUptoCard : Claim7 := { stood := { row := cursorScanUptoRow, standIns := [], harness := (true, "b6c07d92838001dcbe89811bf2d39ea434ed1b0bfcfc7fd57d5e5c912156e1d9"), looks := true }, kinds := [], alts := [], laidByText := true, laidKinds := [.sentinel, .sentinel, .sentinel, .sentinel, .sentinel, .sentinel, .sentinel], laidTests := true, laidLooks := .later }
def CursorScanUptoCardSaid : Prop := Claim7.holds Tryd.pinned (.plain (OpenSpec.upto cursorScanSpec)) cursorScanUptoCard
end Rows
end Go.Proofs.YtaijepjhmjjecaaDoor
