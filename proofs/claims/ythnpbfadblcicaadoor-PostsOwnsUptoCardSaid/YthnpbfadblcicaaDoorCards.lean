/-
  DERIVED. GIVEN WITH THE SEED: THE CARDS: each row of YthnpbfadblcicaaDoorRows.lean that lists a variable, with what it lists TIED to the program's text (the seventh form; the later family's looks); each row that meets fmt, with fmt's text TOLD by the authors' own Lean function (tested against real Go, not proved from fmt's source: count such statements apart). THE CARD IS WHAT COUNTS. Prove the row's statement (the work); the ties are given (YthnpbfadblcicaaDoorTie.lean); close each card by the builder's one call (the guide's Derived/Test/ToyasCard.lean, 'card_holds'). Laid BY PROGRAM, IN A SANDBOX (cutbox-door.mjs). By AI agents, Wed Nov 11 2026. No macro, syntax, notation, axiom, sorry.
-/
import Derived.Test.YthnpbfadblcicaaDoorRows
import GoSem.ClaimSeven
namespace Go.Proofs.YthnpbfadblcicaaDoor
namespace Rows

/-- THE TIED CARD OF 'concordlaw08.PostsEncodes'. -/
def postsEncodesCard : Claim7 := { stood := { row := postsEncodesRow, standIns := [], harness := (true, "208f6e0ba4f8247ca0e0e6125ac1d274bd6c02272b409e01edad15d6918c1b9c"), looks := true }, kinds := [], alts := [], laidByText := true, laidKinds := [.sentinel, .sentinel, .sentinel, .sentinel, .sentinel, .sentinel, .sentinel, .sentinel, .sentinel, .sentinel, .sentinel, .sentinel, .sentinel, .sentinel, .sentinel, .sentinel, .sentinel, .sentinel, .sentinel, .sentinel, .sentinel, .sentinel, .sentinel, .sentinel], laidTests := true, laidLooks := .later }
def PostsEncodesCardSaid : Prop := Claim7.holds Tryd.pinned (.plain (OpenSpec.ofChange postsEncodesSpec)) postsEncodesCard

/-- THE TIED CARD OF 'concordlaw08.PostsLists'. -/
def postsListsCard : Claim7 := { stood := { row := postsListsRow, standIns := [], harness := (true, "208f6e0ba4f8247ca0e0e6125ac1d274bd6c02272b409e01edad15d6918c1b9c"), looks := true }, kinds := [], alts := [], laidByText := true, laidKinds := [.sentinel, .sentinel, .sentinel, .sentinel, .sentinel, .sentinel, .sentinel], laidTests := true, laidLooks := .later }
def PostsListsCardSaid : Prop := Claim7.holds Tryd.pinned (.plain (OpenSpec.ofChange postsListsSpec)) postsListsCard

/-- THE TIED CARD OF 'concordlaw08.PostsBlocks'. -/
def postsBlocksCard : Claim7 := { stood := { row := postsBlocksRow, standIns := [], harness := (true, "208f6e0ba4f8247ca0e0e6125ac1d274bd6c02272b409e01edad15d6918c1b9c"), looks := true }, kinds := [], alts := [], laidByText := true, laidKinds := [.sentinel, .sentinel, .sentinel, .sentinel, .sentinel, .sentinel, .sentinel], laidTests := true, laidLooks := .later }
def PostsBlocksCardSaid : Prop := Claim7.holds Tryd.pinned (.plain (OpenSpec.ofChange postsBlocksSpec)) postsBlocksCard

/-- THE TIED CARD OF 'concordlaw08.PostsDecodes'. -/
def postsDecodesCard : Claim7 := { stood := { row := postsDecodesRow, standIns := [], harness := (true, "208f6e0ba4f8247ca0e0e6125ac1d274bd6c02272b409e01edad15d6918c1b9c"), looks := true }, kinds := [], alts := [], laidByText := true, laidKinds := [.sentinel, .sentinel, .sentinel, .sentinel, .sentinel, .sentinel, .sentinel, .sentinel, .sentinel, .sentinel, .sentinel, .sentinel, .sentinel, .sentinel, .sentinel, .sentinel, .sentinel, .sentinel, .sentinel, .sentinel, .sentinel, .sentinel, .sentinel, .sentinel], laidTests := true, laidLooks := .later }
def PostsDecodesCardSaid : Prop := Claim7.holds Tryd.pinned (.plain (OpenSpec.ofChange postsDecodesSpec)) postsDecodesCard

/-- THE TIED CARD OF 'concordlaw08.PostsThere'. -/
def postsThereCard : Claim7 := { stood := { row := postsThereRow, standIns := [], harness := (true, "208f6e0ba4f8247ca0e0e6125ac1d274bd6c02272b409e01edad15d6918c1b9c"), looks := true }, kinds := [], alts := [], laidByText := true, laidKinds := [.sentinel, .sentinel, .sentinel, .sentinel, .sentinel, .sentinel, .sentinel, .sentinel, .sentinel, .sentinel, .sentinel, .sentinel, .sentinel, .sentinel, .sentinel, .sentinel, .sentinel, .sentinel, .sentinel, .sentinel, .sentinel, .sentinel, .sentinel, .sentinel], laidTests := true, laidLooks := .later }
def PostsThereCardSaid : Prop := Claim7.holds Tryd.pinned (.plain (OpenSpec.ofChange postsThereSpec)) postsThereCard

/-- THE TIED CARD OF 'concordlaw08.PostsOwns'. -/
def postsOwnsCard : Claim7 := { stood := { row := postsOwnsRow, standIns := [], harness := (true, "208f6e0ba4f8247ca0e0e6125ac1d274bd6c02272b409e01edad15d6918c1b9c"), looks := true }, kinds := [], alts := [], laidByText := true, laidKinds := [.sentinel, .sentinel, .sentinel, .sentinel, .sentinel, .sentinel, .sentinel], laidTests := true, laidLooks := .later }
def PostsOwnsCardSaid : Prop := Claim7.holds Tryd.pinned (.plain (OpenSpec.ofChange postsOwnsSpec)) postsOwnsCard

/-- THE SECOND FORM's CARD OF 'concordlaw08.PostsEncodes'. -/
def postsEncodesUptoCard : Claim7 := { stood := { row := postsEncodesUptoRow, standIns := [], harness := (true, "208f6e0ba4f8247ca0e0e6125ac1d274bd6c02272b409e01edad15d6918c1b9c"), looks := true }, kinds := [], alts := [], laidByText := true, laidKinds := [.sentinel, .sentinel, .sentinel, .sentinel, .sentinel, .sentinel, .sentinel, .sentinel, .sentinel, .sentinel, .sentinel, .sentinel, .sentinel, .sentinel, .sentinel, .sentinel, .sentinel, .sentinel, .sentinel, .sentinel, .sentinel, .sentinel, .sentinel, .sentinel], laidTests := true, laidLooks := .later }
def PostsEncodesUptoCardSaid : Prop := Claim7.holds Tryd.pinned (.plain (OpenSpec.upto postsEncodesSpec)) postsEncodesUptoCard

/-- THE SECOND FORM's CARD OF 'concordlaw08.PostsLists'. -/
def postsListsUptoCard : Claim7 := { stood := { row := postsListsUptoRow, standIns := [], harness := (true, "208f6e0ba4f8247ca0e0e6125ac1d274bd6c02272b409e01edad15d6918c1b9c"), looks := true }, kinds := [], alts := [], laidByText := true, laidKinds := [.sentinel, .sentinel, .sentinel, .sentinel, .sentinel, .sentinel, .sentinel], laidTests := true, laidLooks := .later }
def PostsListsUptoCardSaid : Prop := Claim7.holds Tryd.pinned (.plain (OpenSpec.upto postsListsSpec)) postsListsUptoCard

/-- THE SECOND FORM's CARD OF 'concordlaw08.PostsBlocks'. -/
def postsBlocksUptoCard : Claim7 := { stood := { row := postsBlocksUptoRow, standIns := [], harness := (true, "208f6e0ba4f8247ca0e0e6125ac1d274bd6c02272b409e01edad15d6918c1b9c"), looks := true }, kinds := [], alts := [], laidByText := true, laidKinds := [.sentinel, .sentinel, .sentinel, .sentinel, .sentinel, .sentinel, .sentinel], laidTests := true, laidLooks := .later }
def PostsBlocksUptoCardSaid : Prop := Claim7.holds Tryd.pinned (.plain (OpenSpec.upto postsBlocksSpec)) postsBlocksUptoCard

/-- THE SECOND FORM's CARD OF 'concordlaw08.PostsDecodes'. -/
def postsDecodesUptoCard : Claim7 := { stood := { row := postsDecodesUptoRow, standIns := [], harness := (true, "208f6e0ba4f8247ca0e0e6125ac1d274bd6c02272b409e01edad15d6918c1b9c"), looks := true }, kinds := [], alts := [], laidByText := true, laidKinds := [.sentinel, .sentinel, .sentinel, .sentinel, .sentinel, .sentinel, .sentinel, .sentinel, .sentinel, .sentinel, .sentinel, .sentinel, .sentinel, .sentinel, .sentinel, .sentinel, .sentinel, .sentinel, .sentinel, .sentinel, .sentinel, .sentinel, .sentinel, .sentinel], laidTests := true, laidLooks := .later }
def PostsDecodesUptoCardSaid : Prop := Claim7.holds Tryd.pinned (.plain (OpenSpec.upto postsDecodesSpec)) postsDecodesUptoCard

/-- THE SECOND FORM's CARD OF 'concordlaw08.PostsThere'. -/
def postsThereUptoCard : Claim7 := { stood := { row := postsThereUptoRow, standIns := [], harness := (true, "208f6e0ba4f8247ca0e0e6125ac1d274bd6c02272b409e01edad15d6918c1b9c"), looks := true }, kinds := [], alts := [], laidByText := true, laidKinds := [.sentinel, .sentinel, .sentinel, .sentinel, .sentinel, .sentinel, .sentinel, .sentinel, .sentinel, .sentinel, .sentinel, .sentinel, .sentinel, .sentinel, .sentinel, .sentinel, .sentinel, .sentinel, .sentinel, .sentinel, .sentinel, .sentinel, .sentinel, .sentinel], laidTests := true, laidLooks := .later }
def PostsThereUptoCardSaid : Prop := Claim7.holds Tryd.pinned (.plain (OpenSpec.upto postsThereSpec)) postsThereUptoCard

/-- THE SECOND FORM's CARD OF 'concordlaw08.PostsOwns'. -/
def postsOwnsUptoCard : Claim7 := { stood := { row := postsOwnsUptoRow, standIns := [], harness := (true, "208f6e0ba4f8247ca0e0e6125ac1d274bd6c02272b409e01edad15d6918c1b9c"), looks := true }, kinds := [], alts := [], laidByText := true, laidKinds := [.sentinel, .sentinel, .sentinel, .sentinel, .sentinel, .sentinel, .sentinel], laidTests := true, laidLooks := .later }
def PostsOwnsUptoCardSaid : Prop := Claim7.holds Tryd.pinned (.plain (OpenSpec.upto postsOwnsSpec)) postsOwnsUptoCard
end Rows
end Go.Proofs.YthnpbfadblcicaaDoor
