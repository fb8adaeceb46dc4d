/-
  NARROWER THAN 'FOR EVERY INPUT', by the rows' own cells (each row's printed sentence says how): CodecSizes: laid · CodecWrites: laid · CodecReads: laid · CodecTwice: laid · CodecOneForm: laid · CodecPrefix: laid · CodecBack: laid.
  DERIVED. THE GIVEN ROWS OF THIS SEAT. 7 by the template 'for every input the law returns true; each argument reads behind the call as it read before'; 0 by the template 'total and deterministic' (their statements: YtmmflhippbegaaaDoorTotals.lean).
  GIVEN WITH THE SEED: the statements are not yours to turn. If you find one false, say at which input.
  Laid BY PROGRAM, IN A SANDBOX (cutbox-rows.mjs): the forced cells as the released guide's own fill.sh prints them over the translation 7bfab3adadf7a98e… (all of the seat's roots in one cut). By AI agents, Wed Nov 11 2026. No macro, syntax, notation, axiom, sorry.
-/
import Derived.Test.YtmmflhippbegaaaDoorChecked
import GoSem.Claim
import GoSem.ClaimJoined
import GoSem.ClaimMapViews
import Derived.JoinedTies
import Derived.KernelRfl
namespace Go.Proofs.YtmmflhippbegaaaDoor
/- THE CELL 'sum', in the pinned program and in every row, IS THE sha256 OF THE DUMP (.gsa) THAT YtmmflhippbegaaaDoorProg.lean LOADS. Nothing in Lean hashes anything: it is a label: what it is worth is what the hold of that sum in a sandbox is worth. -/
noncomputable def Tryd.pinned : Pinned := { name := "ytmmflhippbegaaadoor", sum := "7bfab3adadf7a98e82b577e9ef9826724948c4e8eeed707dba5a139819306fb8", checked := Tryd.checked }
namespace Rows
def none {H : Type} : Left H := { results := [], args := [] }

/- WHAT THE LISTED PACKAGE-LEVEL VARIABLES READ AS WHEN THE CALL BEGINS. Each datum BY PROGRAM (the guide's laid-datum.mjs) off the statement by which the dump's own 'gosem.cut.vars' lays the variable. In a bare row this is a premise. The card (YtmmflhippbegaaaDoorCards.lean) ties it to the program's text. -/
def laid_concord_api_ErrShort {H : Type} : DataW H := .iface "*errors.errorString" (.ptr (.agg [.lit (.string [99, 111, 110, 99, 111, 114, 100, 58, 32, 116, 111, 111, 32, 115, 104, 111, 114, 116])]))
def laid_concord_api_ErrVarint {H : Type} : DataW H := .iface "*errors.errorString" (.ptr (.agg [.lit (.string [99, 111, 110, 99, 111, 114, 100, 58, 32, 118, 97, 114, 105, 110, 116])]))
def laid_concord_api_ErrLimit {H : Type} : DataW H := .iface "*errors.errorString" (.ptr (.agg [.lit (.string [99, 111, 110, 99, 111, 114, 100, 58, 32, 108, 105, 109, 105, 116])]))
def laid_concord_api_ErrOrder {H : Type} : DataW H := .iface "*errors.errorString" (.ptr (.agg [.lit (.string [99, 111, 110, 99, 111, 114, 100, 58, 32, 111, 114, 100, 101, 114])]))
def laid_concord_api_ErrRange {H : Type} : DataW H := .iface "*errors.errorString" (.ptr (.agg [.lit (.string [99, 111, 110, 99, 111, 114, 100, 58, 32, 114, 97, 110, 103, 101])]))
def laid_concord_api_ErrTail {H : Type} : DataW H := .iface "*errors.errorString" (.ptr (.agg [.lit (.string [99, 111, 110, 99, 111, 114, 100, 58, 32, 116, 97, 105, 108])]))
def laid_concord_api_ErrTag {H : Type} : DataW H := .iface "*errors.errorString" (.ptr (.agg [.lit (.string [99, 111, 110, 99, 111, 114, 100, 58, 32, 116, 97, 103])]))
def laid_concord_api_ErrSum {H : Type} : DataW H := .iface "*errors.errorString" (.ptr (.agg [.lit (.string [99, 111, 110, 99, 111, 114, 100, 58, 32, 115, 117, 109])]))
def laid_concord_api_ErrSize {H : Type} : DataW H := .iface "*errors.errorString" (.ptr (.agg [.lit (.string [99, 111, 110, 99, 111, 114, 100, 58, 32, 115, 105, 122, 101])]))
def laid_concord_api_ErrCorrupt {H : Type} : DataW H := .iface "*errors.errorString" (.ptr (.agg [.lit (.string [99, 111, 110, 99, 111, 114, 100, 58, 32, 99, 111, 114, 114, 117, 112, 116])]))
def laid_concord_api_ErrSchema {H : Type} : DataW H := .iface "*errors.errorString" (.ptr (.agg [.lit (.string [99, 111, 110, 99, 111, 114, 100, 58, 32, 115, 99, 104, 101, 109, 97])]))
def laid_concord_api_ErrField {H : Type} : DataW H := .iface "*errors.errorString" (.ptr (.agg [.lit (.string [99, 111, 110, 99, 111, 114, 100, 58, 32, 102, 105, 101, 108, 100])]))
def laid_concord_api_ErrValue {H : Type} : DataW H := .iface "*errors.errorString" (.ptr (.agg [.lit (.string [99, 111, 110, 99, 111, 114, 100, 58, 32, 118, 97, 108, 117, 101])]))
def laid_concord_api_ErrPattern {H : Type} : DataW H := .iface "*errors.errorString" (.ptr (.agg [.lit (.string [99, 111, 110, 99, 111, 114, 100, 58, 32, 112, 97, 116, 116, 101, 114, 110])]))
def laid_concord_api_ErrStates {H : Type} : DataW H := .iface "*errors.errorString" (.ptr (.agg [.lit (.string [99, 111, 110, 99, 111, 114, 100, 58, 32, 115, 116, 97, 116, 101, 115])]))
def laid_concord_api_ErrSyntax {H : Type} : DataW H := .iface "*errors.errorString" (.ptr (.agg [.lit (.string [99, 111, 110, 99, 111, 114, 100, 58, 32, 115, 121, 110, 116, 97, 120])]))
def laid_concord_api_ErrDeep {H : Type} : DataW H := .iface "*errors.errorString" (.ptr (.agg [.lit (.string [99, 111, 110, 99, 111, 114, 100, 58, 32, 116, 111, 111, 32, 100, 101, 101, 112])]))
def laid_concord_api_ErrNode {H : Type} : DataW H := .iface "*errors.errorString" (.ptr (.agg [.lit (.string [99, 111, 110, 99, 111, 114, 100, 58, 32, 110, 111, 100, 101])]))
def laid_concord_api_ErrTerms {H : Type} : DataW H := .iface "*errors.errorString" (.ptr (.agg [.lit (.string [99, 111, 110, 99, 111, 114, 100, 58, 32, 116, 111, 111, 32, 109, 97, 110, 121, 32, 116, 101, 114, 109, 115])]))
def laid_concord_api_ErrScore {H : Type} : DataW H := .iface "*errors.errorString" (.ptr (.agg [.lit (.string [99, 111, 110, 99, 111, 114, 100, 58, 32, 115, 99, 111, 114, 101, 32, 111, 118, 101, 114, 102, 108, 111, 119])]))
def laid_concord_api_ErrCode {H : Type} : DataW H := .iface "*errors.errorString" (.ptr (.agg [.lit (.string [99, 111, 110, 99, 111, 114, 100, 58, 32, 99, 111, 100, 101])]))
def laid_concord_api_ErrFuel {H : Type} : DataW H := .iface "*errors.errorString" (.ptr (.agg [.lit (.string [99, 111, 110, 99, 111, 114, 100, 58, 32, 102, 117, 101, 108])]))
def laid_concord_api_ErrDoc {H : Type} : DataW H := .iface "*errors.errorString" (.ptr (.agg [.lit (.string [99, 111, 110, 99, 111, 114, 100, 58, 32, 100, 111, 99, 117, 109, 101, 110, 116])]))
def laid_concord_api_ErrCommand {H : Type} : DataW H := .iface "*errors.errorString" (.ptr (.agg [.lit (.string [99, 111, 110, 99, 111, 114, 100, 58, 32, 99, 111, 109, 109, 97, 110, 100])]))

/-- 'concordlaw01.CodecSizes': WHATEVER THE INPUT: true; the input reads as it did. -/
def codecSizesSpec : ChangeSpec := { name := "codecSizes", fn := fun _ => fun
  | [d1, d2, d3, d4] => { results := [.lit (.bool true)], args := [d1, d2, d3, d4] }
  | _ => none }
def codecSizesRow : OpenClaim := { program := "ytmmflhippbegaaadoor", sum := "7bfab3adadf7a98e82b577e9ef9826724948c4e8eeed707dba5a139819306fb8", func := "concord/concordlaw01.CodecSizes", spec := "codecSizes", named := ["concord/api.ErrShort", "concord/api.ErrVarint", "concord/api.ErrRange", "concord/api.ErrLimit", "concord/api.ErrOrder"], apart := false, laid := [("concord/api.ErrShort", laid_concord_api_ErrShort), ("concord/api.ErrVarint", laid_concord_api_ErrVarint), ("concord/api.ErrLimit", laid_concord_api_ErrLimit), ("concord/api.ErrOrder", laid_concord_api_ErrOrder), ("concord/api.ErrRange", laid_concord_api_ErrRange)] }
def CodecSizesSaid : Prop := codecSizesRow.holds Tryd.pinned (OpenSpec.ofChange codecSizesSpec)

/-- ITS FALSE NEIGHBOUR: 'it returns false'. Refute it at one input. -/
def codecSizesWrong : ChangeSpec := { name := "codecSizes", fn := fun _ => fun
  | [d1, d2, d3, d4] => { results := [.lit (.bool false)], args := [d1, d2, d3, d4] }
  | _ => none }
def CodecSizesWrongFalsely : Prop := codecSizesRow.holds Tryd.pinned (OpenSpec.ofChange codecSizesWrong)

/-- 'concordlaw01.CodecWrites': WHATEVER THE INPUT: true; the input reads as it did. -/
def codecWritesSpec : ChangeSpec := { name := "codecWrites", fn := fun _ => fun
  | [d] => { results := [.lit (.bool true)], args := [d] }
  | _ => none }
def codecWritesRow : OpenClaim := { program := "ytmmflhippbegaaadoor", sum := "7bfab3adadf7a98e82b577e9ef9826724948c4e8eeed707dba5a139819306fb8", func := "concord/concordlaw01.CodecWrites", spec := "codecWrites", named := ["concord/api.ErrShort", "concord/api.ErrVarint", "concord/api.ErrRange", "concord/api.ErrOrder", "concord/api.ErrLimit", "concord/api.ErrTail", "concord/api.ErrTag", "concord/api.ErrSum", "concord/api.ErrSize", "concord/api.ErrCorrupt", "concord/api.ErrSchema", "concord/api.ErrField", "concord/api.ErrValue", "concord/api.ErrPattern", "concord/api.ErrStates", "concord/api.ErrSyntax", "concord/api.ErrDeep", "concord/api.ErrNode", "concord/api.ErrTerms", "concord/api.ErrScore", "concord/api.ErrCode", "concord/api.ErrFuel", "concord/api.ErrDoc", "concord/api.ErrCommand"], apart := false, laid := [("concord/api.ErrShort", laid_concord_api_ErrShort), ("concord/api.ErrVarint", laid_concord_api_ErrVarint), ("concord/api.ErrLimit", laid_concord_api_ErrLimit), ("concord/api.ErrOrder", laid_concord_api_ErrOrder), ("concord/api.ErrTail", laid_concord_api_ErrTail), ("concord/api.ErrTag", laid_concord_api_ErrTag), ("concord/api.ErrSum", laid_concord_api_ErrSum), ("concord/api.ErrRange", laid_concord_api_ErrRange), ("concord/api.ErrSize", laid_concord_api_ErrSize), ("concord/api.ErrCorrupt", laid_concord_api_ErrCorrupt), ("concord/api.ErrSchema", laid_concord_api_ErrSchema), ("concord/api.ErrField", laid_concord_api_ErrField), ("concord/api.ErrValue", laid_concord_api_ErrValue), ("concord/api.ErrPattern", laid_concord_api_ErrPattern), ("concord/api.ErrStates", laid_concord_api_ErrStates), ("concord/api.ErrSyntax", laid_concord_api_ErrSyntax), ("concord/api.ErrDeep", laid_concord_api_ErrDeep), ("concord/api.ErrNode", laid_concord_api_ErrNode), ("concord/api.ErrTerms", laid_concord_api_ErrTerms), ("concord/api.ErrScore", laid_concord_api_ErrScore), ("concord/api.ErrCode", laid_concord_api_ErrCode), ("concord/api.ErrFuel", laid_concord_api_ErrFuel), ("concord/api.ErrDoc", laid_concord_api_ErrDoc), ("concord/api.ErrCommand", laid_concord_api_ErrCommand)] }
def CodecWritesSaid : Prop := codecWritesRow.holds Tryd.pinned (OpenSpec.ofChange codecWritesSpec)

/-- ITS FALSE NEIGHBOUR: 'it returns false'. Refute it at one input. -/
def codecWritesWrong : ChangeSpec := { name := "codecWrites", fn := fun _ => fun
  | [d] => { results := [.lit (.bool false)], args := [d] }
  | _ => none }
def CodecWritesWrongFalsely : Prop := codecWritesRow.holds Tryd.pinned (OpenSpec.ofChange codecWritesWrong)

/-- 'concordlaw01.CodecReads': WHATEVER THE INPUT: true; the input reads as it did. -/
def codecReadsSpec : ChangeSpec := { name := "codecReads", fn := fun _ => fun
  | [d1, d2, d3] => { results := [.lit (.bool true)], args := [d1, d2, d3] }
  | _ => none }
def codecReadsRow : OpenClaim := { program := "ytmmflhippbegaaadoor", sum := "7bfab3adadf7a98e82b577e9ef9826724948c4e8eeed707dba5a139819306fb8", func := "concord/concordlaw01.CodecReads", spec := "codecReads", named := ["concord/api.ErrShort", "concord/api.ErrVarint", "concord/api.ErrRange", "concord/api.ErrTail", "concord/api.ErrLimit", "concord/api.ErrOrder", "concord/api.ErrTag", "concord/api.ErrSum", "concord/api.ErrSize", "concord/api.ErrCorrupt", "concord/api.ErrSchema", "concord/api.ErrField", "concord/api.ErrValue", "concord/api.ErrPattern", "concord/api.ErrStates", "concord/api.ErrSyntax", "concord/api.ErrDeep", "concord/api.ErrNode", "concord/api.ErrTerms", "concord/api.ErrScore", "concord/api.ErrCode", "concord/api.ErrFuel", "concord/api.ErrDoc", "concord/api.ErrCommand"], apart := false, laid := [("concord/api.ErrShort", laid_concord_api_ErrShort), ("concord/api.ErrVarint", laid_concord_api_ErrVarint), ("concord/api.ErrLimit", laid_concord_api_ErrLimit), ("concord/api.ErrOrder", laid_concord_api_ErrOrder), ("concord/api.ErrTail", laid_concord_api_ErrTail), ("concord/api.ErrTag", laid_concord_api_ErrTag), ("concord/api.ErrSum", laid_concord_api_ErrSum), ("concord/api.ErrRange", laid_concord_api_ErrRange), ("concord/api.ErrSize", laid_concord_api_ErrSize), ("concord/api.ErrCorrupt", laid_concord_api_ErrCorrupt), ("concord/api.ErrSchema", laid_concord_api_ErrSchema), ("concord/api.ErrField", laid_concord_api_ErrField), ("concord/api.ErrValue", laid_concord_api_ErrValue), ("concord/api.ErrPattern", laid_concord_api_ErrPattern), ("concord/api.ErrStates", laid_concord_api_ErrStates), ("concord/api.ErrSyntax", laid_concord_api_ErrSyntax), ("concord/api.ErrDeep", laid_concord_api_ErrDeep), ("concord/api.ErrNode", laid_concord_api_ErrNode), ("concord/api.ErrTerms", laid_concord_api_ErrTerms), ("concord/api.ErrScore", laid_concord_api_ErrScore), ("concord/api.ErrCode", laid_concord_api_ErrCode), ("concord/api.ErrFuel", laid_concord_api_ErrFuel), ("concord/api.ErrDoc", laid_concord_api_ErrDoc), ("concord/api.ErrCommand", laid_concord_api_ErrCommand)] }
def CodecReadsSaid : Prop := codecReadsRow.holds Tryd.pinned (OpenSpec.ofChange codecReadsSpec)

/-- ITS FALSE NEIGHBOUR: 'it returns false'. Refute it at one input. -/
def codecReadsWrong : ChangeSpec := { name := "codecReads", fn := fun _ => fun
  | [d1, d2, d3] => { results := [.lit (.bool false)], args := [d1, d2, d3] }
  | _ => none }
def CodecReadsWrongFalsely : Prop := codecReadsRow.holds Tryd.pinned (OpenSpec.ofChange codecReadsWrong)

/-- 'concordlaw01.CodecTwice': WHATEVER THE INPUT: true; the input reads as it did. -/
def codecTwiceSpec : ChangeSpec := { name := "codecTwice", fn := fun _ => fun
  | [d1, d2] => { results := [.lit (.bool true)], args := [d1, d2] }
  | _ => none }
def codecTwiceRow : OpenClaim := { program := "ytmmflhippbegaaadoor", sum := "7bfab3adadf7a98e82b577e9ef9826724948c4e8eeed707dba5a139819306fb8", func := "concord/concordlaw01.CodecTwice", spec := "codecTwice", named := ["concord/api.ErrShort", "concord/api.ErrVarint", "concord/api.ErrRange", "concord/api.ErrOrder", "concord/api.ErrLimit"], apart := false, laid := [("concord/api.ErrShort", laid_concord_api_ErrShort), ("concord/api.ErrVarint", laid_concord_api_ErrVarint), ("concord/api.ErrLimit", laid_concord_api_ErrLimit), ("concord/api.ErrOrder", laid_concord_api_ErrOrder), ("concord/api.ErrRange", laid_concord_api_ErrRange)] }
def CodecTwiceSaid : Prop := codecTwiceRow.holds Tryd.pinned (OpenSpec.ofChange codecTwiceSpec)

/-- ITS FALSE NEIGHBOUR: 'it returns false'. Refute it at one input. -/
def codecTwiceWrong : ChangeSpec := { name := "codecTwice", fn := fun _ => fun
  | [d1, d2] => { results := [.lit (.bool false)], args := [d1, d2] }
  | _ => none }
def CodecTwiceWrongFalsely : Prop := codecTwiceRow.holds Tryd.pinned (OpenSpec.ofChange codecTwiceWrong)

/-- 'concordlaw01.CodecOneForm': WHATEVER THE INPUT: true; the input reads as it did. -/
def codecOneFormSpec : ChangeSpec := { name := "codecOneForm", fn := fun _ => fun
  | [d1, d2] => { results := [.lit (.bool true)], args := [d1, d2] }
  | _ => none }
def codecOneFormRow : OpenClaim := { program := "ytmmflhippbegaaadoor", sum := "7bfab3adadf7a98e82b577e9ef9826724948c4e8eeed707dba5a139819306fb8", func := "concord/concordlaw01.CodecOneForm", spec := "codecOneForm", named := ["concord/api.ErrShort", "concord/api.ErrVarint", "concord/api.ErrLimit", "concord/api.ErrRange", "concord/api.ErrOrder"], apart := false, laid := [("concord/api.ErrShort", laid_concord_api_ErrShort), ("concord/api.ErrVarint", laid_concord_api_ErrVarint), ("concord/api.ErrLimit", laid_concord_api_ErrLimit), ("concord/api.ErrOrder", laid_concord_api_ErrOrder), ("concord/api.ErrRange", laid_concord_api_ErrRange)] }
def CodecOneFormSaid : Prop := codecOneFormRow.holds Tryd.pinned (OpenSpec.ofChange codecOneFormSpec)

/-- ITS FALSE NEIGHBOUR: 'it returns false'. Refute it at one input. -/
def codecOneFormWrong : ChangeSpec := { name := "codecOneForm", fn := fun _ => fun
  | [d1, d2] => { results := [.lit (.bool false)], args := [d1, d2] }
  | _ => none }
def CodecOneFormWrongFalsely : Prop := codecOneFormRow.holds Tryd.pinned (OpenSpec.ofChange codecOneFormWrong)

/-- 'concordlaw01.CodecPrefix': WHATEVER THE INPUT: true; the input reads as it did. -/
def codecPrefixSpec : ChangeSpec := { name := "codecPrefix", fn := fun _ => fun
  | [d1, d2, d3] => { results := [.lit (.bool true)], args := [d1, d2, d3] }
  | _ => none }
def codecPrefixRow : OpenClaim := { program := "ytmmflhippbegaaadoor", sum := "7bfab3adadf7a98e82b577e9ef9826724948c4e8eeed707dba5a139819306fb8", func := "concord/concordlaw01.CodecPrefix", spec := "codecPrefix", named := ["concord/api.ErrShort", "concord/api.ErrVarint", "concord/api.ErrRange", "concord/api.ErrOrder", "concord/api.ErrLimit"], apart := false, laid := [("concord/api.ErrShort", laid_concord_api_ErrShort), ("concord/api.ErrVarint", laid_concord_api_ErrVarint), ("concord/api.ErrLimit", laid_concord_api_ErrLimit), ("concord/api.ErrOrder", laid_concord_api_ErrOrder), ("concord/api.ErrRange", laid_concord_api_ErrRange)] }
def CodecPrefixSaid : Prop := codecPrefixRow.holds Tryd.pinned (OpenSpec.ofChange codecPrefixSpec)

/-- ITS FALSE NEIGHBOUR: 'it returns false'. Refute it at one input. -/
def codecPrefixWrong : ChangeSpec := { name := "codecPrefix", fn := fun _ => fun
  | [d1, d2, d3] => { results := [.lit (.bool false)], args := [d1, d2, d3] }
  | _ => none }
def CodecPrefixWrongFalsely : Prop := codecPrefixRow.holds Tryd.pinned (OpenSpec.ofChange codecPrefixWrong)

/-- 'concordlaw01.CodecBack': WHATEVER THE INPUT: true; the input reads as it did. -/
def codecBackSpec : ChangeSpec := { name := "codecBack", fn := fun _ => fun
  | [d] => { results := [.lit (.bool true)], args := [d] }
  | _ => none }
def codecBackRow : OpenClaim := { program := "ytmmflhippbegaaadoor", sum := "7bfab3adadf7a98e82b577e9ef9826724948c4e8eeed707dba5a139819306fb8", func := "concord/concordlaw01.CodecBack", spec := "codecBack", named := ["concord/api.ErrShort", "concord/api.ErrVarint", "concord/api.ErrRange", "concord/api.ErrOrder", "concord/api.ErrLimit", "concord/api.ErrTail"], apart := false, laid := [("concord/api.ErrShort", laid_concord_api_ErrShort), ("concord/api.ErrVarint", laid_concord_api_ErrVarint), ("concord/api.ErrLimit", laid_concord_api_ErrLimit), ("concord/api.ErrOrder", laid_concord_api_ErrOrder), ("concord/api.ErrTail", laid_concord_api_ErrTail), ("concord/api.ErrRange", laid_concord_api_ErrRange)] }
def CodecBackSaid : Prop := codecBackRow.holds Tryd.pinned (OpenSpec.ofChange codecBackSpec)

/-- ITS FALSE NEIGHBOUR: 'it returns false'. Refute it at one input. -/
def codecBackWrong : ChangeSpec := { name := "codecBack", fn := fun _ => fun
  | [d] => { results := [.lit (.bool false)], args := [d] }
  | _ => none }
def CodecBackWrongFalsely : Prop := codecBackRow.holds Tryd.pinned (OpenSpec.ofChange codecBackWrong)

/- THE SECOND FORM. 'bulk': how many values and letters a reading holds, each counted each time it is reached (what is shared counts as often as it is met; a slice's spare places count too). A statement '..UptoSaid' is the law's where the arguments, and the package variables that the reading takes, are together of bulk at most 1048576: NARROWER than '..Said'. Prove '..Said' where nothing that the law and all that it calls make is longer than what came in: it says more and counts as full. Else prove '..UptoSaid'. A law counts once. -/
mutual
def uptoBulk {H : Type} : DataW H → Nat
  | .lit (.string bytes) => bytes.length + 1
  | .lit _ => 1
  | .nil => 1
  | .ptr d => uptoBulk d + 1
  | .slice elems spare => uptoBulkAll elems + uptoBulkAll spare + 1
  | .agg parts => uptoBulkAll parts + 1
  | .iface _ d => uptoBulk d + 1
  | .map entries => uptoBulkEntries entries + 1
  | .held _ => 1
def uptoBulkAll {H : Type} : List (DataW H) → Nat
  | [] => 0
  | d :: r => uptoBulk d + uptoBulkAll r
def uptoBulkEntries {H : Type} : List (Lit × DataW H) → Nat
  | [] => 0
  | x :: r => uptoBulkEntry x + uptoBulkEntries r
def uptoBulkEntry {H : Type} : Lit × DataW H → Nat
  | (.string bytes, d) => bytes.length + uptoBulk d + 1
  | (_, d) => uptoBulk d + 1
 end
def uptoSmall : (H : Type) → List (DataW H) → Bool := fun _ ds => decide (uptoBulkAll ds ≤ 1048576)
def OpenSpec.upto (s : _root_.Go.ChangeSpec) : _root_.Go.OpenSpec := { _root_.Go.OpenSpec.ofChange s with cond := some uptoSmall }

/-- 'concordlaw01.CodecSizes', WHERE WHAT IT READS IS OF BULK AT MOST 1048576: true; the input reads as it did. -/
def codecSizesUptoRow : OpenClaim := { program := "ytmmflhippbegaaadoor", sum := "7bfab3adadf7a98e82b577e9ef9826724948c4e8eeed707dba5a139819306fb8", func := "concord/concordlaw01.CodecSizes", spec := "codecSizes", named := ["concord/api.ErrShort", "concord/api.ErrVarint", "concord/api.ErrRange", "concord/api.ErrLimit", "concord/api.ErrOrder"], apart := false, laid := [("concord/api.ErrShort", laid_concord_api_ErrShort), ("concord/api.ErrVarint", laid_concord_api_ErrVarint), ("concord/api.ErrLimit", laid_concord_api_ErrLimit), ("concord/api.ErrOrder", laid_concord_api_ErrOrder), ("concord/api.ErrRange", laid_concord_api_ErrRange)], narrowed := true }
def CodecSizesUptoSaid : Prop := codecSizesUptoRow.holds Tryd.pinned (OpenSpec.upto codecSizesSpec)

/-- 'concordlaw01.CodecWrites', WHERE WHAT IT READS IS OF BULK AT MOST 1048576: true; the input reads as it did. -/
def codecWritesUptoRow : OpenClaim := { program := "ytmmflhippbegaaadoor", sum := "7bfab3adadf7a98e82b577e9ef9826724948c4e8eeed707dba5a139819306fb8", func := "concord/concordlaw01.CodecWrites", spec := "codecWrites", named := ["concord/api.ErrShort", "concord/api.ErrVarint", "concord/api.ErrRange", "concord/api.ErrOrder", "concord/api.ErrLimit", "concord/api.ErrTail", "concord/api.ErrTag", "concord/api.ErrSum", "concord/api.ErrSize", "concord/api.ErrCorrupt", "concord/api.ErrSchema", "concord/api.ErrField", "concord/api.ErrValue", "concord/api.ErrPattern", "concord/api.ErrStates", "concord/api.ErrSyntax", "concord/api.ErrDeep", "concord/api.ErrNode", "concord/api.ErrTerms", "concord/api.ErrScore", "concord/api.ErrCode", "concord/api.ErrFuel", "concord/api.ErrDoc", "concord/api.ErrCommand"], apart := false, laid := [("concord/api.ErrShort", laid_concord_api_ErrShort), ("concord/api.ErrVarint", laid_concord_api_ErrVarint), ("concord/api.ErrLimit", laid_concord_api_ErrLimit), ("concord/api.ErrOrder", laid_concord_api_ErrOrder), ("concord/api.ErrTail", laid_concord_api_ErrTail), ("concord/api.ErrTag", laid_concord_api_ErrTag), ("concord/api.ErrSum", laid_concord_api_ErrSum), ("concord/api.ErrRange", laid_concord_api_ErrRange), ("concord/api.ErrSize", laid_concord_api_ErrSize), ("concord/api.ErrCorrupt", laid_concord_api_ErrCorrupt), ("concord/api.ErrSchema", laid_concord_api_ErrSchema), ("concord/api.ErrField", laid_concord_api_ErrField), ("concord/api.ErrValue", laid_concord_api_ErrValue), ("concord/api.ErrPattern", laid_concord_api_ErrPattern), ("concord/api.ErrStates", laid_concord_api_ErrStates), ("concord/api.ErrSyntax", laid_concord_api_ErrSyntax), ("concord/api.ErrDeep", laid_concord_api_ErrDeep), ("concord/api.ErrNode", laid_concord_api_ErrNode), ("concord/api.ErrTerms", laid_concord_api_ErrTerms), ("concord/api.ErrScore", laid_concord_api_ErrScore), ("concord/api.ErrCode", laid_concord_api_ErrCode), ("concord/api.ErrFuel", laid_concord_api_ErrFuel), ("concord/api.ErrDoc", laid_concord_api_ErrDoc), ("concord/api.ErrCommand", laid_concord_api_ErrCommand)], narrowed := true }
def CodecWritesUptoSaid : Prop := codecWritesUptoRow.holds Tryd.pinned (OpenSpec.upto codecWritesSpec)

/-- 'concordlaw01.CodecReads', WHERE WHAT IT READS IS OF BULK AT MOST 1048576: true; the input reads as it did. -/
def codecReadsUptoRow : OpenClaim := { program := "ytmmflhippbegaaadoor", sum := "7bfab3adadf7a98e82b577e9ef9826724948c4e8eeed707dba5a139819306fb8", func := "concord/concordlaw01.CodecReads", spec := "codecReads", named := ["concord/api.ErrShort", "concord/api.ErrVarint", "concord/api.ErrRange", "concord/api.ErrTail", "concord/api.ErrLimit", "concord/api.ErrOrder", "concord/api.ErrTag", "concord/api.ErrSum", "concord/api.ErrSize", "concord/api.ErrCorrupt", "concord/api.ErrSchema", "concord/api.ErrField", "concord/api.ErrValue", "concord/api.ErrPattern", "concord/api.ErrStates", "concord/api.ErrSyntax", "concord/api.ErrDeep", "concord/api.ErrNode", "concord/api.ErrTerms", "concord/api.ErrScore", "concord/api.ErrCode", "concord/api.ErrFuel", "concord/api.ErrDoc", "concord/api.ErrCommand"], apart := false, laid := [("concord/api.ErrShort", laid_concord_api_ErrShort), ("concord/api.ErrVarint", laid_concord_api_ErrVarint), ("concord/api.ErrLimit", laid_concord_api_ErrLimit), ("concord/api.ErrOrder", laid_concord_api_ErrOrder), ("concord/api.ErrTail", laid_concord_api_ErrTail), ("concord/api.ErrTag", laid_concord_api_ErrTag), ("concord/api.ErrSum", laid_concord_api_ErrSum), ("concord/api.ErrRange", laid_concord_api_ErrRange), ("concord/api.ErrSize", laid_concord_api_ErrSize), ("concord/api.ErrCorrupt", laid_concord_api_ErrCorrupt), ("concord/api.ErrSchema", laid_concord_api_ErrSchema), ("concord/api.ErrField", laid_concord_api_ErrField), ("concord/api.ErrValue", laid_concord_api_ErrValue), ("concord/api.ErrPattern", laid_concord_api_ErrPattern), ("concord/api.ErrStates", laid_concord_api_ErrStates), ("concord/api.ErrSyntax", laid_concord_api_ErrSyntax), ("concord/api.ErrDeep", laid_concord_api_ErrDeep), ("concord/api.ErrNode", laid_concord_api_ErrNode), ("concord/api.ErrTerms", laid_concord_api_ErrTerms), ("concord/api.ErrScore", laid_concord_api_ErrScore), ("concord/api.ErrCode", laid_concord_api_ErrCode), ("concord/api.ErrFuel", laid_concord_api_ErrFuel), ("concord/api.ErrDoc", laid_concord_api_ErrDoc), ("concord/api.ErrCommand", laid_concord_api_ErrCommand)], narrowed := true }
def CodecReadsUptoSaid : Prop := codecReadsUptoRow.holds Tryd.pinned (OpenSpec.upto codecReadsSpec)

/-- 'concordlaw01.CodecTwice', WHERE WHAT IT READS IS OF BULK AT MOST 1048576: true; the input reads as it did. -/
def codecTwiceUptoRow : OpenClaim := { program := "ytmmflhippbegaaadoor", sum := "7bfab3adadf7a98e82b577e9ef9826724948c4e8eeed707dba5a139819306fb8", func := "concord/concordlaw01.CodecTwice", spec := "codecTwice", named := ["concord/api.ErrShort", "concord/api.ErrVarint", "concord/api.ErrRange", "concord/api.ErrOrder", "concord/api.ErrLimit"], apart := false, laid := [("concord/api.ErrShort", laid_concord_api_ErrShort), ("concord/api.ErrVarint", laid_concord_api_ErrVarint), ("concord/api.ErrLimit", laid_concord_api_ErrLimit), ("concord/api.ErrOrder", laid_concord_api_ErrOrder), ("concord/api.ErrRange", laid_concord_api_ErrRange)], narrowed := true }
def CodecTwiceUptoSaid : Prop := codecTwiceUptoRow.holds Tryd.pinned (OpenSpec.upto codecTwiceSpec)

/-- 'concordlaw01.CodecOneForm', WHERE WHAT IT READS IS OF BULK AT MOST 1048576: true; the input reads as it did. -/
def codecOneFormUptoRow : OpenClaim := { program := "ytmmflhippbegaaadoor", sum := "7bfab3adadf7a98e82b577e9ef9826724948c4e8eeed707dba5a139819306fb8", func := "concord/concordlaw01.CodecOneForm", spec := "codecOneForm", named := ["concord/api.ErrShort", "concord/api.ErrVarint", "concord/api.ErrLimit", "concord/api.ErrRange", "concord/api.ErrOrder"], apart := false, laid := [("concord/api.ErrShort", laid_concord_api_ErrShort), ("concord/api.ErrVarint", laid_concord_api_ErrVarint), ("concord/api.ErrLimit", laid_concord_api_ErrLimit), ("concord/api.ErrOrder", laid_concord_api_ErrOrder), ("concord/api.ErrRange", laid_concord_api_ErrRange)], narrowed := true }
def CodecOneFormUptoSaid : Prop := codecOneFormUptoRow.holds Tryd.pinned (OpenSpec.upto codecOneFormSpec)

/-- 'concordlaw01.CodecPrefix', WHERE WHAT IT READS IS OF BULK AT MOST 1048576: true; the input reads as it did. -/
def codecPrefixUptoRow : OpenClaim := { program := "ytmmflhippbegaaadoor", sum := "7bfab3adadf7a98e82b577e9ef9826724948c4e8eeed707dba5a139819306fb8", func := "concord/concordlaw01.CodecPrefix", spec := "codecPrefix", named := ["concord/api.ErrShort", "concord/api.ErrVarint", "concord/api.ErrRange", "concord/api.ErrOrder", "concord/api.ErrLimit"], apart := false, laid := [("concord/api.ErrShort", laid_concord_api_ErrShort), ("concord/api.ErrVarint", laid_concord_api_ErrVarint), ("concord/api.ErrLimit", laid_concord_api_ErrLimit), ("concord/api.ErrOrder", laid_concord_api_ErrOrder), ("concord/api.ErrRange", laid_concord_api_ErrRange)], narrowed := true }
def CodecPrefixUptoSaid : Prop := codecPrefixUptoRow.holds Tryd.pinned (OpenSpec.upto codecPrefixSpec)

/-- 'concordlaw01.CodecBack', WHERE WHAT IT READS IS OF BULK AT MOST 1048576: true; the input reads as it did. -/
def codecBackUptoRow : OpenClaim := { program := "ytmmflhippbegaaadoor", sum := "7bfab3adadf7a98e82b577e9ef9826724948c4e8eeed707dba5a139819306fb8", func := "concord/concordlaw01.CodecBack", spec := "codecBack", named := ["concord/api.ErrShort", "concord/api.ErrVarint", "concord/api.ErrRange", "concord/api.ErrOrder", "concord/api.ErrLimit", "concord/api.ErrTail"], apart := false, laid := [("concord/api.ErrShort", laid_concord_api_ErrShort), ("concord/api.ErrVarint", laid_concord_api_ErrVarint), ("concord/api.ErrLimit", laid_concord_api_ErrLimit), ("concord/api.ErrOrder", laid_concord_api_ErrOrder), ("concord/api.ErrTail", laid_concord_api_ErrTail), ("concord/api.ErrRange", laid_concord_api_ErrRange)], narrowed := true }
def CodecBackUptoSaid : Prop := codecBackUptoRow.holds Tryd.pinned (OpenSpec.upto codecBackSpec)

end Rows
end Go.Proofs.YtmmflhippbegaaaDoor
