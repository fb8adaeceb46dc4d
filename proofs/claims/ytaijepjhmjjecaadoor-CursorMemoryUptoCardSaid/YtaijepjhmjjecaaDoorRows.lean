/-
  NARROWER THAN 'FOR EVERY INPUT', by the rows' own cells (each row's printed sentence says how): CursorPhrase: laid · CursorPhraseRules: laid · CursorOpens: laid · CursorMemory: laid · CursorPlays: laid · CursorScan: laid.
  DERIVED. THE GIVEN ROWS OF THIS SEAT. 6 by the template 'for every input the law returns true; each argument reads behind the call as it read before'; 0 by the template 'total and deterministic' (their statements: YtaijepjhmjjecaaDoorTotals.lean).
  GIVEN WITH THE SEED: the statements are not yours to turn. If you find one false, say at which input.
  Laid BY PROGRAM, IN A SANDBOX (cutbox-rows.mjs): the forced cells as the released guide's own fill.sh prints them over the translation 67198fa651bb9400… (all of the seat's roots in one cut). By AI agents, Wed Nov 11 2026. No macro, syntax, notation, axiom, sorry.
-/
import Derived.Test.YtaijepjhmjjecaaDoorChecked
import GoSem.Claim
import GoSem.ClaimJoined
import GoSem.ClaimMapViews
import Derived.JoinedTies
import Derived.KernelRfl
namespace Go.Proofs.YtaijepjhmjjecaaDoor
/- THE CELL 'sum', in the pinned program and in every row, IS THE sha256 OF THE DUMP (.gsa) THAT YtaijepjhmjjecaaDoorProg.lean LOADS. Nothing in Lean hashes anything: it is a label: what it is worth is what the hold of that sum in a sandbox is worth. -/
noncomputable def Tryd.pinned : Pinned := { name := "ytaijepjhmjjecaadoor", sum := "67198fa651bb9400b8a00b5b55e05c911e13c8adc95072a3dd9ba9e41bc4d3cd", checked := Tryd.checked }
namespace Rows
def none {H : Type} : Left H := { results := [], args := [] }

/- WHAT THE LISTED PACKAGE-LEVEL VARIABLES READ AS WHEN THE CALL BEGINS. Each datum BY PROGRAM (the guide's laid-datum.mjs) off the statement by which the dump's own 'gosem.cut.vars' lays the variable. In a bare row this is a premise. The card (YtaijepjhmjjecaaDoorCards.lean) ties it to the program's text. -/
def laid_concord_api_ErrShort {H : Type} : DataW H := .iface "*errors.errorString" (.ptr (.agg [.lit (.string [99, 111, 110, 99, 111, 114, 100, 58, 32, 116, 111, 111, 32, 115, 104, 111, 114, 116])]))
def laid_concord_api_ErrVarint {H : Type} : DataW H := .iface "*errors.errorString" (.ptr (.agg [.lit (.string [99, 111, 110, 99, 111, 114, 100, 58, 32, 118, 97, 114, 105, 110, 116])]))
def laid_concord_api_ErrLimit {H : Type} : DataW H := .iface "*errors.errorString" (.ptr (.agg [.lit (.string [99, 111, 110, 99, 111, 114, 100, 58, 32, 108, 105, 109, 105, 116])]))
def laid_concord_api_ErrOrder {H : Type} : DataW H := .iface "*errors.errorString" (.ptr (.agg [.lit (.string [99, 111, 110, 99, 111, 114, 100, 58, 32, 111, 114, 100, 101, 114])]))
def laid_concord_api_ErrTail {H : Type} : DataW H := .iface "*errors.errorString" (.ptr (.agg [.lit (.string [99, 111, 110, 99, 111, 114, 100, 58, 32, 116, 97, 105, 108])]))
def laid_concord_api_ErrCorrupt {H : Type} : DataW H := .iface "*errors.errorString" (.ptr (.agg [.lit (.string [99, 111, 110, 99, 111, 114, 100, 58, 32, 99, 111, 114, 114, 117, 112, 116])]))
def laid_concord_api_ErrTag {H : Type} : DataW H := .iface "*errors.errorString" (.ptr (.agg [.lit (.string [99, 111, 110, 99, 111, 114, 100, 58, 32, 116, 97, 103])]))
def laid_concord_api_ErrSum {H : Type} : DataW H := .iface "*errors.errorString" (.ptr (.agg [.lit (.string [99, 111, 110, 99, 111, 114, 100, 58, 32, 115, 117, 109])]))
def laid_concord_api_ErrRange {H : Type} : DataW H := .iface "*errors.errorString" (.ptr (.agg [.lit (.string [99, 111, 110, 99, 111, 114, 100, 58, 32, 114, 97, 110, 103, 101])]))
def laid_concord_api_ErrSize {H : Type} : DataW H := .iface "*errors.errorString" (.ptr (.agg [.lit (.string [99, 111, 110, 99, 111, 114, 100, 58, 32, 115, 105, 122, 101])]))
def laid_concord_api_ErrSchema {H : Type} : DataW H := .iface "*errors.errorString" (.ptr (.agg [.lit (.string [99, 111, 110, 99, 111, 114, 100, 58, 32, 115, 99, 104, 101, 109, 97])]))
def laid_concord_api_ErrField {H : Type} : DataW H := .iface "*errors.errorString" (.ptr (.agg [.lit (.string [99, 111, 110, 99, 111, 114, 100, 58, 32, 102, 105, 101, 108, 100])]))
def laid_concord_api_ErrValue {H : Type} : DataW H := .iface "*errors.errorString" (.ptr (.agg [.lit (.string [99, 111, 110, 99, 111, 114, 100, 58, 32, 118, 97, 108, 117, 101])]))
def laid_concord_api_ErrPattern {H : Type} : DataW H := .iface "*errors.errorString" (.ptr (.agg [.lit (.string [99, 111, 110, 99, 111, 114, 100, 58, 32, 112, 97, 116, 116, 101, 114, 110])]))
def laid_concord_api_ErrStates {H : Type} : DataW H := .iface "*errors.errorString" (.ptr (.agg [.lit (.string [99, 111, 110, 99, 111, 114, 100, 58, 32, 115, 116, 97, 116, 101, 115])]))
def laid_concord_api_ErrSyntax {H : Type} : DataW H := .iface "*errors.errorString" (.ptr (.agg [.lit (.string [99, 111, 110, 99, 111, 114, 100, 58, 32, 115, 121, 110, 116, 97, 120])]))
def laid_concord_api_ErrDeep {H : Type} : DataW H := .iface "*errors.errorString" (.ptr (.agg [.lit (.string [99, 111, 110, 99, 111, 114, 100, 58, 32, 116, 111, 111, 32, 100, 101, 101, 112])]))
def laid_concord_api_ErrNode {H : Type} : DataW H := .iface "*errors.errorString" (.ptr (.agg [.lit (.string [99, 111, 110, 99, 111, 114, 100, 58, 32, 110, 111, 100, 101])]))
def laid_concord_api_ErrTerms {H : Type} : DataW H := .iface "*errors.errorString" (.ptr (.agg [.lit (.string [99, 111, 110, 99, 111, 114, 100, 58, 32, 116, 111, 111, 32, 109, 97, 110, 121, 32, 116, 101, 114, 109, 115])]))
def laid_concord_api_ErrScore {H : Type} : DataW H := .iface "*errors.errorString" (.ptr (.agg [.lit (.string [99, 111, 110, 99, 111, 114, 100, 58, 32, 115, 99, 111, 114, 101, 32, 111, 118, 101, 114, 102, 108, 111, 119])]))
def laid_concord_api_ErrCode {H : Type} : DataW H := .iface "*errors.errorString" (.ptr (.agg [.lit (.string [99, 111, 110, 99, 111, 114, 100, 58, 32, 99, 111, 100, 101])]))
def laid_concord_api_ErrFuel {H : Type} : DataW H := .iface "*errors.errorString" (.ptr (.agg [.lit (.string [99, 111, 110, 99, 111, 114, 100, 58, 32, 102, 117, 101, 108])]))
def laid_concord_api_ErrDoc {H : Type} : DataW H := .iface "*errors.errorString" (.ptr (.agg [.lit (.string [99, 111, 110, 99, 111, 114, 100, 58, 32, 100, 111, 99, 117, 109, 101, 110, 116])]))
def laid_concord_api_ErrCommand {H : Type} : DataW H := .iface "*errors.errorString" (.ptr (.agg [.lit (.string [99, 111, 110, 99, 111, 114, 100, 58, 32, 99, 111, 109, 109, 97, 110, 100])]))

/-- 'concordlaw09.CursorPhrase': WHATEVER THE INPUT: true; the input reads as it did. -/
def cursorPhraseSpec : ChangeSpec := { name := "cursorPhrase", fn := fun _ => fun
  | [d1, d2, d3] => { results := [.lit (.bool true)], args := [d1, d2, d3] }
  | _ => none }
def cursorPhraseRow : OpenClaim := { program := "ytaijepjhmjjecaadoor", sum := "67198fa651bb9400b8a00b5b55e05c911e13c8adc95072a3dd9ba9e41bc4d3cd", func := "concord/concordlaw09.CursorPhrase", spec := "cursorPhrase", unfollowed := true, recurses := true, named := ["concord/api.ErrCorrupt", "concord/api.ErrShort", "concord/api.ErrVarint", "concord/api.ErrLimit", "concord/api.ErrOrder", "concord/api.ErrTail"], apart := false, laid := [("concord/api.ErrShort", laid_concord_api_ErrShort), ("concord/api.ErrVarint", laid_concord_api_ErrVarint), ("concord/api.ErrLimit", laid_concord_api_ErrLimit), ("concord/api.ErrOrder", laid_concord_api_ErrOrder), ("concord/api.ErrTail", laid_concord_api_ErrTail), ("concord/api.ErrCorrupt", laid_concord_api_ErrCorrupt)] }
def CursorPhraseSaid : Prop := cursorPhraseRow.holds Tryd.pinned (OpenSpec.ofChange cursorPhraseSpec)

/-- ITS FALSE NEIGHBOUR: 'it returns false'. Refute it at one input. -/
def cursorPhraseWrong : ChangeSpec := { name := "cursorPhrase", fn := fun _ => fun
  | [d1, d2, d3] => { results := [.lit (.bool false)], args := [d1, d2, d3] }
  | _ => none }
def CursorPhraseWrongFalsely : Prop := cursorPhraseRow.holds Tryd.pinned (OpenSpec.ofChange cursorPhraseWrong)

/-- 'concordlaw09.CursorPhraseRules': WHATEVER THE INPUT: true; the input reads as it did. -/
def cursorPhraseRulesSpec : ChangeSpec := { name := "cursorPhraseRules", fn := fun _ => fun
  | [d1, d2, d3, d4] => { results := [.lit (.bool true)], args := [d1, d2, d3, d4] }
  | _ => none }
def cursorPhraseRulesRow : OpenClaim := { program := "ytaijepjhmjjecaadoor", sum := "67198fa651bb9400b8a00b5b55e05c911e13c8adc95072a3dd9ba9e41bc4d3cd", func := "concord/concordlaw09.CursorPhraseRules", spec := "cursorPhraseRules", unfollowed := true, recurses := true, named := ["concord/api.ErrCorrupt", "concord/api.ErrShort", "concord/api.ErrVarint", "concord/api.ErrLimit", "concord/api.ErrOrder", "concord/api.ErrTail"], apart := false, laid := [("concord/api.ErrShort", laid_concord_api_ErrShort), ("concord/api.ErrVarint", laid_concord_api_ErrVarint), ("concord/api.ErrLimit", laid_concord_api_ErrLimit), ("concord/api.ErrOrder", laid_concord_api_ErrOrder), ("concord/api.ErrTail", laid_concord_api_ErrTail), ("concord/api.ErrCorrupt", laid_concord_api_ErrCorrupt)] }
def CursorPhraseRulesSaid : Prop := cursorPhraseRulesRow.holds Tryd.pinned (OpenSpec.ofChange cursorPhraseRulesSpec)

/-- ITS FALSE NEIGHBOUR: 'it returns false'. Refute it at one input. -/
def cursorPhraseRulesWrong : ChangeSpec := { name := "cursorPhraseRules", fn := fun _ => fun
  | [d1, d2, d3, d4] => { results := [.lit (.bool false)], args := [d1, d2, d3, d4] }
  | _ => none }
def CursorPhraseRulesWrongFalsely : Prop := cursorPhraseRulesRow.holds Tryd.pinned (OpenSpec.ofChange cursorPhraseRulesWrong)

/-- 'concordlaw09.CursorOpens': WHATEVER THE INPUT: true; the input reads as it did. -/
def cursorOpensSpec : ChangeSpec := { name := "cursorOpens", fn := fun _ => fun
  | [d] => { results := [.lit (.bool true)], args := [d] }
  | _ => none }
def cursorOpensRow : OpenClaim := { program := "ytaijepjhmjjecaadoor", sum := "67198fa651bb9400b8a00b5b55e05c911e13c8adc95072a3dd9ba9e41bc4d3cd", func := "concord/concordlaw09.CursorOpens", spec := "cursorOpens", unfollowed := true, recurses := true, named := ["concord/api.ErrCorrupt", "concord/api.ErrShort", "concord/api.ErrVarint", "concord/api.ErrLimit", "concord/api.ErrOrder", "concord/api.ErrTail", "concord/api.ErrTag", "concord/api.ErrSum", "concord/api.ErrRange", "concord/api.ErrSize", "concord/api.ErrSchema", "concord/api.ErrField", "concord/api.ErrValue", "concord/api.ErrPattern", "concord/api.ErrStates", "concord/api.ErrSyntax", "concord/api.ErrDeep", "concord/api.ErrNode", "concord/api.ErrTerms", "concord/api.ErrScore", "concord/api.ErrCode", "concord/api.ErrFuel", "concord/api.ErrDoc", "concord/api.ErrCommand"], apart := false, laid := [("concord/api.ErrShort", laid_concord_api_ErrShort), ("concord/api.ErrVarint", laid_concord_api_ErrVarint), ("concord/api.ErrLimit", laid_concord_api_ErrLimit), ("concord/api.ErrOrder", laid_concord_api_ErrOrder), ("concord/api.ErrTail", laid_concord_api_ErrTail), ("concord/api.ErrTag", laid_concord_api_ErrTag), ("concord/api.ErrSum", laid_concord_api_ErrSum), ("concord/api.ErrRange", laid_concord_api_ErrRange), ("concord/api.ErrSize", laid_concord_api_ErrSize), ("concord/api.ErrCorrupt", laid_concord_api_ErrCorrupt), ("concord/api.ErrSchema", laid_concord_api_ErrSchema), ("concord/api.ErrField", laid_concord_api_ErrField), ("concord/api.ErrValue", laid_concord_api_ErrValue), ("concord/api.ErrPattern", laid_concord_api_ErrPattern), ("concord/api.ErrStates", laid_concord_api_ErrStates), ("concord/api.ErrSyntax", laid_concord_api_ErrSyntax), ("concord/api.ErrDeep", laid_concord_api_ErrDeep), ("concord/api.ErrNode", laid_concord_api_ErrNode), ("concord/api.ErrTerms", laid_concord_api_ErrTerms), ("concord/api.ErrScore", laid_concord_api_ErrScore), ("concord/api.ErrCode", laid_concord_api_ErrCode), ("concord/api.ErrFuel", laid_concord_api_ErrFuel), ("concord/api.ErrDoc", laid_concord_api_ErrDoc), ("concord/api.ErrCommand", laid_concord_api_ErrCommand)] }
def CursorOpensSaid : Prop := cursorOpensRow.holds Tryd.pinned (OpenSpec.ofChange cursorOpensSpec)

/-- ITS FALSE NEIGHBOUR: 'it returns false'. Refute it at one input. -/
def cursorOpensWrong : ChangeSpec := { name := "cursorOpens", fn := fun _ => fun
  | [d] => { results := [.lit (.bool false)], args := [d] }
  | _ => none }
def CursorOpensWrongFalsely : Prop := cursorOpensRow.holds Tryd.pinned (OpenSpec.ofChange cursorOpensWrong)

/-- 'concordlaw09.CursorMemory': WHATEVER THE INPUT: true; the input reads as it did. -/
def cursorMemorySpec : ChangeSpec := { name := "cursorMemory", fn := fun _ => fun
  | [d1, d2, d3] => { results := [.lit (.bool true)], args := [d1, d2, d3] }
  | _ => none }
def cursorMemoryRow : OpenClaim := { program := "ytaijepjhmjjecaadoor", sum := "67198fa651bb9400b8a00b5b55e05c911e13c8adc95072a3dd9ba9e41bc4d3cd", func := "concord/concordlaw09.CursorMemory", spec := "cursorMemory", unfollowed := true, recurses := true, named := ["concord/api.ErrCorrupt", "concord/api.ErrShort", "concord/api.ErrVarint", "concord/api.ErrLimit", "concord/api.ErrOrder", "concord/api.ErrTail", "concord/api.ErrTag", "concord/api.ErrSum", "concord/api.ErrRange", "concord/api.ErrSize", "concord/api.ErrSchema", "concord/api.ErrField", "concord/api.ErrValue", "concord/api.ErrPattern", "concord/api.ErrStates", "concord/api.ErrSyntax", "concord/api.ErrDeep", "concord/api.ErrNode", "concord/api.ErrTerms", "concord/api.ErrScore", "concord/api.ErrCode", "concord/api.ErrFuel", "concord/api.ErrDoc", "concord/api.ErrCommand"], apart := false, laid := [("concord/api.ErrShort", laid_concord_api_ErrShort), ("concord/api.ErrVarint", laid_concord_api_ErrVarint), ("concord/api.ErrLimit", laid_concord_api_ErrLimit), ("concord/api.ErrOrder", laid_concord_api_ErrOrder), ("concord/api.ErrTail", laid_concord_api_ErrTail), ("concord/api.ErrTag", laid_concord_api_ErrTag), ("concord/api.ErrSum", laid_concord_api_ErrSum), ("concord/api.ErrRange", laid_concord_api_ErrRange), ("concord/api.ErrSize", laid_concord_api_ErrSize), ("concord/api.ErrCorrupt", laid_concord_api_ErrCorrupt), ("concord/api.ErrSchema", laid_concord_api_ErrSchema), ("concord/api.ErrField", laid_concord_api_ErrField), ("concord/api.ErrValue", laid_concord_api_ErrValue), ("concord/api.ErrPattern", laid_concord_api_ErrPattern), ("concord/api.ErrStates", laid_concord_api_ErrStates), ("concord/api.ErrSyntax", laid_concord_api_ErrSyntax), ("concord/api.ErrDeep", laid_concord_api_ErrDeep), ("concord/api.ErrNode", laid_concord_api_ErrNode), ("concord/api.ErrTerms", laid_concord_api_ErrTerms), ("concord/api.ErrScore", laid_concord_api_ErrScore), ("concord/api.ErrCode", laid_concord_api_ErrCode), ("concord/api.ErrFuel", laid_concord_api_ErrFuel), ("concord/api.ErrDoc", laid_concord_api_ErrDoc), ("concord/api.ErrCommand", laid_concord_api_ErrCommand)] }
def CursorMemorySaid : Prop := cursorMemoryRow.holds Tryd.pinned (OpenSpec.ofChange cursorMemorySpec)

/-- ITS FALSE NEIGHBOUR: 'it returns false'. Refute it at one input. -/
def cursorMemoryWrong : ChangeSpec := { name := "cursorMemory", fn := fun _ => fun
  | [d1, d2, d3] => { results := [.lit (.bool false)], args := [d1, d2, d3] }
  | _ => none }
def CursorMemoryWrongFalsely : Prop := cursorMemoryRow.holds Tryd.pinned (OpenSpec.ofChange cursorMemoryWrong)

/-- 'concordlaw09.CursorPlays': WHATEVER THE INPUT: true; the input reads as it did. -/
def cursorPlaysSpec : ChangeSpec := { name := "cursorPlays", fn := fun _ => fun
  | [d1, d2] => { results := [.lit (.bool true)], args := [d1, d2] }
  | _ => none }
def cursorPlaysRow : OpenClaim := { program := "ytaijepjhmjjecaadoor", sum := "67198fa651bb9400b8a00b5b55e05c911e13c8adc95072a3dd9ba9e41bc4d3cd", func := "concord/concordlaw09.CursorPlays", spec := "cursorPlays", unfollowed := true, recurses := true, named := ["concord/api.ErrCorrupt", "concord/api.ErrShort", "concord/api.ErrVarint", "concord/api.ErrLimit", "concord/api.ErrOrder", "concord/api.ErrTail"], apart := false, laid := [("concord/api.ErrShort", laid_concord_api_ErrShort), ("concord/api.ErrVarint", laid_concord_api_ErrVarint), ("concord/api.ErrLimit", laid_concord_api_ErrLimit), ("concord/api.ErrOrder", laid_concord_api_ErrOrder), ("concord/api.ErrTail", laid_concord_api_ErrTail), ("concord/api.ErrCorrupt", laid_concord_api_ErrCorrupt)] }
def CursorPlaysSaid : Prop := cursorPlaysRow.holds Tryd.pinned (OpenSpec.ofChange cursorPlaysSpec)

/-- ITS FALSE NEIGHBOUR: 'it returns false'. Refute it at one input. -/
def cursorPlaysWrong : ChangeSpec := { name := "cursorPlays", fn := fun _ => fun
  | [d1, d2] => { results := [.lit (.bool false)], args := [d1, d2] }
  | _ => none }
def CursorPlaysWrongFalsely : Prop := cursorPlaysRow.holds Tryd.pinned (OpenSpec.ofChange cursorPlaysWrong)

/-- 'concordlaw09.CursorScan': WHATEVER THE INPUT: true; the input reads as it did. -/
def cursorScanSpec : ChangeSpec := { name := "cursorScan", fn := fun _ => fun
  | [d1, d2, d3] => { results := [.lit (.bool true)], args := [d1, d2, d3] }
  | _ => none }
def cursorScanRow : OpenClaim := { program := "ytaijepjhmjjecaadoor", sum := "67198fa651bb9400b8a00b5b55e05c911e13c8adc95072a3dd9ba9e41bc4d3cd", func := "concord/concordlaw09.CursorScan", spec := "cursorScan", unfollowed := true, recurses := true, named := ["concord/api.ErrCorrupt", "concord/api.ErrShort", "concord/api.ErrVarint", "concord/api.ErrLimit", "concord/api.ErrOrder", "concord/api.ErrTail", "concord/api.ErrRange"], apart := false, laid := [("concord/api.ErrShort", laid_concord_api_ErrShort), ("concord/api.ErrVarint", laid_concord_api_ErrVarint), ("concord/api.ErrLimit", laid_concord_api_ErrLimit), ("concord/api.ErrOrder", laid_concord_api_ErrOrder), ("concord/api.ErrTail", laid_concord_api_ErrTail), ("concord/api.ErrRange", laid_concord_api_ErrRange), ("concord/api.ErrCorrupt", laid_concord_api_ErrCorrupt)] }
def CursorScanSaid : Prop := cursorScanRow.holds Tryd.pinned (OpenSpec.ofChange cursorScanSpec)

/-- ITS FALSE NEIGHBOUR: 'it returns false'. Refute it at one input. -/
def cursorScanWrong : ChangeSpec := { name := "cursorScan", fn := fun _ => fun
  | [d1, d2, d3] => { results := [.lit (.bool false)], args := [d1, d2, d3] }
  | _ => none }
def CursorScanWrongFalsely : Prop := cursorScanRow.holds Tryd.pinned (OpenSpec.ofChange cursorScanWrong)

/- THE SECOND FORM. 'bulk': how many values and letters a reading holds, each counted each time it is reached (what is shared counts as often as it is met; a slice's spare places count too). A statement '..UptoSaid' is the law's where the arguments, and the package variables that the reading takes, are together of bulk at most 1048576: NARROWER than '..Said'. Prove '..Said' where nothing that the law and all that it calls make is longer than what came in: it says more and counts as full. Else prove '..UptoSaid'. A law counts once. -/
mutual
def uptoBulk {H : Type} : DataW H → Nat
  | .lit (.string bytes) => bytes.length + 1
  | .lit _ => 1
  | .nil => 1
  | .ptr d => uptoBulk d + 1
  | .slice elems spare => uptoBulkAll elems + uptoBulkAll spare + 1
  | .agg parts => uptoBulkAll parts + 1
  | .iface _ d => uptoBulk d + 1
  | .map entries => uptoBulkEntries entries + 1
  | .held _ => 1
def uptoBulkAll {H : Type} : List (DataW H) → Nat
  | [] => 0
  | d :: r => uptoBulk d + uptoBulkAll r
def uptoBulkEntries {H : Type} : List (Lit × DataW H) → Nat
  | [] => 0
  | x :: r => uptoBulkEntry x + uptoBulkEntries r
def uptoBulkEntry {H : Type} : Lit × DataW H → Nat
  | (.string bytes, d) => bytes.length + uptoBulk d + 1
  | (_, d) => uptoBulk d + 1
 end
def uptoSmall : (H : Type) → List (DataW H) → Bool := fun _ ds => decide (uptoBulkAll ds ≤ 1048576)
def OpenSpec.upto (s : _root_.Go.ChangeSpec) : _root_.Go.OpenSpec := { _root_.Go.OpenSpec.ofChange s with cond := some uptoSmall }

/-- 'concordlaw09.CursorPhrase', WHERE WHAT IT READS IS OF BULK AT MOST 1048576: true; the input reads as it did. -/
def cursorPhraseUptoRow : OpenClaim := { program := "ytaijepjhmjjecaadoor", sum := "67198fa651bb9400b8a00b5b55e05c911e13c8adc95072a3dd9ba9e41bc4d3cd", func := "concord/concordlaw09.CursorPhrase", spec := "cursorPhrase", unfollowed := true, recurses := true, named := ["concord/api.ErrCorrupt", "concord/api.ErrShort", "concord/api.ErrVarint", "concord/api.ErrLimit", "concord/api.ErrOrder", "concord/api.ErrTail"], apart := false, laid := [("concord/api.ErrShort", laid_concord_api_ErrShort), ("concord/api.ErrVarint", laid_concord_api_ErrVarint), ("concord/api.ErrLimit", laid_concord_api_ErrLimit), ("concord/api.ErrOrder", laid_concord_api_ErrOrder), ("concord/api.ErrTail", laid_concord_api_ErrTail), ("concord/api.ErrCorrupt", laid_concord_api_ErrCorrupt)], narrowed := true }
def CursorPhraseUptoSaid : Prop := cursorPhraseUptoRow.holds Tryd.pinned (OpenSpec.upto cursorPhraseSpec)

/-- 'concordlaw09.CursorPhraseRules', WHERE WHAT IT READS IS OF BULK AT MOST 1048576: true; the input reads as it did. -/
def cursorPhraseRulesUptoRow : OpenClaim := { program := "ytaijepjhmjjecaadoor", sum := "67198fa651bb9400b8a00b5b55e05c911e13c8adc95072a3dd9ba9e41bc4d3cd", func := "concord/concordlaw09.CursorPhraseRules", spec := "cursorPhraseRules", unfollowed := true, recurses := true, named := ["concord/api.ErrCorrupt", "concord/api.ErrShort", "concord/api.ErrVarint", "concord/api.ErrLimit", "concord/api.ErrOrder", "concord/api.ErrTail"], apart := false, laid := [("concord/api.ErrShort", laid_concord_api_ErrShort), ("concord/api.ErrVarint", laid_concord_api_ErrVarint), ("concord/api.ErrLimit", laid_concord_api_ErrLimit), ("concord/api.ErrOrder", laid_concord_api_ErrOrder), ("concord/api.ErrTail", laid_concord_api_ErrTail), ("concord/api.ErrCorrupt", laid_concord_api_ErrCorrupt)], narrowed := true }
def CursorPhraseRulesUptoSaid : Prop := cursorPhraseRulesUptoRow.holds Tryd.pinned (OpenSpec.upto cursorPhraseRulesSpec)

/-- 'concordlaw09.CursorOpens', WHERE WHAT IT READS IS OF BULK AT MOST 1048576: true; the input reads as it did. -/
def cursorOpensUptoRow : OpenClaim := { program := "ytaijepjhmjjecaadoor", sum := "67198fa651bb9400b8a00b5b55e05c911e13c8adc95072a3dd9ba9e41bc4d3cd", func := "concord/concordlaw09.CursorOpens", spec := "cursorOpens", unfollowed := true, recurses := true, named := ["concord/api.ErrCorrupt", "concord/api.ErrShort", "concord/api.ErrVarint", "concord/api.ErrLimit", "concord/api.ErrOrder", "concord/api.ErrTail", "concord/api.ErrTag", "concord/api.ErrSum", "concord/api.ErrRange", "concord/api.ErrSize", "concord/api.ErrSchema", "concord/api.ErrField", "concord/api.ErrValue", "concord/api.ErrPattern", "concord/api.ErrStates", "concord/api.ErrSyntax", "concord/api.ErrDeep", "concord/api.ErrNode", "concord/api.ErrTerms", "concord/api.ErrScore", "concord/api.ErrCode", "concord/api.ErrFuel", "concord/api.ErrDoc", "concord/api.ErrCommand"], apart := false, laid := [("concord/api.ErrShort", laid_concord_api_ErrShort), ("concord/api.ErrVarint", laid_concord_api_ErrVarint), ("concord/api.ErrLimit", laid_concord_api_ErrLimit), ("concord/api.ErrOrder", laid_concord_api_ErrOrder), ("concord/api.ErrTail", laid_concord_api_ErrTail), ("concord/api.ErrTag", laid_concord_api_ErrTag), ("concord/api.ErrSum", laid_concord_api_ErrSum), ("concord/api.ErrRange", laid_concord_api_ErrRange), ("concord/api.ErrSize", laid_concord_api_ErrSize), ("concord/api.ErrCorrupt", laid_concord_api_ErrCorrupt), ("concord/api.ErrSchema", laid_concord_api_ErrSchema), ("concord/api.ErrField", laid_concord_api_ErrField), ("concord/api.ErrValue", laid_concord_api_ErrValue), ("concord/api.ErrPattern", laid_concord_api_ErrPattern), ("concord/api.ErrStates", laid_concord_api_ErrStates), ("concord/api.ErrSyntax", laid_concord_api_ErrSyntax), ("concord/api.ErrDeep", laid_concord_api_ErrDeep), ("concord/api.ErrNode", laid_concord_api_ErrNode), ("concord/api.ErrTerms", laid_concord_api_ErrTerms), ("concord/api.ErrScore", laid_concord_api_ErrScore), ("concord/api.ErrCode", laid_concord_api_ErrCode), ("concord/api.ErrFuel", laid_concord_api_ErrFuel), ("concord/api.ErrDoc", laid_concord_api_ErrDoc), ("concord/api.ErrCommand", laid_concord_api_ErrCommand)], narrowed := true }
def CursorOpensUptoSaid : Prop := cursorOpensUptoRow.holds Tryd.pinned (OpenSpec.upto cursorOpensSpec)

/-- 'concordlaw09.CursorMemory', WHERE WHAT IT READS IS OF BULK AT MOST 1048576: true; the input reads as it did. -/
def cursorMemoryUptoRow : OpenClaim := { program := "ytaijepjhmjjecaadoor", sum := "67198fa651bb9400b8a00b5b55e05c911e13c8adc95072a3dd9ba9e41bc4d3cd", func := "concord/concordlaw09.CursorMemory", spec := "cursorMemory", unfollowed := true, recurses := true, named := ["concord/api.ErrCorrupt", "concord/api.ErrShort", "concord/api.ErrVarint", "concord/api.ErrLimit", "concord/api.ErrOrder", "concord/api.ErrTail", "concord/api.ErrTag", "concord/api.ErrSum", "concord/api.ErrRange", "concord/api.ErrSize", "concord/api.ErrSchema", "concord/api.ErrField", "concord/api.ErrValue", "concord/api.ErrPattern", "concord/api.ErrStates", "concord/api.ErrSyntax", "concord/api.ErrDeep", "concord/api.ErrNode", "concord/api.ErrTerms", "concord/api.ErrScore", "concord/api.ErrCode", "concord/api.ErrFuel", "concord/api.ErrDoc", "concord/api.ErrCommand"], apart := false, laid := [("concord/api.ErrShort", laid_concord_api_ErrShort), ("concord/api.ErrVarint", laid_concord_api_ErrVarint), ("concord/api.ErrLimit", laid_concord_api_ErrLimit), ("concord/api.ErrOrder", laid_concord_api_ErrOrder), ("concord/api.ErrTail", laid_concord_api_ErrTail), ("concord/api.ErrTag", laid_concord_api_ErrTag), ("concord/api.ErrSum", laid_concord_api_ErrSum), ("concord/api.ErrRange", laid_concord_api_ErrRange), ("concord/api.ErrSize", laid_concord_api_ErrSize), ("concord/api.ErrCorrupt", laid_concord_api_ErrCorrupt), ("concord/api.ErrSchema", laid_concord_api_ErrSchema), ("concord/api.ErrField", laid_concord_api_ErrField), ("concord/api.ErrValue", laid_concord_api_ErrValue), ("concord/api.ErrPattern", laid_concord_api_ErrPattern), ("concord/api.ErrStates", laid_concord_api_ErrStates), ("concord/api.ErrSyntax", laid_concord_api_ErrSyntax), ("concord/api.ErrDeep", laid_concord_api_ErrDeep), ("concord/api.ErrNode", laid_concord_api_ErrNode), ("concord/api.ErrTerms", laid_concord_api_ErrTerms), ("concord/api.ErrScore", laid_concord_api_ErrScore), ("concord/api.ErrCode", laid_concord_api_ErrCode), ("concord/api.ErrFuel", laid_concord_api_ErrFuel), ("concord/api.ErrDoc", laid_concord_api_ErrDoc), ("concord/api.ErrCommand", laid_concord_api_ErrCommand)], narrowed := true }
def CursorMemoryUptoSaid : Prop := cursorMemoryUptoRow.holds Tryd.pinned (OpenSpec.upto cursorMemorySpec)

/-- 'concordlaw09.CursorPlays', WHERE WHAT IT READS IS OF BULK AT MOST 1048576: true; the input reads as it did. -/
def cursorPlaysUptoRow : OpenClaim := { program := "ytaijepjhmjjecaadoor", sum := "67198fa651bb9400b8a00b5b55e05c911e13c8adc95072a3dd9ba9e41bc4d3cd", func := "concord/concordlaw09.CursorPlays", spec := "cursorPlays", unfollowed := true, recurses := true, named := ["concord/api.ErrCorrupt", "concord/api.ErrShort", "concord/api.ErrVarint", "concord/api.ErrLimit", "concord/api.ErrOrder", "concord/api.ErrTail"], apart := false, laid := [("concord/api.ErrShort", laid_concord_api_ErrShort), ("concord/api.ErrVarint", laid_concord_api_ErrVarint), ("concord/api.ErrLimit", laid_concord_api_ErrLimit), ("concord/api.ErrOrder", laid_concord_api_ErrOrder), ("concord/api.ErrTail", laid_concord_api_ErrTail), ("concord/api.ErrCorrupt", laid_concord_api_ErrCorrupt)], narrowed := true }
def CursorPlaysUptoSaid : Prop := cursorPlaysUptoRow.holds Tryd.pinned (OpenSpec.upto cursorPlaysSpec)

/-- 'concordlaw09.CursorScan', WHERE WHAT IT READS IS OF BULK AT MOST 1048576: true; the input reads as it did. -/
def cursorScanUptoRow : OpenClaim := { program := "ytaijepjhmjjecaadoor", sum := "67198fa651bb9400b8a00b5b55e05c911e13c8adc95072a3dd9ba9e41bc4d3cd", func := "concord/concordlaw09.CursorScan", spec := "cursorScan", unfollowed := true, recurses := true, named := ["concord/api.ErrCorrupt", "concord/api.ErrShort", "concord/api.ErrVarint", "concord/api.ErrLimit", "concord/api.ErrOrder", "concord/api.ErrTail", "concord/api.ErrRange"], apart := false, laid := [("concord/api.ErrShort", laid_concord_api_ErrShort), ("concord/api.ErrVarint", laid_concord_api_ErrVarint), ("concord/api.ErrLimit", laid_concord_api_ErrLimit), ("concord/api.ErrOrder", laid_concord_api_ErrOrder), ("concord/api.ErrTail", laid_concord_api_ErrTail), ("concord/api.ErrRange", laid_concord_api_ErrRange), ("concord/api.ErrCorrupt", laid_concord_api_ErrCorrupt)], narrowed := true }
def CursorScanUptoSaid : Prop := cursorScanUptoRow.holds Tryd.pinned (OpenSpec.upto cursorScanSpec)

end Rows
end Go.Proofs.YtaijepjhmjjecaaDoor
