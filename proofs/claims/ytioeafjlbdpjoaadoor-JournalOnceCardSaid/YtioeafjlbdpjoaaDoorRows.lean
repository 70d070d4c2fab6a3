/-
  NARROWER THAN 'FOR EVERY INPUT', by the rows' own cells (each row's printed sentence says how): JournalStacks: laid · JournalForgets: laid · JournalOnce: laid · JournalExact: laid.
  DERIVED. THE GIVEN ROWS OF THIS SEAT. 4 by the template 'for every input the law returns true; each argument reads behind the call as it read before'; 0 by the template 'total and deterministic' (their statements: YtioeafjlbdpjoaaDoorTotals.lean).
  GIVEN WITH THE SEED: the statements are not yours to turn. If you find one false, say at which input.
  Laid BY PROGRAM, IN A SANDBOX (cutbox-rows.mjs): the forced cells as the released guide's own fill.sh prints them over the translation 60aac2dbe000aa64… (all of the seat's roots in one cut). By AI agents, Wed Nov 11 2026. No macro, syntax, notation, axiom, sorry.
-/
import Derived.Test.YtioeafjlbdpjoaaDoorChecked
import GoSem.Claim
import GoSem.ClaimJoined
import GoSem.ClaimMapViews
import Derived.JoinedTies
import Derived.KernelRfl
namespace Go.Proofs.YtioeafjlbdpjoaaDoor
/- THE CELL 'sum', in the pinned program and in every row, IS THE sha256 OF THE DUMP (.gsa) THAT YtioeafjlbdpjoaaDoorProg.lean LOADS. Nothing in Lean hashes anything: it is a label: what it is worth is what the hold of that sum in a sandbox is worth. -/
noncomputable def Tryd.pinned : Pinned := { name := "ytioeafjlbdpjoaadoor", sum := "60aac2dbe000aa640b544834dd962df2cfbeecbaaaf737c4b9bcf20c01d197fd", checked := Tryd.checked }
namespace Rows
def none {H : Type} : Left H := { results := [], args := [] }

/- WHAT THE LISTED PACKAGE-LEVEL VARIABLES READ AS WHEN THE CALL BEGINS. Each datum BY PROGRAM (the guide's laid-datum.mjs) off the statement by which the dump's own 'gosem.cut.vars' lays the variable. In a bare row this is a premise. The card (YtioeafjlbdpjoaaDoorCards.lean) ties it to the program's text. -/
def laid_pasodoble_api_ErrArg {H : Type} : DataW H := .iface "*errors.errorString" (.ptr (.agg [.lit (.string [97, 110, 32, 97, 114, 103, 117, 109, 101, 110, 116, 32, 116, 104, 97, 116, 32, 99, 97, 110, 39, 116, 32, 98, 101])]))
def laid_pasodoble_api_ErrNil {H : Type} : DataW H := .iface "*errors.errorString" (.ptr (.agg [.lit (.string [97, 32, 110, 105, 108, 32, 116, 104, 105, 110, 103])]))
def laid_pasodoble_api_ErrFull {H : Type} : DataW H := .iface "*errors.errorString" (.ptr (.agg [.lit (.string [110, 111, 32, 114, 111, 111, 109])]))
def laid_pasodoble_api_ErrState {H : Type} : DataW H := .iface "*errors.errorString" (.ptr (.agg [.lit (.string [110, 111, 116, 32, 110, 111, 119])]))
def laid_pasodoble_api_ErrRange {H : Type} : DataW H := .iface "*errors.errorString" (.ptr (.agg [.lit (.string [97, 32, 102, 114, 97, 109, 101, 32, 116, 104, 97, 116, 32, 105, 115, 110, 39, 116, 32, 107, 101, 112, 116])]))
def laid_pasodoble_api_ErrForm {H : Type} : DataW H := .iface "*errors.errorString" (.ptr (.agg [.lit (.string [98, 121, 116, 101, 115, 32, 111, 102, 32, 110, 111, 32, 102, 111, 114, 109])]))
def laid_pasodoble_api_ErrLong {H : Type} : DataW H := .iface "*errors.errorString" (.ptr (.agg [.lit (.string [116, 111, 111, 32, 108, 111, 110, 103])]))
def laid_pasodoble_api_ErrSum {H : Type} : DataW H := .iface "*errors.errorString" (.ptr (.agg [.lit (.string [97, 110, 111, 116, 104, 101, 114, 32, 115, 117, 109])]))
def laid_pasodoble_api_ErrNone {H : Type} : DataW H := .iface "*errors.errorString" (.ptr (.agg [.lit (.string [116, 104, 101, 114, 101, 32, 105, 115, 32, 110, 111, 110, 101])]))
def laid_pasodoble_api_ErrTwice {H : Type} : DataW H := .iface "*errors.errorString" (.ptr (.agg [.lit (.string [116, 104, 101, 114, 101, 32, 97, 108, 114, 101, 97, 100, 121])]))
def laid_pasodoble_api_ErrName {H : Type} : DataW H := .iface "*errors.errorString" (.ptr (.agg [.lit (.string [110, 111, 32, 110, 97, 109, 101])]))
def laid_pasodoble_api_ErrCycle {H : Type} : DataW H := .iface "*errors.errorString" (.ptr (.agg [.lit (.string [101, 97, 99, 104, 32, 97, 104, 101, 97, 100, 32, 111, 102, 32, 116, 104, 101, 32, 111, 116, 104, 101, 114])]))
def laid_pasodoble_api_ErrStack {H : Type} : DataW H := .iface "*errors.errorString" (.ptr (.agg [.lit (.string [116, 111, 111, 32, 108, 105, 116, 116, 108, 101, 32, 111, 114, 32, 116, 111, 111, 32, 109, 117, 99, 104, 32, 111, 110, 32, 97, 32, 115, 116, 97, 99, 107])]))
def laid_pasodoble_api_ErrJump {H : Type} : DataW H := .iface "*errors.errorString" (.ptr (.agg [.lit (.string [97, 32, 106, 117, 109, 112, 32, 116, 111, 32, 110, 111, 119, 104, 101, 114, 101])]))
def laid_pasodoble_api_ErrOp {H : Type} : DataW H := .iface "*errors.errorString" (.ptr (.agg [.lit (.string [110, 111, 32, 111, 112, 101, 114, 97, 116, 105, 111, 110])]))
def laid_pasodoble_api_ErrFuel {H : Type} : DataW H := .iface "*errors.errorString" (.ptr (.agg [.lit (.string [110, 111, 32, 102, 117, 101, 108, 32, 108, 101, 102, 116])]))
def laid_pasodoble_api_ErrDead {H : Type} : DataW H := .iface "*errors.errorString" (.ptr (.agg [.lit (.string [97, 110, 32, 101, 110, 116, 105, 116, 121, 32, 116, 104, 97, 116, 32, 105, 115, 110, 39, 116, 32, 116, 104, 101, 114, 101])]))
def laid_pasodoble_api_ErrWord {H : Type} : DataW H := .iface "*errors.errorString" (.ptr (.agg [.lit (.string [110, 111, 32, 119, 111, 114, 100])]))

/-- 'pasodoblelaw13.JournalStacks': WHATEVER THE INPUT: true; the input reads as it did. -/
def journalStacksSpec : ChangeSpec := { name := "journalStacks", fn := fun _ => fun
  | [d1, d2] => { results := [.lit (.bool true)], args := [d1, d2] }
  | _ => none }
def journalStacksRow : OpenClaim := { program := "ytioeafjlbdpjoaadoor", sum := "60aac2dbe000aa640b544834dd962df2cfbeecbaaaf737c4b9bcf20c01d197fd", func := "pasodoble/pasodoblelaw13.JournalStacks", spec := "journalStacks", inPlace := ["internal/reflectlite.TypeOf"], unfollowed := true, recurses := true, named := ["pasodoble/api.ErrState", "pasodoble/api.ErrRange", "pasodoble/api.ErrArg", "pasodoble/api.ErrNil", "pasodoble/api.ErrFull"], plainKeys := false, apart := false, laid := [("pasodoble/api.ErrArg", laid_pasodoble_api_ErrArg), ("pasodoble/api.ErrNil", laid_pasodoble_api_ErrNil), ("pasodoble/api.ErrFull", laid_pasodoble_api_ErrFull), ("pasodoble/api.ErrState", laid_pasodoble_api_ErrState), ("pasodoble/api.ErrRange", laid_pasodoble_api_ErrRange)] }
def JournalStacksSaid : Prop := journalStacksRow.holds Tryd.pinned (OpenSpec.ofChange journalStacksSpec)

/-- ITS FALSE NEIGHBOUR: 'it returns false'. Refute it at one input. -/
def journalStacksWrong : ChangeSpec := { name := "journalStacks", fn := fun _ => fun
  | [d1, d2] => { results := [.lit (.bool false)], args := [d1, d2] }
  | _ => none }
def JournalStacksWrongFalsely : Prop := journalStacksRow.holds Tryd.pinned (OpenSpec.ofChange journalStacksWrong)

/-- 'pasodoblelaw13.JournalForgets': WHATEVER THE INPUT: true; the input reads as it did. -/
def journalForgetsSpec : ChangeSpec := { name := "journalForgets", fn := fun _ => fun
  | [d1, d2] => { results := [.lit (.bool true)], args := [d1, d2] }
  | _ => none }
def journalForgetsRow : OpenClaim := { program := "ytioeafjlbdpjoaadoor", sum := "60aac2dbe000aa640b544834dd962df2cfbeecbaaaf737c4b9bcf20c01d197fd", func := "pasodoble/pasodoblelaw13.JournalForgets", spec := "journalForgets", inPlace := ["internal/reflectlite.TypeOf"], unfollowed := true, recurses := true, named := ["pasodoble/api.ErrNil", "pasodoble/api.ErrState", "pasodoble/api.ErrRange", "pasodoble/api.ErrArg", "pasodoble/api.ErrFull"], plainKeys := false, apart := false, laid := [("pasodoble/api.ErrArg", laid_pasodoble_api_ErrArg), ("pasodoble/api.ErrNil", laid_pasodoble_api_ErrNil), ("pasodoble/api.ErrFull", laid_pasodoble_api_ErrFull), ("pasodoble/api.ErrState", laid_pasodoble_api_ErrState), ("pasodoble/api.ErrRange", laid_pasodoble_api_ErrRange)] }
def JournalForgetsSaid : Prop := journalForgetsRow.holds Tryd.pinned (OpenSpec.ofChange journalForgetsSpec)

/-- ITS FALSE NEIGHBOUR: 'it returns false'. Refute it at one input. -/
def journalForgetsWrong : ChangeSpec := { name := "journalForgets", fn := fun _ => fun
  | [d1, d2] => { results := [.lit (.bool false)], args := [d1, d2] }
  | _ => none }
def JournalForgetsWrongFalsely : Prop := journalForgetsRow.holds Tryd.pinned (OpenSpec.ofChange journalForgetsWrong)

/-- 'pasodoblelaw13.JournalOnce': WHATEVER THE INPUT: true; the input reads as it did. -/
def journalOnceSpec : ChangeSpec := { name := "journalOnce", fn := fun _ => fun
  | [d1, d2] => { results := [.lit (.bool true)], args := [d1, d2] }
  | _ => none }
def journalOnceRow : OpenClaim := { program := "ytioeafjlbdpjoaadoor", sum := "60aac2dbe000aa640b544834dd962df2cfbeecbaaaf737c4b9bcf20c01d197fd", func := "pasodoble/pasodoblelaw13.JournalOnce", spec := "journalOnce", inPlace := ["internal/reflectlite.TypeOf"], unfollowed := true, recurses := true, named := ["pasodoble/api.ErrState", "pasodoble/api.ErrRange", "pasodoble/api.ErrArg", "pasodoble/api.ErrNil", "pasodoble/api.ErrFull"], plainKeys := false, apart := false, laid := [("pasodoble/api.ErrArg", laid_pasodoble_api_ErrArg), ("pasodoble/api.ErrNil", laid_pasodoble_api_ErrNil), ("pasodoble/api.ErrFull", laid_pasodoble_api_ErrFull), ("pasodoble/api.ErrState", laid_pasodoble_api_ErrState), ("pasodoble/api.ErrRange", laid_pasodoble_api_ErrRange)] }
def JournalOnceSaid : Prop := journalOnceRow.holds Tryd.pinned (OpenSpec.ofChange journalOnceSpec)

/-- ITS FALSE NEIGHBOUR: 'it returns false'. Refute it at one input. -/
def journalOnceWrong : ChangeSpec := { name := "journalOnce", fn := fun _ => fun
  | [d1, d2] => { results := [.lit (.bool false)], args := [d1, d2] }
  | _ => none }
def JournalOnceWrongFalsely : Prop := journalOnceRow.holds Tryd.pinned (OpenSpec.ofChange journalOnceWrong)

/-- 'pasodoblelaw13.JournalExact': WHATEVER THE INPUT: true; the input reads as it did. -/
def journalExactSpec : ChangeSpec := { name := "journalExact", fn := fun _ => fun
  | [d1, d2] => { results := [.lit (.bool true)], args := [d1, d2] }
  | _ => none }
def journalExactRow : OpenClaim := { program := "ytioeafjlbdpjoaadoor", sum := "60aac2dbe000aa640b544834dd962df2cfbeecbaaaf737c4b9bcf20c01d197fd", func := "pasodoble/pasodoblelaw13.JournalExact", spec := "journalExact", inPlace := ["internal/reflectlite.TypeOf"], unfollowed := true, recurses := true, named := ["pasodoble/api.ErrArg", "pasodoble/api.ErrState", "pasodoble/api.ErrRange", "pasodoble/api.ErrNil", "pasodoble/api.ErrFull", "pasodoble/api.ErrForm", "pasodoble/api.ErrLong", "pasodoble/api.ErrSum", "pasodoble/api.ErrNone", "pasodoble/api.ErrTwice", "pasodoble/api.ErrName", "pasodoble/api.ErrCycle", "pasodoble/api.ErrStack", "pasodoble/api.ErrJump", "pasodoble/api.ErrOp", "pasodoble/api.ErrFuel", "pasodoble/api.ErrDead", "pasodoble/api.ErrWord"], plainKeys := false, apart := false, laid := [("pasodoble/api.ErrArg", laid_pasodoble_api_ErrArg), ("pasodoble/api.ErrNil", laid_pasodoble_api_ErrNil), ("pasodoble/api.ErrForm", laid_pasodoble_api_ErrForm), ("pasodoble/api.ErrLong", laid_pasodoble_api_ErrLong), ("pasodoble/api.ErrSum", laid_pasodoble_api_ErrSum), ("pasodoble/api.ErrFull", laid_pasodoble_api_ErrFull), ("pasodoble/api.ErrNone", laid_pasodoble_api_ErrNone), ("pasodoble/api.ErrState", laid_pasodoble_api_ErrState), ("pasodoble/api.ErrTwice", laid_pasodoble_api_ErrTwice), ("pasodoble/api.ErrName", laid_pasodoble_api_ErrName), ("pasodoble/api.ErrCycle", laid_pasodoble_api_ErrCycle), ("pasodoble/api.ErrStack", laid_pasodoble_api_ErrStack), ("pasodoble/api.ErrJump", laid_pasodoble_api_ErrJump), ("pasodoble/api.ErrOp", laid_pasodoble_api_ErrOp), ("pasodoble/api.ErrFuel", laid_pasodoble_api_ErrFuel), ("pasodoble/api.ErrRange", laid_pasodoble_api_ErrRange), ("pasodoble/api.ErrDead", laid_pasodoble_api_ErrDead), ("pasodoble/api.ErrWord", laid_pasodoble_api_ErrWord)] }
def JournalExactSaid : Prop := journalExactRow.holds Tryd.pinned (OpenSpec.ofChange journalExactSpec)

/-- ITS FALSE NEIGHBOUR: 'it returns false'. Refute it at one input. -/
def journalExactWrong : ChangeSpec := { name := "journalExact", fn := fun _ => fun
  | [d1, d2] => { results := [.lit (.bool false)], args := [d1, d2] }
  | _ => none }
def JournalExactWrongFalsely : Prop := journalExactRow.holds Tryd.pinned (OpenSpec.ofChange journalExactWrong)

/- THE SECOND FORM. 'bulk': how many values and letters a reading holds, each counted each time it is reached (what is shared counts as often as it is met; a slice's spare places count too). A statement '..UptoSaid' is the law's where the arguments, and the package variables that the reading takes, are together of bulk at most 1048576: NARROWER than '..Said'. Prove '..Said' where nothing that the law and all that it calls make is longer than what came in: it says more and counts as full. Else prove '..UptoSaid'. A law counts once. -/
mutual
def uptoBulk {H : Type} : DataW H → Nat
  | .lit (.string bytes) => bytes.length + 1
  | .lit _ => 1
  | .nil => 1
  | .ptr d => uptoBulk d + 1
  | .slice elems spare => uptoBulkAll elems + uptoBulkAll spare + 1
  | .agg parts => uptoBulkAll parts + 1
  | .iface _ d => uptoBulk d + 1
  | .map entries => uptoBulkEntries entries + 1
  | .held _ => 1
def uptoBulkAll {H : Type} : List (DataW H) → Nat
  | [] => 0
  | d :: r => uptoBulk d + uptoBulkAll r
def uptoBulkEntries {H : Type} : List (Lit × DataW H) → Nat
  | [] => 0
  | x :: r => uptoBulkEntry x + uptoBulkEntries r
def uptoBulkEntry {H : Type} : Lit × DataW H → Nat
  | (.string bytes, d) => bytes.length + uptoBulk d + 1
  | (_, d) => uptoBulk d + 1
 end
def uptoSmall : (H : Type) → List (DataW H) → Bool := fun _ ds => decide (uptoBulkAll ds ≤ 1048576)
def OpenSpec.upto (s : _root_.Go.ChangeSpec) : _root_.Go.OpenSpec := { _root_.Go.OpenSpec.ofChange s with cond := some uptoSmall }

/-- 'pasodoblelaw13.JournalStacks', WHERE WHAT IT READS IS OF BULK AT MOST 1048576: true; the input reads as it did. -/
def journalStacksUptoRow : OpenClaim := { program := "ytioeafjlbdpjoaadoor", sum := "60aac2dbe000aa640b544834dd962df2cfbeecbaaaf737c4b9bcf20c01d197fd", func := "pasodoble/pasodoblelaw13.JournalStacks", spec := "journalStacks", inPlace := ["internal/reflectlite.TypeOf"], unfollowed := true, recurses := true, named := ["pasodoble/api.ErrState", "pasodoble/api.ErrRange", "pasodoble/api.ErrArg", "pasodoble/api.ErrNil", "pasodoble/api.ErrFull"], plainKeys := false, apart := false, laid := [("pasodoble/api.ErrArg", laid_pasodoble_api_ErrArg), ("pasodoble/api.ErrNil", laid_pasodoble_api_ErrNil), ("pasodoble/api.ErrFull", laid_pasodoble_api_ErrFull), ("pasodoble/api.ErrState", laid_pasodoble_api_ErrState), ("pasodoble/api.ErrRange", laid_pasodoble_api_ErrRange)], narrowed := true }
def JournalStacksUptoSaid : Prop := journalStacksUptoRow.holds Tryd.pinned (OpenSpec.upto journalStacksSpec)

/-- 'pasodoblelaw13.JournalForgets', WHERE WHAT IT READS IS OF BULK AT MOST 1048576: true; the input reads as it did. -/
def journalForgetsUptoRow : OpenClaim := { program := "ytioeafjlbdpjoaadoor", sum := "60aac2dbe000aa640b544834dd962df2cfbeecbaaaf737c4b9bcf20c01d197fd", func := "pasodoble/pasodoblelaw13.JournalForgets", spec := "journalForgets", inPlace := ["internal/reflectlite.TypeOf"], unfollowed := true, recurses := true, named := ["pasodoble/api.ErrNil", "pasodoble/api.ErrState", "pasodoble/api.ErrRange", "pasodoble/api.ErrArg", "pasodoble/api.ErrFull"], plainKeys := false, apart := false, laid := [("pasodoble/api.ErrArg", laid_pasodoble_api_ErrArg), ("pasodoble/api.ErrNil", laid_pasodoble_api_ErrNil), ("pasodoble/api.ErrFull", laid_pasodoble_api_ErrFull), ("pasodoble/api.ErrState", laid_pasodoble_api_ErrState), ("pasodoble/api.ErrRange", laid_pasodoble_api_ErrRange)], narrowed := true }
def JournalForgetsUptoSaid : Prop := journalForgetsUptoRow.holds Tryd.pinned (OpenSpec.upto journalForgetsSpec)

/-- 'pasodoblelaw13.JournalOnce', WHERE WHAT IT READS IS OF BULK AT MOST 1048576: true; the input reads as it did. -/
def journalOnceUptoRow : OpenClaim := { program := "ytioeafjlbdpjoaadoor", sum := "60aac2dbe000aa640b544834dd962df2cfbeecbaaaf737c4b9bcf20c01d197fd", func := "pasodoble/pasodoblelaw13.JournalOnce", spec := "journalOnce", inPlace := ["internal/reflectlite.TypeOf"], unfollowed := true, recurses := true, named := ["pasodoble/api.ErrState", "pasodoble/api.ErrRange", "pasodoble/api.ErrArg", "pasodoble/api.ErrNil", "pasodoble/api.ErrFull"], plainKeys := false, apart := false, laid := [("pasodoble/api.ErrArg", laid_pasodoble_api_ErrArg), ("pasodoble/api.ErrNil", laid_pasodoble_api_ErrNil), ("pasodoble/api.ErrFull", laid_pasodoble_api_ErrFull), ("pasodoble/api.ErrState", laid_pasodoble_api_ErrState), ("pasodoble/api.ErrRange", laid_pasodoble_api_ErrRange)], narrowed := true }
def JournalOnceUptoSaid : Prop := journalOnceUptoRow.holds Tryd.pinned (OpenSpec.upto journalOnceSpec)

/-- 'pasodoblelaw13.JournalExact', WHERE WHAT IT READS IS OF BULK AT MOST 1048576: true; the input reads as it did. -/
def journalExactUptoRow : OpenClaim := { program := "ytioeafjlbdpjoaadoor", sum := "60aac2dbe000aa640b544834dd962df2cfbeecbaaaf737c4b9bcf20c01d197fd", func := "pasodoble/pasodoblelaw13.JournalExact", spec := "journalExact", inPlace := ["internal/reflectlite.TypeOf"], unfollowed := true, recurses := true, named := ["pasodoble/api.ErrArg", "pasodoble/api.ErrState", "pasodoble/api.ErrRange", "pasodoble/api.ErrNil", "pasodoble/api.ErrFull", "pasodoble/api.ErrForm", "pasodoble/api.ErrLong", "pasodoble/api.ErrSum", "pasodoble/api.ErrNone", "pasodoble/api.ErrTwice", "pasodoble/api.ErrName", "pasodoble/api.ErrCycle", "pasodoble/api.ErrStack", "pasodoble/api.ErrJump", "pasodoble/api.ErrOp", "pasodoble/api.ErrFuel", "pasodoble/api.ErrDead", "pasodoble/api.ErrWord"], plainKeys := false, apart := false, laid := [("pasodoble/api.ErrArg", laid_pasodoble_api_ErrArg), ("pasodoble/api.ErrNil", laid_pasodoble_api_ErrNil), ("pasodoble/api.ErrForm", laid_pasodoble_api_ErrForm), ("pasodoble/api.ErrLong", laid_pasodoble_api_ErrLong), ("pasodoble/api.ErrSum", laid_pasodoble_api_ErrSum), ("pasodoble/api.ErrFull", laid_pasodoble_api_ErrFull), ("pasodoble/api.ErrNone", laid_pasodoble_api_ErrNone), ("pasodoble/api.ErrState", laid_pasodoble_api_ErrState), ("pasodoble/api.ErrTwice", laid_pasodoble_api_ErrTwice), ("pasodoble/api.ErrName", laid_pasodoble_api_ErrName), ("pasodoble/api.ErrCycle", laid_pasodoble_api_ErrCycle), ("pasodoble/api.ErrStack", laid_pasodoble_api_ErrStack), ("pasodoble/api.ErrJump", laid_pasodoble_api_ErrJump), ("pasodoble/api.ErrOp", laid_pasodoble_api_ErrOp), ("pasodoble/api.ErrFuel", laid_pasodoble_api_ErrFuel), ("pasodoble/api.ErrRange", laid_pasodoble_api_ErrRange), ("pasodoble/api.ErrDead", laid_pasodoble_api_ErrDead), ("pasodoble/api.ErrWord", laid_pasodoble_api_ErrWord)], narrowed := true }
def JournalExactUptoSaid : Prop := journalExactUptoRow.holds Tryd.pinned (OpenSpec.upto journalExactSpec)

end Rows
end Go.Proofs.YtioeafjlbdpjoaaDoor
