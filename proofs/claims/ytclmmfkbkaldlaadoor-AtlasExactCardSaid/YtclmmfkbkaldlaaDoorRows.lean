/-
  NARROWER THAN 'FOR EVERY INPUT', by the rows' own cells (each row's printed sentence says how): AtlasOnce: laid · AtlasTurns: laid · AtlasWays: laid · AtlasMatches: laid · AtlasExact: laid.
  DERIVED. THE GIVEN ROWS OF THIS SEAT. 5 by the template 'for every input the law returns true; each argument reads behind the call as it read before'; 0 by the template 'total and deterministic' (their statements: YtclmmfkbkaldlaaDoorTotals.lean).
  GIVEN WITH THE SEED: the statements are not yours to turn. If you find one false, say at which input.
  Laid BY PROGRAM, IN A SANDBOX (cutbox-rows.mjs): the forced cells as the released guide's own fill.sh prints them over the translation 0c9d24be8a248736… (all of the seat's roots in one cut). By AI agents, Wed Nov 11 2026. No macro, syntax, notation, axiom, sorry.
-/
import Derived.Test.YtclmmfkbkaldlaaDoorChecked
import GoSem.Claim
import GoSem.ClaimJoined
import GoSem.ClaimMapViews
import Derived.JoinedTies
import Derived.KernelRfl
namespace Go.Proofs.YtclmmfkbkaldlaaDoor
/- THE CELL 'sum', in the pinned program and in every row, IS THE sha256 OF THE DUMP (.gsa) THAT YtclmmfkbkaldlaaDoorProg.lean LOADS. Nothing in Lean hashes anything: it is a label: what it is worth is what the hold of that sum in a sandbox is worth. -/
noncomputable def Tryd.pinned : Pinned := { name := "ytclmmfkbkaldlaadoor", sum := "0c9d24be8a2487369e94f642c9812183ff6ff17947f879070ffac681e7e1a917", checked := Tryd.checked }
namespace Rows
def none {H : Type} : Left H := { results := [], args := [] }

/- WHAT THE LISTED PACKAGE-LEVEL VARIABLES READ AS WHEN THE CALL BEGINS. Each datum BY PROGRAM (the guide's laid-datum.mjs) off the statement by which the dump's own 'gosem.cut.vars' lays the variable. In a bare row this is a premise. The card (YtclmmfkbkaldlaaDoorCards.lean) ties it to the program's text. -/
def laid_math_bits_deBruijn32tab {H : Type} : DataW H := .agg [.lit (.int .u8 0), .lit (.int .u8 1), .lit (.int .u8 28), .lit (.int .u8 2), .lit (.int .u8 29), .lit (.int .u8 14), .lit (.int .u8 24), .lit (.int .u8 3), .lit (.int .u8 30), .lit (.int .u8 22), .lit (.int .u8 20), .lit (.int .u8 15), .lit (.int .u8 25), .lit (.int .u8 17), .lit (.int .u8 4), .lit (.int .u8 8), .lit (.int .u8 31), .lit (.int .u8 27), .lit (.int .u8 13), .lit (.int .u8 23), .lit (.int .u8 21), .lit (.int .u8 19), .lit (.int .u8 16), .lit (.int .u8 7), .lit (.int .u8 26), .lit (.int .u8 12), .lit (.int .u8 18), .lit (.int .u8 6), .lit (.int .u8 11), .lit (.int .u8 5), .lit (.int .u8 10), .lit (.int .u8 9)]
def laid_pasodoble_api_ErrArg {H : Type} : DataW H := .iface "*errors.errorString" (.ptr (.agg [.lit (.string [97, 110, 32, 97, 114, 103, 117, 109, 101, 110, 116, 32, 116, 104, 97, 116, 32, 99, 97, 110, 39, 116, 32, 98, 101])]))
def laid_pasodoble_api_ErrNil {H : Type} : DataW H := .iface "*errors.errorString" (.ptr (.agg [.lit (.string [97, 32, 110, 105, 108, 32, 116, 104, 105, 110, 103])]))
def laid_pasodoble_api_ErrNone {H : Type} : DataW H := .iface "*errors.errorString" (.ptr (.agg [.lit (.string [116, 104, 101, 114, 101, 32, 105, 115, 32, 110, 111, 110, 101])]))
def laid_pasodoble_api_ErrForm {H : Type} : DataW H := .iface "*errors.errorString" (.ptr (.agg [.lit (.string [98, 121, 116, 101, 115, 32, 111, 102, 32, 110, 111, 32, 102, 111, 114, 109])]))
def laid_pasodoble_api_ErrLong {H : Type} : DataW H := .iface "*errors.errorString" (.ptr (.agg [.lit (.string [116, 111, 111, 32, 108, 111, 110, 103])]))
def laid_pasodoble_api_ErrSum {H : Type} : DataW H := .iface "*errors.errorString" (.ptr (.agg [.lit (.string [97, 110, 111, 116, 104, 101, 114, 32, 115, 117, 109])]))
def laid_pasodoble_api_ErrFull {H : Type} : DataW H := .iface "*errors.errorString" (.ptr (.agg [.lit (.string [110, 111, 32, 114, 111, 111, 109])]))
def laid_pasodoble_api_ErrState {H : Type} : DataW H := .iface "*errors.errorString" (.ptr (.agg [.lit (.string [110, 111, 116, 32, 110, 111, 119])]))
def laid_pasodoble_api_ErrTwice {H : Type} : DataW H := .iface "*errors.errorString" (.ptr (.agg [.lit (.string [116, 104, 101, 114, 101, 32, 97, 108, 114, 101, 97, 100, 121])]))
def laid_pasodoble_api_ErrName {H : Type} : DataW H := .iface "*errors.errorString" (.ptr (.agg [.lit (.string [110, 111, 32, 110, 97, 109, 101])]))
def laid_pasodoble_api_ErrCycle {H : Type} : DataW H := .iface "*errors.errorString" (.ptr (.agg [.lit (.string [101, 97, 99, 104, 32, 97, 104, 101, 97, 100, 32, 111, 102, 32, 116, 104, 101, 32, 111, 116, 104, 101, 114])]))
def laid_pasodoble_api_ErrStack {H : Type} : DataW H := .iface "*errors.errorString" (.ptr (.agg [.lit (.string [116, 111, 111, 32, 108, 105, 116, 116, 108, 101, 32, 111, 114, 32, 116, 111, 111, 32, 109, 117, 99, 104, 32, 111, 110, 32, 97, 32, 115, 116, 97, 99, 107])]))
def laid_pasodoble_api_ErrJump {H : Type} : DataW H := .iface "*errors.errorString" (.ptr (.agg [.lit (.string [97, 32, 106, 117, 109, 112, 32, 116, 111, 32, 110, 111, 119, 104, 101, 114, 101])]))
def laid_pasodoble_api_ErrOp {H : Type} : DataW H := .iface "*errors.errorString" (.ptr (.agg [.lit (.string [110, 111, 32, 111, 112, 101, 114, 97, 116, 105, 111, 110])]))
def laid_pasodoble_api_ErrFuel {H : Type} : DataW H := .iface "*errors.errorString" (.ptr (.agg [.lit (.string [110, 111, 32, 102, 117, 101, 108, 32, 108, 101, 102, 116])]))
def laid_pasodoble_api_ErrRange {H : Type} : DataW H := .iface "*errors.errorString" (.ptr (.agg [.lit (.string [97, 32, 102, 114, 97, 109, 101, 32, 116, 104, 97, 116, 32, 105, 115, 110, 39, 116, 32, 107, 101, 112, 116])]))
def laid_pasodoble_api_ErrDead {H : Type} : DataW H := .iface "*errors.errorString" (.ptr (.agg [.lit (.string [97, 110, 32, 101, 110, 116, 105, 116, 121, 32, 116, 104, 97, 116, 32, 105, 115, 110, 39, 116, 32, 116, 104, 101, 114, 101])]))
def laid_pasodoble_api_ErrWord {H : Type} : DataW H := .iface "*errors.errorString" (.ptr (.agg [.lit (.string [110, 111, 32, 119, 111, 114, 100])]))

/-- 'pasodoblelaw08.AtlasOnce': WHATEVER THE INPUT: true; the input reads as it did. -/
def atlasOnceSpec : ChangeSpec := { name := "atlasOnce", fn := fun _ => fun
  | [d] => { results := [.lit (.bool true)], args := [d] }
  | _ => none }
def atlasOnceRow : OpenClaim := { program := "ytclmmfkbkaldlaadoor", sum := "0c9d24be8a2487369e94f642c9812183ff6ff17947f879070ffac681e7e1a917", func := "pasodoble/pasodoblelaw08.AtlasOnce", spec := "atlasOnce", inPlace := ["internal/reflectlite.TypeOf"], unfollowed := true, recurses := true, named := ["pasodoble/api.ErrArg", "pasodoble/api.ErrNone", "pasodoble/api.ErrNil", "math/bits.deBruijn32tab"], apart := false, laid := [("math/bits.deBruijn32tab", laid_math_bits_deBruijn32tab), ("pasodoble/api.ErrArg", laid_pasodoble_api_ErrArg), ("pasodoble/api.ErrNil", laid_pasodoble_api_ErrNil), ("pasodoble/api.ErrNone", laid_pasodoble_api_ErrNone)] }
def AtlasOnceSaid : Prop := atlasOnceRow.holds Tryd.pinned (OpenSpec.ofChange atlasOnceSpec)

/-- ITS FALSE NEIGHBOUR: 'it returns false'. Refute it at one input. -/
def atlasOnceWrong : ChangeSpec := { name := "atlasOnce", fn := fun _ => fun
  | [d] => { results := [.lit (.bool false)], args := [d] }
  | _ => none }
def AtlasOnceWrongFalsely : Prop := atlasOnceRow.holds Tryd.pinned (OpenSpec.ofChange atlasOnceWrong)

/-- 'pasodoblelaw08.AtlasTurns': WHATEVER THE INPUT: true; the input reads as it did. -/
def atlasTurnsSpec : ChangeSpec := { name := "atlasTurns", fn := fun _ => fun
  | [d1, d2, d3] => { results := [.lit (.bool true)], args := [d1, d2, d3] }
  | _ => none }
def atlasTurnsRow : OpenClaim := { program := "ytclmmfkbkaldlaadoor", sum := "0c9d24be8a2487369e94f642c9812183ff6ff17947f879070ffac681e7e1a917", func := "pasodoble/pasodoblelaw08.AtlasTurns", spec := "atlasTurns", inPlace := ["internal/reflectlite.TypeOf"], unfollowed := true, recurses := true, named := ["pasodoble/api.ErrArg", "pasodoble/api.ErrNone", "pasodoble/api.ErrNil", "math/bits.deBruijn32tab"], apart := false, laid := [("math/bits.deBruijn32tab", laid_math_bits_deBruijn32tab), ("pasodoble/api.ErrArg", laid_pasodoble_api_ErrArg), ("pasodoble/api.ErrNil", laid_pasodoble_api_ErrNil), ("pasodoble/api.ErrNone", laid_pasodoble_api_ErrNone)] }
def AtlasTurnsSaid : Prop := atlasTurnsRow.holds Tryd.pinned (OpenSpec.ofChange atlasTurnsSpec)

/-- ITS FALSE NEIGHBOUR: 'it returns false'. Refute it at one input. -/
def atlasTurnsWrong : ChangeSpec := { name := "atlasTurns", fn := fun _ => fun
  | [d1, d2, d3] => { results := [.lit (.bool false)], args := [d1, d2, d3] }
  | _ => none }
def AtlasTurnsWrongFalsely : Prop := atlasTurnsRow.holds Tryd.pinned (OpenSpec.ofChange atlasTurnsWrong)

/-- 'pasodoblelaw08.AtlasWays': WHATEVER THE INPUT: true; the input reads as it did. -/
def atlasWaysSpec : ChangeSpec := { name := "atlasWays", fn := fun _ => fun
  | [d1, d2] => { results := [.lit (.bool true)], args := [d1, d2] }
  | _ => none }
def atlasWaysRow : OpenClaim := { program := "ytclmmfkbkaldlaadoor", sum := "0c9d24be8a2487369e94f642c9812183ff6ff17947f879070ffac681e7e1a917", func := "pasodoble/pasodoblelaw08.AtlasWays", spec := "atlasWays", inPlace := ["internal/reflectlite.TypeOf"], unfollowed := true, recurses := true, named := ["pasodoble/api.ErrNil", "pasodoble/api.ErrArg", "pasodoble/api.ErrNone", "math/bits.deBruijn32tab"], apart := false, laid := [("math/bits.deBruijn32tab", laid_math_bits_deBruijn32tab), ("pasodoble/api.ErrArg", laid_pasodoble_api_ErrArg), ("pasodoble/api.ErrNil", laid_pasodoble_api_ErrNil), ("pasodoble/api.ErrNone", laid_pasodoble_api_ErrNone)] }
def AtlasWaysSaid : Prop := atlasWaysRow.holds Tryd.pinned (OpenSpec.ofChange atlasWaysSpec)

/-- ITS FALSE NEIGHBOUR: 'it returns false'. Refute it at one input. -/
def atlasWaysWrong : ChangeSpec := { name := "atlasWays", fn := fun _ => fun
  | [d1, d2] => { results := [.lit (.bool false)], args := [d1, d2] }
  | _ => none }
def AtlasWaysWrongFalsely : Prop := atlasWaysRow.holds Tryd.pinned (OpenSpec.ofChange atlasWaysWrong)

/-- 'pasodoblelaw08.AtlasMatches': WHATEVER THE INPUT: true; the input reads as it did. -/
def atlasMatchesSpec : ChangeSpec := { name := "atlasMatches", fn := fun _ => fun
  | [d1, d2, d3] => { results := [.lit (.bool true)], args := [d1, d2, d3] }
  | _ => none }
def atlasMatchesRow : OpenClaim := { program := "ytclmmfkbkaldlaadoor", sum := "0c9d24be8a2487369e94f642c9812183ff6ff17947f879070ffac681e7e1a917", func := "pasodoble/pasodoblelaw08.AtlasMatches", spec := "atlasMatches", inPlace := ["internal/reflectlite.TypeOf"], unfollowed := true, recurses := true, named := ["pasodoble/api.ErrArg", "pasodoble/api.ErrNone", "pasodoble/api.ErrNil", "math/bits.deBruijn32tab"], apart := false, laid := [("math/bits.deBruijn32tab", laid_math_bits_deBruijn32tab), ("pasodoble/api.ErrArg", laid_pasodoble_api_ErrArg), ("pasodoble/api.ErrNil", laid_pasodoble_api_ErrNil), ("pasodoble/api.ErrNone", laid_pasodoble_api_ErrNone)] }
def AtlasMatchesSaid : Prop := atlasMatchesRow.holds Tryd.pinned (OpenSpec.ofChange atlasMatchesSpec)

/-- ITS FALSE NEIGHBOUR: 'it returns false'. Refute it at one input. -/
def atlasMatchesWrong : ChangeSpec := { name := "atlasMatches", fn := fun _ => fun
  | [d1, d2, d3] => { results := [.lit (.bool false)], args := [d1, d2, d3] }
  | _ => none }
def AtlasMatchesWrongFalsely : Prop := atlasMatchesRow.holds Tryd.pinned (OpenSpec.ofChange atlasMatchesWrong)

/-- 'pasodoblelaw08.AtlasExact': WHATEVER THE INPUT: true; the input reads as it did. -/
def atlasExactSpec : ChangeSpec := { name := "atlasExact", fn := fun _ => fun
  | [d1, d2] => { results := [.lit (.bool true)], args := [d1, d2] }
  | _ => none }
def atlasExactRow : OpenClaim := { program := "ytclmmfkbkaldlaadoor", sum := "0c9d24be8a2487369e94f642c9812183ff6ff17947f879070ffac681e7e1a917", func := "pasodoble/pasodoblelaw08.AtlasExact", spec := "atlasExact", inPlace := ["internal/reflectlite.TypeOf"], unfollowed := true, recurses := true, named := ["pasodoble/api.ErrArg", "pasodoble/api.ErrNone", "pasodoble/api.ErrNil", "math/bits.deBruijn32tab", "pasodoble/api.ErrForm", "pasodoble/api.ErrLong", "pasodoble/api.ErrSum", "pasodoble/api.ErrFull", "pasodoble/api.ErrState", "pasodoble/api.ErrTwice", "pasodoble/api.ErrName", "pasodoble/api.ErrCycle", "pasodoble/api.ErrStack", "pasodoble/api.ErrJump", "pasodoble/api.ErrOp", "pasodoble/api.ErrFuel", "pasodoble/api.ErrRange", "pasodoble/api.ErrDead", "pasodoble/api.ErrWord"], apart := false, laid := [("math/bits.deBruijn32tab", laid_math_bits_deBruijn32tab), ("pasodoble/api.ErrArg", laid_pasodoble_api_ErrArg), ("pasodoble/api.ErrNil", laid_pasodoble_api_ErrNil), ("pasodoble/api.ErrForm", laid_pasodoble_api_ErrForm), ("pasodoble/api.ErrLong", laid_pasodoble_api_ErrLong), ("pasodoble/api.ErrSum", laid_pasodoble_api_ErrSum), ("pasodoble/api.ErrFull", laid_pasodoble_api_ErrFull), ("pasodoble/api.ErrNone", laid_pasodoble_api_ErrNone), ("pasodoble/api.ErrState", laid_pasodoble_api_ErrState), ("pasodoble/api.ErrTwice", laid_pasodoble_api_ErrTwice), ("pasodoble/api.ErrName", laid_pasodoble_api_ErrName), ("pasodoble/api.ErrCycle", laid_pasodoble_api_ErrCycle), ("pasodoble/api.ErrStack", laid_pasodoble_api_ErrStack), ("pasodoble/api.ErrJump", laid_pasodoble_api_ErrJump), ("pasodoble/api.ErrOp", laid_pasodoble_api_ErrOp), ("pasodoble/api.ErrFuel", laid_pasodoble_api_ErrFuel), ("pasodoble/api.ErrRange", laid_pasodoble_api_ErrRange), ("pasodoble/api.ErrDead", laid_pasodoble_api_ErrDead), ("pasodoble/api.ErrWord", laid_pasodoble_api_ErrWord)] }
def AtlasExactSaid : Prop := atlasExactRow.holds Tryd.pinned (OpenSpec.ofChange atlasExactSpec)

/-- ITS FALSE NEIGHBOUR: 'it returns false'. Refute it at one input. -/
def atlasExactWrong : ChangeSpec := { name := "atlasExact", fn := fun _ => fun
  | [d1, d2] => { results := [.lit (.bool false)], args := [d1, d2] }
  | _ => none }
def AtlasExactWrongFalsely : Prop := atlasExactRow.holds Tryd.pinned (OpenSpec.ofChange atlasExactWrong)

/- THE SECOND FORM. 'bulk': how many values and letters a reading holds, each counted each time it is reached (what is shared counts as often as it is met; a slice's spare places count too). A statement '..UptoSaid' is the law's where the arguments, and the package variables that the reading takes, are together of bulk at most 1048576: NARROWER than '..Said'. Prove '..Said' where nothing that the law and all that it calls make is longer than what came in: it says more and counts as full. Else prove '..UptoSaid'. A law counts once. -/
mutual
def uptoBulk {H : Type} : DataW H → Nat
  | .lit (.string bytes) => bytes.length + 1
  | .lit _ => 1
  | .nil => 1
  | .ptr d => uptoBulk d + 1
  | .slice elems spare => uptoBulkAll elems + uptoBulkAll spare + 1
  | .agg parts => uptoBulkAll parts + 1
  | .iface _ d => uptoBulk d + 1
  | .map entries => uptoBulkEntries entries + 1
  | .held _ => 1
def uptoBulkAll {H : Type} : List (DataW H) → Nat
  | [] => 0
  | d :: r => uptoBulk d + uptoBulkAll r
def uptoBulkEntries {H : Type} : List (Lit × DataW H) → Nat
  | [] => 0
  | x :: r => uptoBulkEntry x + uptoBulkEntries r
def uptoBulkEntry {H : Type} : Lit × DataW H → Nat
  | (.string bytes, d) => bytes.length + uptoBulk d + 1
  | (_, d) => uptoBulk d + 1
 end
def uptoSmall : (H : Type) → List (DataW H) → Bool := fun _ ds => decide (uptoBulkAll ds ≤ 1048576)
def OpenSpec.upto (s : _root_.Go.ChangeSpec) : _root_.Go.OpenSpec := { _root_.Go.OpenSpec.ofChange s with cond := some uptoSmall }

/-- 'pasodoblelaw08.AtlasOnce', WHERE WHAT IT READS IS OF BULK AT MOST 1048576: true; the input reads as it did. -/
def atlasOnceUptoRow : OpenClaim := { program := "ytclmmfkbkaldlaadoor", sum := "0c9d24be8a2487369e94f642c9812183ff6ff17947f879070ffac681e7e1a917", func := "pasodoble/pasodoblelaw08.AtlasOnce", spec := "atlasOnce", inPlace := ["internal/reflectlite.TypeOf"], unfollowed := true, recurses := true, named := ["pasodoble/api.ErrArg", "pasodoble/api.ErrNone", "pasodoble/api.ErrNil", "math/bits.deBruijn32tab"], apart := false, laid := [("math/bits.deBruijn32tab", laid_math_bits_deBruijn32tab), ("pasodoble/api.ErrArg", laid_pasodoble_api_ErrArg), ("pasodoble/api.ErrNil", laid_pasodoble_api_ErrNil), ("pasodoble/api.ErrNone", laid_pasodoble_api_ErrNone)], narrowed := true }
def AtlasOnceUptoSaid : Prop := atlasOnceUptoRow.holds Tryd.pinned (OpenSpec.upto atlasOnceSpec)

/-- 'pasodoblelaw08.AtlasTurns', WHERE WHAT IT READS IS OF BULK AT MOST 1048576: true; the input reads as it did. -/
def atlasTurnsUptoRow : OpenClaim := { program := "ytclmmfkbkaldlaadoor", sum := "0c9d24be8a2487369e94f642c9812183ff6ff17947f879070ffac681e7e1a917", func := "pasodoble/pasodoblelaw08.AtlasTurns", spec := "atlasTurns", inPlace := ["internal/reflectlite.TypeOf"], unfollowed := true, recurses := true, named := ["pasodoble/api.ErrArg", "pasodoble/api.ErrNone", "pasodoble/api.ErrNil", "math/bits.deBruijn32tab"], apart := false, laid := [("math/bits.deBruijn32tab", laid_math_bits_deBruijn32tab), ("pasodoble/api.ErrArg", laid_pasodoble_api_ErrArg), ("pasodoble/api.ErrNil", laid_pasodoble_api_ErrNil), ("pasodoble/api.ErrNone", laid_pasodoble_api_ErrNone)], narrowed := true }
def AtlasTurnsUptoSaid : Prop := atlasTurnsUptoRow.holds Tryd.pinned (OpenSpec.upto atlasTurnsSpec)

/-- 'pasodoblelaw08.AtlasWays', WHERE WHAT IT READS IS OF BULK AT MOST 1048576: true; the input reads as it did. -/
def atlasWaysUptoRow : OpenClaim := { program := "ytclmmfkbkaldlaadoor", sum := "0c9d24be8a2487369e94f642c9812183ff6ff17947f879070ffac681e7e1a917", func := "pasodoble/pasodoblelaw08.AtlasWays", spec := "atlasWays", inPlace := ["internal/reflectlite.TypeOf"], unfollowed := true, recurses := true, named := ["pasodoble/api.ErrNil", "pasodoble/api.ErrArg", "pasodoble/api.ErrNone", "math/bits.deBruijn32tab"], apart := false, laid := [("math/bits.deBruijn32tab", laid_math_bits_deBruijn32tab), ("pasodoble/api.ErrArg", laid_pasodoble_api_ErrArg), ("pasodoble/api.ErrNil", laid_pasodoble_api_ErrNil), ("pasodoble/api.ErrNone", laid_pasodoble_api_ErrNone)], narrowed := true }
def AtlasWaysUptoSaid : Prop := atlasWaysUptoRow.holds Tryd.pinned (OpenSpec.upto atlasWaysSpec)

/-- 'pasodoblelaw08.AtlasMatches', WHERE WHAT IT READS IS OF BULK AT MOST 1048576: true; the input reads as it did. -/
def atlasMatchesUptoRow : OpenClaim := { program := "ytclmmfkbkaldlaadoor", sum := "0c9d24be8a2487369e94f642c9812183ff6ff17947f879070ffac681e7e1a917", func := "pasodoble/pasodoblelaw08.AtlasMatches", spec := "atlasMatches", inPlace := ["internal/reflectlite.TypeOf"], unfollowed := true, recurses := true, named := ["pasodoble/api.ErrArg", "pasodoble/api.ErrNone", "pasodoble/api.ErrNil", "math/bits.deBruijn32tab"], apart := false, laid := [("math/bits.deBruijn32tab", laid_math_bits_deBruijn32tab), ("pasodoble/api.ErrArg", laid_pasodoble_api_ErrArg), ("pasodoble/api.ErrNil", laid_pasodoble_api_ErrNil), ("pasodoble/api.ErrNone", laid_pasodoble_api_ErrNone)], narrowed := true }
def AtlasMatchesUptoSaid : Prop := atlasMatchesUptoRow.holds Tryd.pinned (OpenSpec.upto atlasMatchesSpec)

/-- 'pasodoblelaw08.AtlasExact', WHERE WHAT IT READS IS OF BULK AT MOST 1048576: true; the input reads as it did. -/
def atlasExactUptoRow : OpenClaim := { program := "ytclmmfkbkaldlaadoor", sum := "0c9d24be8a2487369e94f642c9812183ff6ff17947f879070ffac681e7e1a917", func := "pasodoble/pasodoblelaw08.AtlasExact", spec := "atlasExact", inPlace := ["internal/reflectlite.TypeOf"], unfollowed := true, recurses := true, named := ["pasodoble/api.ErrArg", "pasodoble/api.ErrNone", "pasodoble/api.ErrNil", "math/bits.deBruijn32tab", "pasodoble/api.ErrForm", "pasodoble/api.ErrLong", "pasodoble/api.ErrSum", "pasodoble/api.ErrFull", "pasodoble/api.ErrState", "pasodoble/api.ErrTwice", "pasodoble/api.ErrName", "pasodoble/api.ErrCycle", "pasodoble/api.ErrStack", "pasodoble/api.ErrJump", "pasodoble/api.ErrOp", "pasodoble/api.ErrFuel", "pasodoble/api.ErrRange", "pasodoble/api.ErrDead", "pasodoble/api.ErrWord"], apart := false, laid := [("math/bits.deBruijn32tab", laid_math_bits_deBruijn32tab), ("pasodoble/api.ErrArg", laid_pasodoble_api_ErrArg), ("pasodoble/api.ErrNil", laid_pasodoble_api_ErrNil), ("pasodoble/api.ErrForm", laid_pasodoble_api_ErrForm), ("pasodoble/api.ErrLong", laid_pasodoble_api_ErrLong), ("pasodoble/api.ErrSum", laid_pasodoble_api_ErrSum), ("pasodoble/api.ErrFull", laid_pasodoble_api_ErrFull), ("pasodoble/api.ErrNone", laid_pasodoble_api_ErrNone), ("pasodoble/api.ErrState", laid_pasodoble_api_ErrState), ("pasodoble/api.ErrTwice", laid_pasodoble_api_ErrTwice), ("pasodoble/api.ErrName", laid_pasodoble_api_ErrName), ("pasodoble/api.ErrCycle", laid_pasodoble_api_ErrCycle), ("pasodoble/api.ErrStack", laid_pasodoble_api_ErrStack), ("pasodoble/api.ErrJump", laid_pasodoble_api_ErrJump), ("pasodoble/api.ErrOp", laid_pasodoble_api_ErrOp), ("pasodoble/api.ErrFuel", laid_pasodoble_api_ErrFuel), ("pasodoble/api.ErrRange", laid_pasodoble_api_ErrRange), ("pasodoble/api.ErrDead", laid_pasodoble_api_ErrDead), ("pasodoble/api.ErrWord", laid_pasodoble_api_ErrWord)], narrowed := true }
def AtlasExactUptoSaid : Prop := atlasExactUptoRow.holds Tryd.pinned (OpenSpec.upto atlasExactSpec)

end Rows
end Go.Proofs.YtclmmfkbkaldlaaDoor
