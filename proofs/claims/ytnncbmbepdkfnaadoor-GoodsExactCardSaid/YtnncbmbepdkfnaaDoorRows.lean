/-
  NARROWER THAN 'FOR EVERY INPUT', by the rows' own cells (each row's printed sentence says how): GoodsStays: laid · GoodsBack: laid · GoodsExact: laid.
  DERIVED. THE GIVEN ROWS OF THIS SEAT. 3 by the template 'for every input the law returns true; each argument reads behind the call as it read before'; 0 by the template 'total and deterministic' (their statements: YtnncbmbepdkfnaaDoorTotals.lean).
  GIVEN WITH THE SEED: the statements are not yours to turn. If you find one false, say at which input.
  Laid BY PROGRAM, IN A SANDBOX (cutbox-rows.mjs): the forced cells as the released guide's own fill.sh prints them over the translation a3aee9f3ac7f5e6d… (all of the seat's roots in one cut). By AI agents, Wed Nov 11 2026. No macro, syntax, notation, axiom, sorry.
-/
import Derived.Test.YtnncbmbepdkfnaaDoorChecked
import GoSem.Claim
import GoSem.ClaimJoined
import GoSem.ClaimMapViews
import Derived.JoinedTies
import Derived.KernelRfl
namespace Go.Proofs.YtnncbmbepdkfnaaDoor
/- THE CELL 'sum', in the pinned program and in every row, IS THE sha256 OF THE DUMP (.gsa) THAT YtnncbmbepdkfnaaDoorProg.lean LOADS. Nothing in Lean hashes anything: it is a label: what it is worth is what the hold of that sum in a sandbox is worth. -/
noncomputable def Tryd.pinned : Pinned := { name := "ytnncbmbepdkfnaadoor", sum := "a3aee9f3ac7f5e6d7b0c82a8437956f8af5d2ae4085ae8cfe9351b6fe9f0deaf", checked := Tryd.checked }
namespace Rows
def none {H : Type} : Left H := { results := [], args := [] }

/- WHAT THE LISTED PACKAGE-LEVEL VARIABLES READ AS WHEN THE CALL BEGINS. Each datum BY PROGRAM (the guide's laid-datum.mjs) off the statement by which the dump's own 'gosem.cut.vars' lays the variable. In a bare row this is a premise. The card (YtnncbmbepdkfnaaDoorCards.lean) ties it to the program's text. -/
def laid_math_bits_deBruijn32tab {H : Type} : DataW H := .agg [.lit (.int .u8 0), .lit (.int .u8 1), .lit (.int .u8 28), .lit (.int .u8 2), .lit (.int .u8 29), .lit (.int .u8 14), .lit (.int .u8 24), .lit (.int .u8 3), .lit (.int .u8 30), .lit (.int .u8 22), .lit (.int .u8 20), .lit (.int .u8 15), .lit (.int .u8 25), .lit (.int .u8 17), .lit (.int .u8 4), .lit (.int .u8 8), .lit (.int .u8 31), .lit (.int .u8 27), .lit (.int .u8 13), .lit (.int .u8 23), .lit (.int .u8 21), .lit (.int .u8 19), .lit (.int .u8 16), .lit (.int .u8 7), .lit (.int .u8 26), .lit (.int .u8 12), .lit (.int .u8 18), .lit (.int .u8 6), .lit (.int .u8 11), .lit (.int .u8 5), .lit (.int .u8 10), .lit (.int .u8 9)]
def laid_math_bits_deBruijn64tab {H : Type} : DataW H := .agg [.lit (.int .u8 0), .lit (.int .u8 1), .lit (.int .u8 56), .lit (.int .u8 2), .lit (.int .u8 57), .lit (.int .u8 49), .lit (.int .u8 28), .lit (.int .u8 3), .lit (.int .u8 61), .lit (.int .u8 58), .lit (.int .u8 42), .lit (.int .u8 50), .lit (.int .u8 38), .lit (.int .u8 29), .lit (.int .u8 17), .lit (.int .u8 4), .lit (.int .u8 62), .lit (.int .u8 47), .lit (.int .u8 59), .lit (.int .u8 36), .lit (.int .u8 45), .lit (.int .u8 43), .lit (.int .u8 51), .lit (.int .u8 22), .lit (.int .u8 53), .lit (.int .u8 39), .lit (.int .u8 33), .lit (.int .u8 30), .lit (.int .u8 24), .lit (.int .u8 18), .lit (.int .u8 12), .lit (.int .u8 5), .lit (.int .u8 63), .lit (.int .u8 55), .lit (.int .u8 48), .lit (.int .u8 27), .lit (.int .u8 60), .lit (.int .u8 41), .lit (.int .u8 37), .lit (.int .u8 16), .lit (.int .u8 46), .lit (.int .u8 35), .lit (.int .u8 44), .lit (.int .u8 21), .lit (.int .u8 52), .lit (.int .u8 32), .lit (.int .u8 23), .lit (.int .u8 11), .lit (.int .u8 54), .lit (.int .u8 26), .lit (.int .u8 40), .lit (.int .u8 15), .lit (.int .u8 34), .lit (.int .u8 20), .lit (.int .u8 31), .lit (.int .u8 10), .lit (.int .u8 25), .lit (.int .u8 14), .lit (.int .u8 19), .lit (.int .u8 9), .lit (.int .u8 13), .lit (.int .u8 8), .lit (.int .u8 7), .lit (.int .u8 6)]
def laid_internal_strconv_uint64pow10 {H : Type} : DataW H := .agg [.lit (.int .u64 1), .lit (.int .u64 10), .lit (.int .u64 100), .lit (.int .u64 1000), .lit (.int .u64 10000), .lit (.int .u64 100000), .lit (.int .u64 1000000), .lit (.int .u64 10000000), .lit (.int .u64 100000000), .lit (.int .u64 1000000000), .lit (.int .u64 10000000000), .lit (.int .u64 100000000000), .lit (.int .u64 1000000000000), .lit (.int .u64 10000000000000), .lit (.int .u64 100000000000000), .lit (.int .u64 1000000000000000), .lit (.int .u64 10000000000000000), .lit (.int .u64 100000000000000000), .lit (.int .u64 1000000000000000000), .lit (.int .u64 10000000000000000000)]
def laid_pasodoble_api_ErrArg {H : Type} : DataW H := .iface "*errors.errorString" (.ptr (.agg [.lit (.string [97, 110, 32, 97, 114, 103, 117, 109, 101, 110, 116, 32, 116, 104, 97, 116, 32, 99, 97, 110, 39, 116, 32, 98, 101])]))
def laid_pasodoble_api_ErrNil {H : Type} : DataW H := .iface "*errors.errorString" (.ptr (.agg [.lit (.string [97, 32, 110, 105, 108, 32, 116, 104, 105, 110, 103])]))
def laid_pasodoble_api_ErrLong {H : Type} : DataW H := .iface "*errors.errorString" (.ptr (.agg [.lit (.string [116, 111, 111, 32, 108, 111, 110, 103])]))
def laid_pasodoble_api_ErrNone {H : Type} : DataW H := .iface "*errors.errorString" (.ptr (.agg [.lit (.string [116, 104, 101, 114, 101, 32, 105, 115, 32, 110, 111, 110, 101])]))
def laid_pasodoble_api_ErrTwice {H : Type} : DataW H := .iface "*errors.errorString" (.ptr (.agg [.lit (.string [116, 104, 101, 114, 101, 32, 97, 108, 114, 101, 97, 100, 121])]))
def laid_pasodoble_api_ErrName {H : Type} : DataW H := .iface "*errors.errorString" (.ptr (.agg [.lit (.string [110, 111, 32, 110, 97, 109, 101])]))
def laid_pasodoble_api_ErrForm {H : Type} : DataW H := .iface "*errors.errorString" (.ptr (.agg [.lit (.string [98, 121, 116, 101, 115, 32, 111, 102, 32, 110, 111, 32, 102, 111, 114, 109])]))
def laid_pasodoble_api_ErrSum {H : Type} : DataW H := .iface "*errors.errorString" (.ptr (.agg [.lit (.string [97, 110, 111, 116, 104, 101, 114, 32, 115, 117, 109])]))
def laid_pasodoble_api_ErrFull {H : Type} : DataW H := .iface "*errors.errorString" (.ptr (.agg [.lit (.string [110, 111, 32, 114, 111, 111, 109])]))
def laid_pasodoble_api_ErrState {H : Type} : DataW H := .iface "*errors.errorString" (.ptr (.agg [.lit (.string [110, 111, 116, 32, 110, 111, 119])]))
def laid_pasodoble_api_ErrCycle {H : Type} : DataW H := .iface "*errors.errorString" (.ptr (.agg [.lit (.string [101, 97, 99, 104, 32, 97, 104, 101, 97, 100, 32, 111, 102, 32, 116, 104, 101, 32, 111, 116, 104, 101, 114])]))
def laid_pasodoble_api_ErrStack {H : Type} : DataW H := .iface "*errors.errorString" (.ptr (.agg [.lit (.string [116, 111, 111, 32, 108, 105, 116, 116, 108, 101, 32, 111, 114, 32, 116, 111, 111, 32, 109, 117, 99, 104, 32, 111, 110, 32, 97, 32, 115, 116, 97, 99, 107])]))
def laid_pasodoble_api_ErrJump {H : Type} : DataW H := .iface "*errors.errorString" (.ptr (.agg [.lit (.string [97, 32, 106, 117, 109, 112, 32, 116, 111, 32, 110, 111, 119, 104, 101, 114, 101])]))
def laid_pasodoble_api_ErrOp {H : Type} : DataW H := .iface "*errors.errorString" (.ptr (.agg [.lit (.string [110, 111, 32, 111, 112, 101, 114, 97, 116, 105, 111, 110])]))
def laid_pasodoble_api_ErrFuel {H : Type} : DataW H := .iface "*errors.errorString" (.ptr (.agg [.lit (.string [110, 111, 32, 102, 117, 101, 108, 32, 108, 101, 102, 116])]))
def laid_pasodoble_api_ErrRange {H : Type} : DataW H := .iface "*errors.errorString" (.ptr (.agg [.lit (.string [97, 32, 102, 114, 97, 109, 101, 32, 116, 104, 97, 116, 32, 105, 115, 110, 39, 116, 32, 107, 101, 112, 116])]))
def laid_pasodoble_api_ErrDead {H : Type} : DataW H := .iface "*errors.errorString" (.ptr (.agg [.lit (.string [97, 110, 32, 101, 110, 116, 105, 116, 121, 32, 116, 104, 97, 116, 32, 105, 115, 110, 39, 116, 32, 116, 104, 101, 114, 101])]))
def laid_pasodoble_api_ErrWord {H : Type} : DataW H := .iface "*errors.errorString" (.ptr (.agg [.lit (.string [110, 111, 32, 119, 111, 114, 100])]))

/-- 'pasodoblelaw12.GoodsStays': WHATEVER THE INPUT: true; the input reads as it did. -/
def goodsStaysSpec : ChangeSpec := { name := "goodsStays", fn := fun _ => fun
  | [d] => { results := [.lit (.bool true)], args := [d] }
  | _ => none }
def goodsStaysRow : OpenClaim := { program := "ytnncbmbepdkfnaadoor", sum := "a3aee9f3ac7f5e6d7b0c82a8437956f8af5d2ae4085ae8cfe9351b6fe9f0deaf", func := "pasodoble/pasodoblelaw12.GoodsStays", spec := "goodsStays", inPlace := ["internal/reflectlite.TypeOf"], unfollowed := true, recurses := true, named := ["pasodoble/api.ErrNone", "pasodoble/api.ErrArg", "pasodoble/api.ErrLong", "pasodoble/api.ErrName", "pasodoble/api.ErrTwice", "internal/strconv.uint64pow10", "math/bits.deBruijn32tab", "math/bits.deBruijn64tab", "pasodoble/api.ErrNil"], apart := false, laid := [("math/bits.deBruijn32tab", laid_math_bits_deBruijn32tab), ("math/bits.deBruijn64tab", laid_math_bits_deBruijn64tab), ("internal/strconv.uint64pow10", laid_internal_strconv_uint64pow10), ("pasodoble/api.ErrArg", laid_pasodoble_api_ErrArg), ("pasodoble/api.ErrNil", laid_pasodoble_api_ErrNil), ("pasodoble/api.ErrLong", laid_pasodoble_api_ErrLong), ("pasodoble/api.ErrNone", laid_pasodoble_api_ErrNone), ("pasodoble/api.ErrTwice", laid_pasodoble_api_ErrTwice), ("pasodoble/api.ErrName", laid_pasodoble_api_ErrName)] }
def GoodsStaysSaid : Prop := goodsStaysRow.holds Tryd.pinned (OpenSpec.ofChange goodsStaysSpec)

/-- ITS FALSE NEIGHBOUR: 'it returns false'. Refute it at one input. -/
def goodsStaysWrong : ChangeSpec := { name := "goodsStays", fn := fun _ => fun
  | [d] => { results := [.lit (.bool false)], args := [d] }
  | _ => none }
def GoodsStaysWrongFalsely : Prop := goodsStaysRow.holds Tryd.pinned (OpenSpec.ofChange goodsStaysWrong)

/-- 'pasodoblelaw12.GoodsBack': WHATEVER THE INPUT: true; the input reads as it did. -/
def goodsBackSpec : ChangeSpec := { name := "goodsBack", fn := fun _ => fun
  | [d] => { results := [.lit (.bool true)], args := [d] }
  | _ => none }
def goodsBackRow : OpenClaim := { program := "ytnncbmbepdkfnaadoor", sum := "a3aee9f3ac7f5e6d7b0c82a8437956f8af5d2ae4085ae8cfe9351b6fe9f0deaf", func := "pasodoble/pasodoblelaw12.GoodsBack", spec := "goodsBack", inPlace := ["internal/reflectlite.TypeOf"], unfollowed := true, recurses := true, named := ["pasodoble/api.ErrNil", "pasodoble/api.ErrNone", "pasodoble/api.ErrArg", "pasodoble/api.ErrLong", "pasodoble/api.ErrName", "pasodoble/api.ErrTwice", "internal/strconv.uint64pow10", "math/bits.deBruijn32tab", "math/bits.deBruijn64tab"], apart := false, laid := [("math/bits.deBruijn32tab", laid_math_bits_deBruijn32tab), ("math/bits.deBruijn64tab", laid_math_bits_deBruijn64tab), ("internal/strconv.uint64pow10", laid_internal_strconv_uint64pow10), ("pasodoble/api.ErrArg", laid_pasodoble_api_ErrArg), ("pasodoble/api.ErrNil", laid_pasodoble_api_ErrNil), ("pasodoble/api.ErrLong", laid_pasodoble_api_ErrLong), ("pasodoble/api.ErrNone", laid_pasodoble_api_ErrNone), ("pasodoble/api.ErrTwice", laid_pasodoble_api_ErrTwice), ("pasodoble/api.ErrName", laid_pasodoble_api_ErrName)] }
def GoodsBackSaid : Prop := goodsBackRow.holds Tryd.pinned (OpenSpec.ofChange goodsBackSpec)

/-- ITS FALSE NEIGHBOUR: 'it returns false'. Refute it at one input. -/
def goodsBackWrong : ChangeSpec := { name := "goodsBack", fn := fun _ => fun
  | [d] => { results := [.lit (.bool false)], args := [d] }
  | _ => none }
def GoodsBackWrongFalsely : Prop := goodsBackRow.holds Tryd.pinned (OpenSpec.ofChange goodsBackWrong)

/-- 'pasodoblelaw12.GoodsExact': WHATEVER THE INPUT: true; the input reads as it did. -/
def goodsExactSpec : ChangeSpec := { name := "goodsExact", fn := fun _ => fun
  | [d1, d2, d3] => { results := [.lit (.bool true)], args := [d1, d2, d3] }
  | _ => none }
def goodsExactRow : OpenClaim := { program := "ytnncbmbepdkfnaadoor", sum := "a3aee9f3ac7f5e6d7b0c82a8437956f8af5d2ae4085ae8cfe9351b6fe9f0deaf", func := "pasodoble/pasodoblelaw12.GoodsExact", spec := "goodsExact", inPlace := ["internal/reflectlite.TypeOf", "internal/abi.NoEscape", "internal/bytealg.MakeNoZero"], unfollowed := true, recurses := true, named := ["pasodoble/api.ErrNone", "pasodoble/api.ErrArg", "pasodoble/api.ErrLong", "pasodoble/api.ErrName", "pasodoble/api.ErrTwice", "internal/strconv.uint64pow10", "math/bits.deBruijn32tab", "math/bits.deBruijn64tab", "pasodoble/api.ErrNil", "pasodoble/api.ErrForm", "pasodoble/api.ErrSum", "pasodoble/api.ErrFull", "pasodoble/api.ErrState", "pasodoble/api.ErrCycle", "pasodoble/api.ErrStack", "pasodoble/api.ErrJump", "pasodoble/api.ErrOp", "pasodoble/api.ErrFuel", "pasodoble/api.ErrRange", "pasodoble/api.ErrDead", "pasodoble/api.ErrWord"], apart := false, laid := [("math/bits.deBruijn32tab", laid_math_bits_deBruijn32tab), ("math/bits.deBruijn64tab", laid_math_bits_deBruijn64tab), ("internal/strconv.uint64pow10", laid_internal_strconv_uint64pow10), ("pasodoble/api.ErrArg", laid_pasodoble_api_ErrArg), ("pasodoble/api.ErrNil", laid_pasodoble_api_ErrNil), ("pasodoble/api.ErrForm", laid_pasodoble_api_ErrForm), ("pasodoble/api.ErrLong", laid_pasodoble_api_ErrLong), ("pasodoble/api.ErrSum", laid_pasodoble_api_ErrSum), ("pasodoble/api.ErrFull", laid_pasodoble_api_ErrFull), ("pasodoble/api.ErrNone", laid_pasodoble_api_ErrNone), ("pasodoble/api.ErrState", laid_pasodoble_api_ErrState), ("pasodoble/api.ErrTwice", laid_pasodoble_api_ErrTwice), ("pasodoble/api.ErrName", laid_pasodoble_api_ErrName), ("pasodoble/api.ErrCycle", laid_pasodoble_api_ErrCycle), ("pasodoble/api.ErrStack", laid_pasodoble_api_ErrStack), ("pasodoble/api.ErrJump", laid_pasodoble_api_ErrJump), ("pasodoble/api.ErrOp", laid_pasodoble_api_ErrOp), ("pasodoble/api.ErrFuel", laid_pasodoble_api_ErrFuel), ("pasodoble/api.ErrRange", laid_pasodoble_api_ErrRange), ("pasodoble/api.ErrDead", laid_pasodoble_api_ErrDead), ("pasodoble/api.ErrWord", laid_pasodoble_api_ErrWord)] }
def GoodsExactSaid : Prop := goodsExactRow.holds Tryd.pinned (OpenSpec.ofChange goodsExactSpec)

/-- ITS FALSE NEIGHBOUR: 'it returns false'. Refute it at one input. -/
def goodsExactWrong : ChangeSpec := { name := "goodsExact", fn := fun _ => fun
  | [d1, d2, d3] => { results := [.lit (.bool false)], args := [d1, d2, d3] }
  | _ => none }
def GoodsExactWrongFalsely : Prop := goodsExactRow.holds Tryd.pinned (OpenSpec.ofChange goodsExactWrong)

/- THE SECOND FORM. 'bulk': how many values and letters a reading holds, each counted each time it is reached (what is shared counts as often as it is met; a slice's spare places count too). A statement '..UptoSaid' is the law's where the arguments, and the package variables that the reading takes, are together of bulk at most 1048576: NARROWER than '..Said'. Prove '..Said' where nothing that the law and all that it calls make is longer than what came in: it says more and counts as full. Else prove '..UptoSaid'. A law counts once. -/
mutual
def uptoBulk {H : Type} : DataW H → Nat
  | .lit (.string bytes) => bytes.length + 1
  | .lit _ => 1
  | .nil => 1
  | .ptr d => uptoBulk d + 1
  | .slice elems spare => uptoBulkAll elems + uptoBulkAll spare + 1
  | .agg parts => uptoBulkAll parts + 1
  | .iface _ d => uptoBulk d + 1
  | .map entries => uptoBulkEntries entries + 1
  | .held _ => 1
def uptoBulkAll {H : Type} : List (DataW H) → Nat
  | [] => 0
  | d :: r => uptoBulk d + uptoBulkAll r
def uptoBulkEntries {H : Type} : List (Lit × DataW H) → Nat
  | [] => 0
  | x :: r => uptoBulkEntry x + uptoBulkEntries r
def uptoBulkEntry {H : Type} : Lit × DataW H → Nat
  | (.string bytes, d) => bytes.length + uptoBulk d + 1
  | (_, d) => uptoBulk d + 1
 end
def uptoSmall : (H : Type) → List (DataW H) → Bool := fun _ ds => decide (uptoBulkAll ds ≤ 1048576)
def OpenSpec.upto (s : _root_.Go.ChangeSpec) : _root_.Go.OpenSpec := { _root_.Go.OpenSpec.ofChange s with cond := some uptoSmall }

/-- 'pasodoblelaw12.GoodsStays', WHERE WHAT IT READS IS OF BULK AT MOST 1048576: true; the input reads as it did. -/
def goodsStaysUptoRow : OpenClaim := { program := "ytnncbmbepdkfnaadoor", sum := "a3aee9f3ac7f5e6d7b0c82a8437956f8af5d2ae4085ae8cfe9351b6fe9f0deaf", func := "pasodoble/pasodoblelaw12.GoodsStays", spec := "goodsStays", inPlace := ["internal/reflectlite.TypeOf"], unfollowed := true, recurses := true, named := ["pasodoble/api.ErrNone", "pasodoble/api.ErrArg", "pasodoble/api.ErrLong", "pasodoble/api.ErrName", "pasodoble/api.ErrTwice", "internal/strconv.uint64pow10", "math/bits.deBruijn32tab", "math/bits.deBruijn64tab", "pasodoble/api.ErrNil"], apart := false, laid := [("math/bits.deBruijn32tab", laid_math_bits_deBruijn32tab), ("math/bits.deBruijn64tab", laid_math_bits_deBruijn64tab), ("internal/strconv.uint64pow10", laid_internal_strconv_uint64pow10), ("pasodoble/api.ErrArg", laid_pasodoble_api_ErrArg), ("pasodoble/api.ErrNil", laid_pasodoble_api_ErrNil), ("pasodoble/api.ErrLong", laid_pasodoble_api_ErrLong), ("pasodoble/api.ErrNone", laid_pasodoble_api_ErrNone), ("pasodoble/api.ErrTwice", laid_pasodoble_api_ErrTwice), ("pasodoble/api.ErrName", laid_pasodoble_api_ErrName)], narrowed := true }
def GoodsStaysUptoSaid : Prop := goodsStaysUptoRow.holds Tryd.pinned (OpenSpec.upto goodsStaysSpec)

/-- 'pasodoblelaw12.GoodsBack', WHERE WHAT IT READS IS OF BULK AT MOST 1048576: true; the input reads as it did. -/
def goodsBackUptoRow : OpenClaim := { program := "ytnncbmbepdkfnaadoor", sum := "a3aee9f3ac7f5e6d7b0c82a8437956f8af5d2ae4085ae8cfe9351b6fe9f0deaf", func := "pasodoble/pasodoblelaw12.GoodsBack", spec := "goodsBack", inPlace := ["internal/reflectlite.TypeOf"], unfollowed := true, recurses := true, named := ["pasodoble/api.ErrNil", "pasodoble/api.ErrNone", "pasodoble/api.ErrArg", "pasodoble/api.ErrLong", "pasodoble/api.ErrName", "pasodoble/api.ErrTwice", "internal/strconv.uint64pow10", "math/bits.deBruijn32tab", "math/bits.deBruijn64tab"], apart := false, laid := [("math/bits.deBruijn32tab", laid_math_bits_deBruijn32tab), ("math/bits.deBruijn64tab", laid_math_bits_deBruijn64tab), ("internal/strconv.uint64pow10", laid_internal_strconv_uint64pow10), ("pasodoble/api.ErrArg", laid_pasodoble_api_ErrArg), ("pasodoble/api.ErrNil", laid_pasodoble_api_ErrNil), ("pasodoble/api.ErrLong", laid_pasodoble_api_ErrLong), ("pasodoble/api.ErrNone", laid_pasodoble_api_ErrNone), ("pasodoble/api.ErrTwice", laid_pasodoble_api_ErrTwice), ("pasodoble/api.ErrName", laid_pasodoble_api_ErrName)], narrowed := true }
def GoodsBackUptoSaid : Prop := goodsBackUptoRow.holds Tryd.pinned (OpenSpec.upto goodsBackSpec)

/-- 'pasodoblelaw12.GoodsExact', WHERE WHAT IT READS IS OF BULK AT MOST 1048576: true; the input reads as it did. -/
def goodsExactUptoRow : OpenClaim := { program := "ytnncbmbepdkfnaadoor", sum := "a3aee9f3ac7f5e6d7b0c82a8437956f8af5d2ae4085ae8cfe9351b6fe9f0deaf", func := "pasodoble/pasodoblelaw12.GoodsExact", spec := "goodsExact", inPlace := ["internal/reflectlite.TypeOf", "internal/abi.NoEscape", "internal/bytealg.MakeNoZero"], unfollowed := true, recurses := true, named := ["pasodoble/api.ErrNone", "pasodoble/api.ErrArg", "pasodoble/api.ErrLong", "pasodoble/api.ErrName", "pasodoble/api.ErrTwice", "internal/strconv.uint64pow10", "math/bits.deBruijn32tab", "math/bits.deBruijn64tab", "pasodoble/api.ErrNil", "pasodoble/api.ErrForm", "pasodoble/api.ErrSum", "pasodoble/api.ErrFull", "pasodoble/api.ErrState", "pasodoble/api.ErrCycle", "pasodoble/api.ErrStack", "pasodoble/api.ErrJump", "pasodoble/api.ErrOp", "pasodoble/api.ErrFuel", "pasodoble/api.ErrRange", "pasodoble/api.ErrDead", "pasodoble/api.ErrWord"], apart := false, laid := [("math/bits.deBruijn32tab", laid_math_bits_deBruijn32tab), ("math/bits.deBruijn64tab", laid_math_bits_deBruijn64tab), ("internal/strconv.uint64pow10", laid_internal_strconv_uint64pow10), ("pasodoble/api.ErrArg", laid_pasodoble_api_ErrArg), ("pasodoble/api.ErrNil", laid_pasodoble_api_ErrNil), ("pasodoble/api.ErrForm", laid_pasodoble_api_ErrForm), ("pasodoble/api.ErrLong", laid_pasodoble_api_ErrLong), ("pasodoble/api.ErrSum", laid_pasodoble_api_ErrSum), ("pasodoble/api.ErrFull", laid_pasodoble_api_ErrFull), ("pasodoble/api.ErrNone", laid_pasodoble_api_ErrNone), ("pasodoble/api.ErrState", laid_pasodoble_api_ErrState), ("pasodoble/api.ErrTwice", laid_pasodoble_api_ErrTwice), ("pasodoble/api.ErrName", laid_pasodoble_api_ErrName), ("pasodoble/api.ErrCycle", laid_pasodoble_api_ErrCycle), ("pasodoble/api.ErrStack", laid_pasodoble_api_ErrStack), ("pasodoble/api.ErrJump", laid_pasodoble_api_ErrJump), ("pasodoble/api.ErrOp", laid_pasodoble_api_ErrOp), ("pasodoble/api.ErrFuel", laid_pasodoble_api_ErrFuel), ("pasodoble/api.ErrRange", laid_pasodoble_api_ErrRange), ("pasodoble/api.ErrDead", laid_pasodoble_api_ErrDead), ("pasodoble/api.ErrWord", laid_pasodoble_api_ErrWord)], narrowed := true }
def GoodsExactUptoSaid : Prop := goodsExactUptoRow.holds Tryd.pinned (OpenSpec.upto goodsExactSpec)

end Rows
end Go.Proofs.YtnncbmbepdkfnaaDoor
