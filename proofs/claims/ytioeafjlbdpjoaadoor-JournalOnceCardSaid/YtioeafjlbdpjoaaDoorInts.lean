/- A []int argument, opened. -/
import Derived.Test.YtioeafjlbdpjoaaDoorLeaf
namespace Go.Proofs.YtioeafjlbdpjoaaDoor
open Go.ChangeShapes Go.WideShapes Go.ChangeAt Go.RowKit Go.Deep
def encI (x : Int) : List Value := [.int .i64 x]
theorem encI_len (x : Int) : (encI x).length = 1 := rfl
def okI (x : Int) : Prop := -9223372036854775808 ≤ x ∧ x ≤ 9223372036854775807
theorem intLeaves : leaves Tryd.prog 5 3 = some [.int .i64] := by kernel_rfl
theorem intCells : Tryd.prog.cellsOf 3 = 1 := by kernel_rfl
set_option maxRecDepth 100000 in
theorem open_ints1 {H : Type} {enc : TypeId × Value → H} {W : World} {base : Nat} {spare : Nat → Bool} {held : Bool} {v : Value} {d : DataW H} {ps : List MemPlace} {r : Reach} {b0 : Nat}
    (hv : Value.okWide Tryd.prog W r b0 22 v) (h : DataW.Trod enc Tryd.prog W base spare held 22 v d ps) :
    ∃ (A : Option Addr) (n c : Nat) (l : List Int), v = .slice A n c ∧ l.length = n ∧ n ≤ maxLen ∧ (∀ m ∈ l, okI m) ∧ Reads W W.heap.size 1 A n (l.flatMap encI) :=
  open_list (k := 1) encI okI encI_len Tryd.underlying22 intCells (by omega) (fun n cs x h => by
    have h4 := leaves_ok 5 _ _ _ _ _ intLeaves h
    cases h4 with | cons a0 b0 => cases b0 with | nil =>
    obtain ⟨x0, rfl, w0⟩ := a0
    exact ⟨x0, rfl, wf_i64 w0⟩) hv h
end Go.Proofs.YtioeafjlbdpjoaaDoor
