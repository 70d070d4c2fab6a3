/- The list of calls, opened. -/
import Derived.Test.YtghffjlgiclieaaDoorAgain
import Derived.Test.YtghffjlgiclieaaDoorLeaf
namespace Go.Proofs.YtghffjlgiclieaaDoor
open Go.ChangeShapes Go.WideShapes Go.ChangeAt Go.RowKit Go.Deep
theorem actLeaves : leaves Tryd.prog 5 33 = some [.int .i64, .int .i64, .int .i64, .int .i64] := by kernel_rfl
theorem actCells : Tryd.prog.cellsOf 33 = 4 := by kernel_rfl

theorem open_acts {H : Type} {enc : TypeId × Value → H} {W : World} {base : Nat} {spare : Nat → Bool} {held : Bool} {v : Value} {d : DataW H} {ps : List MemPlace} {r : Reach} {b0 : Nat}
    (hv : Value.okWide Tryd.prog W r b0 22 v) (h : DataW.Trod enc Tryd.prog W base spare held 22 v d ps) :
    ∃ (A : Option Addr) (n c : Nat) (l : List Act), v = .slice A n c ∧ l.length = n ∧ n ≤ maxLen ∧ (∀ m ∈ l, okAct m) ∧ Reads W W.heap.size 4 A n (l.flatMap encAct) :=
  open_list (k := 4) encAct okAct encAct_len Tryd.underlying22 actCells (by omega) (fun n cs x h => by
    have h4 := leaves_ok 5 _ _ _ _ _ actLeaves h
    cases h4 with | cons a0 b0 => cases b0 with | cons a1 b1 => cases b1 with | cons a2 b2 => cases b2 with | cons a3 b3 => cases b3 with | nil =>
    obtain ⟨x0, rfl, w0⟩ := a0
    obtain ⟨x1, rfl, w1⟩ := a1
    obtain ⟨x2, rfl, w2⟩ := a2
    obtain ⟨x3, rfl, w3⟩ := a3
    exact ⟨⟨x0, x1, x2, x3⟩, rfl, wf_i64 w0, wf_i64 w1, wf_i64 w2, wf_i64 w3⟩) hv h
end Go.Proofs.YtghffjlgiclieaaDoor
