/- A list of instructions, and one of bools, as arguments, opened. -/
import Derived.Test.YthjakngpegdhmaaDoorDepP
import Derived.Test.YthjakngpegdhmaaDoorLeaf
namespace Go.Proofs.YthjakngpegdhmaaDoor
open Go.ChangeShapes Go.WideShapes Go.ChangeAt Go.RowKit Go.Deep
theorem instrLeaves : leaves Tryd.prog 5 50 = some [.int .i64, .int .i64, .int .i64] := by kernel_rfl
theorem instrCells : Tryd.prog.cellsOf 50 = 3 := by kernel_rfl
def encBo (b : Bool) : List Value := [.bool b]
theorem encBo_len (b : Bool) : (encBo b).length = 1 := rfl
theorem boolLeaves : leaves Tryd.prog 5 4 = some [.bool] := by kernel_rfl
theorem boolCells : Tryd.prog.cellsOf 4 = 1 := by kernel_rfl
section
variable {H : Type} {enc : TypeId × Value → H} {W : World} {base : Nat} {spare : Nat → Bool} {held : Bool} {v : Value} {d : DataW H} {ps : List MemPlace} {r : Reach} {b0 : Nat}
set_option maxRecDepth 100000 in
theorem open_instrs (hv : Value.okWide Tryd.prog W r b0 36 v) (h : DataW.Trod enc Tryd.prog W base spare held 36 v d ps) :
    ∃ (A : Option Addr) (n c : Nat) (l : List Ins), v = .slice A n c ∧ l.length = n ∧ n ≤ maxLen ∧ (∀ m ∈ l, True) ∧ Reads W W.heap.size 3 A n (l.flatMap encIns) :=
  open_list (k := 3) encIns (fun _ => True) encIns_len Tryd.underlying36 instrCells (by omega) (fun n cs x h => by
    have h4 := leaves_ok 5 _ _ _ _ _ instrLeaves h
    cases h4 with | cons a0 b0 => cases b0 with | cons a1 b1 => cases b1 with | cons a2 b2 => cases b2 with | nil =>
    obtain ⟨x0, rfl, _⟩ := a0
    obtain ⟨x1, rfl, _⟩ := a1
    obtain ⟨x2, rfl, _⟩ := a2
    exact ⟨⟨x0, x1, x2⟩, rfl, trivial⟩) hv h
set_option maxRecDepth 100000 in
theorem open_bools (hv : Value.okWide Tryd.prog W r b0 37 v) (h : DataW.Trod enc Tryd.prog W base spare held 37 v d ps) :
    ∃ (A : Option Addr) (n c : Nat) (l : List Bool), v = .slice A n c ∧ l.length = n ∧ n ≤ maxLen ∧ (∀ m ∈ l, True) ∧ Reads W W.heap.size 1 A n (l.flatMap encBo) :=
  open_list (k := 1) encBo (fun _ => True) encBo_len Tryd.underlying37 boolCells (by omega) (fun n cs x h => by
    have h4 := leaves_ok 5 _ _ _ _ _ boolLeaves h
    cases h4 with | cons a0 b0 => cases b0 with | nil =>
    obtain ⟨x0, rfl⟩ := a0
    exact ⟨x0, rfl, trivial⟩) hv h
end
end Go.Proofs.YthjakngpegdhmaaDoor
