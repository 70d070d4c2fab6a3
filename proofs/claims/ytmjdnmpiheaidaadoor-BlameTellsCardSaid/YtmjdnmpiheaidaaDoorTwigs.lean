/- Rows of twigs as an argument. -/
import Derived.Test.YtmjdnmpiheaidaaDoorNest
namespace Go.Proofs.YtmjdnmpiheaidaaDoor
open Go.ChangeShapes Go.WideShapes Go.ChangeAt Go.RowKit Go.Deep
structure Tw where
  kind : Int
  whr : ByteArray
  num : Int
def encT (x : Tw) : List Value := [.int .i64 x.kind, .string x.whr, .int .i64 x.num]
theorem encT_len (x : Tw) : (encT x).length = 3 := rfl
/-- a row: where it lies, and its twigs -/
structure Rw where
  A : Option Addr
  n : Nat
  c : Nat
  l : List Tw
def encR (x : Rw) : List Value := [.slice x.A x.n x.c]
theorem encR_len (x : Rw) : (encR x).length = 1 := rfl
def okR (w : World) (B : Nat) (x : Rw) : Prop := x.l.length = x.n ∧ (x.n ≤ maxLen ∧ x.n ≤ x.c) ∧ Reads w B 3 x.A x.n (x.l.flatMap encT)
theorem twLeaves : leaves Tryd.prog 5 63 = some [.int .i64, .string, .int .i64] := by kernel_rfl
theorem twCells : Tryd.prog.cellsOf 63 = 3 := by kernel_rfl
theorem twsCells : Tryd.prog.cellsOf 61 = 1 := by kernel_rfl
set_option maxRecDepth 100000 in
theorem open_rows {H : Type} {enc : TypeId × Value → H} {W : World} {base : Nat} {spare : Nat → Bool} {held : Bool} {v : Value} {d : DataW H} {ps : List MemPlace} {r : Reach} {b0 : Nat}
    (hv : Value.okWide Tryd.prog W r b0 22 v) (h : DataW.Trod enc Tryd.prog W base spare held 22 v d ps) :
    ∃ (A : Option Addr) (n c : Nat) (l : List Rw), v = .slice A n c ∧ l.length = n ∧ n ≤ maxLen ∧ (∀ m ∈ l, okR W W.heap.size m) ∧ Reads W W.heap.size 1 A n (l.flatMap encR) :=
  open_list (k := 1) encR (okR W W.heap.size) encR_len Tryd.underlying22 twsCells (by omega) (fun n cs x h => by
    obtain ⟨A, n, c, l, rfl, h1, h2, _, h3⟩ := open_listT (k := 3) encT (fun _ => True) encT_len Tryd.underlying61 twCells (by omega) (fun n cs x h => by
      have h4 := leaves_ok 5 _ _ _ _ _ twLeaves h
      cases h4 with | cons a0 b0 => cases b0 with | cons a1 b1 => cases b1 with | cons a2 b2 => cases b2 with | nil =>
      obtain ⟨x0, rfl, _⟩ := a0
      obtain ⟨x1, rfl, _⟩ := a1
      obtain ⟨x2, rfl, _⟩ := a2
      exact ⟨⟨x0, x1, x2⟩, rfl, trivial⟩) h
    exact ⟨⟨A, n, c, l⟩, rfl, h1, h2, h3⟩) hv h
end Go.Proofs.YtmjdnmpiheaidaaDoor
