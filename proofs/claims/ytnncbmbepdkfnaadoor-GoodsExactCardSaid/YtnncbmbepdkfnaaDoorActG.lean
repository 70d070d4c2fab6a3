/- Acts of the statements of layer 12, as an argument. -/
import Derived.Test.YtnncbmbepdkfnaaDoorLeaf
import Derived.Test.YtnncbmbepdkfnaaDoorInts
import Derived.Test.YtnncbmbepdkfnaaDoorNest
namespace Go.Proofs.YtnncbmbepdkfnaaDoor
open Go.ChangeShapes Go.WideShapes Go.ChangeAt Go.RowKit Go.Deep
structure Ag where
  k : Int
  i : Int
  n : Int
  l : Value
def encA (a : Ag) : List Value := [.int .i64 a.k, .int .i64 a.i, .int .i64 a.n, a.l]
theorem encA_len (a : Ag) : (encA a).length = 4 := rfl
def AgOk (W : World) (a : Ag) : Prop := ∃ (A : Option Addr) (n c : Nat) (l : List Int), a.l = .slice A n c ∧ l.length = n ∧ n ≤ maxLen ∧ Reads W W.heap.size 1 A n (l.flatMap encI)
theorem actLeaves : leaves Tryd.prog 6 38 = some [.int .i64, .int .i64, .int .i64, .sub 36] := by kernel_rfl
theorem actCells : Tryd.prog.cellsOf 38 = 4 := by kernel_rfl
set_option maxRecDepth 100000 in
theorem open_acts {H : Type} {enc : TypeId × Value → H} {W : World} {base : Nat} {spare : Nat → Bool} {held : Bool} {v : Value} {d : DataW H} {ps : List MemPlace} {r : Reach} {b0 : Nat}
    (hv : Value.okWide Tryd.prog W r b0 22 v) (h : DataW.Trod enc Tryd.prog W base spare held 22 v d ps) :
    ∃ (A : Option Addr) (n c : Nat) (l : List Ag), v = .slice A n c ∧ l.length = n ∧ n ≤ maxLen ∧ (∀ m ∈ l, AgOk W m) ∧ Reads W W.heap.size 4 A n (l.flatMap encA) :=
  open_list (k := 4) encA (AgOk W) encA_len Tryd.underlying22 actCells (by omega) (fun n cs x h => by
    have h4 := leaves_ok 6 _ _ _ _ _ actLeaves h
    cases h4 with | cons a0 b0 => cases b0 with | cons a1 b1 => cases b1 with | cons a2 b2 => cases b2 with | cons a3 b3 => cases b3 with | nil =>
    obtain ⟨x0, rfl, w0⟩ := a0
    obtain ⟨x1, rfl, w1⟩ := a1
    obtain ⟨x2, rfl, w2⟩ := a2
    obtain ⟨n3, y3, e3⟩ := a3
    obtain ⟨A, k, c, l, hv1, q1, q2, _, q3⟩ := open_listT (k := 1) encI (fun _ => True) encI_len Tryd.underlying36 intCells (by omega) (fun n cs x h => by
      have h4 := leaves_ok 5 _ _ _ _ _ intLeaves h
      cases h4 with | cons a0 b0 => cases b0 with | nil =>
      obtain ⟨x0, rfl, w0⟩ := a0
      exact ⟨x0, rfl, trivial⟩) e3
    rw [List.singleton_inj] at hv1
    subst hv1
    exact ⟨⟨x0, x1, x2, .slice A k c⟩, rfl, A, k, c, l, rfl, q1, q2.1, q3⟩) hv h
end Go.Proofs.YtnncbmbepdkfnaaDoor
