/- Entries and acts of the statements of layer 13, as arguments. -/
import Derived.Test.YtioeafjlbdpjoaaDoorLeaf
import Derived.Test.YtioeafjlbdpjoaaDoorInts
import Derived.Test.YtioeafjlbdpjoaaDoorNest
import Derived.Test.YtioeafjlbdpjoaaDoorUndo
namespace Go.Proofs.YtioeafjlbdpjoaaDoor
open Go.ChangeShapes Go.WideShapes Go.ChangeAt Go.RowKit Go.Deep
/-- an entry whose parts can be read below a height -/
structure UdR (W : World) (B : Nat) (d : Ud) : Prop where
  nil : d.A = none → d.u.ps = [] ∧ d.c = 0
  le : d.u.ps.length ≤ maxLen
  r : Reads W B 6 d.A d.u.ps.length (d.u.ps.flatMap encB)
structure Ac where
  k : Int
  n : Int
  d : Ud
def encA (a : Ac) : List Value := .int .i64 a.k :: .int .i64 a.n :: a.d.cells
theorem encA_len (a : Ac) : (encA a).length = 13 := rfl
theorem undoLeaves : leaves Tryd.prog 7 37 = some [.int .i64, .int .i64, .int .i64, .int .i64, .int .i64, .int .i64, .int .i64, .int .i64, .sub 35, .int .i64, .int .i64] := by kernel_rfl
theorem actLeaves : leaves Tryd.prog 8 54 = some [.int .i64, .int .i64, .int .i64, .int .i64, .int .i64, .int .i64, .int .i64, .int .i64, .int .i64, .int .i64, .sub 35, .int .i64, .int .i64] := by kernel_rfl
theorem partLeaves : leaves Tryd.prog 6 34 = some [.int .i64, .int .i64, .int .i64, .int .i64, .int .i64, .int .i64] := by kernel_rfl
theorem partCells : Tryd.prog.cellsOf 34 = 6 := by kernel_rfl
theorem actCells : Tryd.prog.cellsOf 54 = 13 := by kernel_rfl
section
variable {H : Type} {enc : TypeId × Value → H} {W : World} {base : Nat} {spare : Nat → Bool} {held : Bool}
set_option maxRecDepth 100000 in
theorem open_parts {fuel : Nat} {v : Value} {x : DataW H × List MemPlace} (h : DataW.trod enc Tryd.prog W base spare held fuel 35 [v] = some x) :
    ∃ (A : Option Addr) (c : Nat) (l : List Pt), v = .slice A l.length c ∧ (A = none → l = [] ∧ c = 0) ∧ l.length ≤ maxLen ∧ Reads W W.heap.size 6 A l.length (l.flatMap encB) := by
  obtain ⟨A, n, c, l, hv, rfl, q2, -, q3⟩ := open_listT (k := 6) encB (fun _ => True) encB_len Tryd.underlying35 partCells (by omega) (fun n cs x h => by
    have h4 := leaves_ok 6 _ _ _ _ _ partLeaves h
    cases h4 with | cons a0 b0 => cases b0 with | cons a1 b1 => cases b1 with | cons a2 b2 => cases b2 with | cons a3 b3 => cases b3 with | cons a4 b4 => cases b4 with | cons a5 b5 => cases b5 with | nil =>
    obtain ⟨x0, rfl, _⟩ := a0
    obtain ⟨x1, rfl, _⟩ := a1
    obtain ⟨x2, rfl, _⟩ := a2
    obtain ⟨x3, rfl, _⟩ := a3
    obtain ⟨x4, rfl, _⟩ := a4
    obtain ⟨x5, rfl, _⟩ := a5
    exact ⟨⟨x0, x1, x2, x3, x4, x5⟩, rfl, trivial⟩) h
  rw [List.singleton_inj] at hv
  refine ⟨A, c, l, hv, ?_, q2.1, q3⟩
  rintro rfl
  subst hv
  rcases open_slice Tryd.underlying35 h with ⟨h0, _⟩ | ⟨a, n, c', m, n', D, Pl, hcs, _⟩
  · rw [List.singleton_inj] at h0
    injection h0 with _ h1 h2
    exact ⟨List.eq_nil_of_length_eq_zero h1, h2⟩
  · rw [List.singleton_inj] at hcs
    injection hcs with h1
    cases h1
theorem undo_of {l : List Value} (h4 : AllOk Tryd.prog enc W base spare held [.int .i64, .int .i64, .int .i64, .int .i64, .int .i64, .int .i64, .int .i64, .int .i64, .sub 35, .int .i64, .int .i64] l) : ∃ d : Ud, l = d.cells ∧ UdR W W.heap.size d := by
  cases h4 with | cons a0 b0 => cases b0 with | cons a1 b1 => cases b1 with | cons a2 b2 => cases b2 with | cons a3 b3 => cases b3 with | cons a4 b4 => cases b4 with | cons a5 b5 => cases b5 with | cons a6 b6 => cases b6 with | cons a7 b7 => cases b7 with | cons a8 b8 => cases b8 with | cons a9 b9 => cases b9 with | cons a10 b10 => cases b10 with | nil =>
  obtain ⟨x0, rfl, _⟩ := a0
  obtain ⟨x1, rfl, _⟩ := a1
  obtain ⟨x2, rfl, _⟩ := a2
  obtain ⟨x3, rfl, _⟩ := a3
  obtain ⟨x4, rfl, _⟩ := a4
  obtain ⟨x5, rfl, _⟩ := a5
  obtain ⟨x6, rfl, _⟩ := a6
  obtain ⟨x7, rfl, _⟩ := a7
  obtain ⟨n8, y8, e8⟩ := a8
  obtain ⟨x9, rfl, _⟩ := a9
  obtain ⟨x10, rfl, _⟩ := a10
  obtain ⟨A, c, l, rfl, q1, q2, q3⟩ := open_parts e8
  exact ⟨⟨⟨x0, x1, ⟨x2, x3, x4, x5, x6, x7⟩, l, x9, x10⟩, A, c⟩, rfl, q1, q2, q3⟩
set_option maxRecDepth 100000 in
theorem open_undo {v : Value} {d : DataW H} {ps : List MemPlace} {r : Reach} {b0 : Nat}
    (hv : Value.okWide Tryd.prog W r b0 37 v) (h : DataW.Trod enc Tryd.prog W base spare held 37 v d ps) : ∃ d : Ud, v = d.val ∧ UdR W W.heap.size d := by
  obtain ⟨cs, rfl, hsz⟩ := okWide_struct Tryd.underlying37 hv
  obtain ⟨fuel, hf⟩ := h
  obtain ⟨d, e, hd⟩ := undo_of (leaves_ok 7 _ _ _ _ _ undoLeaves hf)
  refine ⟨d, ?_, hd⟩
  unfold Ud.val
  congr 1
  apply Array.toList_inj.1
  exact e
set_option maxRecDepth 100000 in
theorem open_acts {v : Value} {d : DataW H} {ps : List MemPlace} {r : Reach} {b0 : Nat}
    (hv : Value.okWide Tryd.prog W r b0 49 v) (h : DataW.Trod enc Tryd.prog W base spare held 49 v d ps) :
    ∃ (A : Option Addr) (n c : Nat) (l : List Ac), v = .slice A n c ∧ l.length = n ∧ n ≤ maxLen ∧ (∀ m ∈ l, UdR W W.heap.size m.d) ∧ Reads W W.heap.size 13 A n (l.flatMap encA) :=
  open_list (k := 13) encA (fun a => UdR W W.heap.size a.d) encA_len Tryd.underlying49 actCells (by omega) (fun n cs x h => by
    have h4 := leaves_ok 8 _ _ _ _ _ actLeaves h
    cases h4 with | cons a0 b0 => cases b0 with | cons a1 b1 =>
    obtain ⟨x0, rfl, _⟩ := a0
    obtain ⟨x1, rfl, _⟩ := a1
    obtain ⟨d, rfl, hd⟩ := undo_of b1
    exact ⟨⟨x0, x1, d⟩, rfl, hd⟩) hv h
end
end Go.Proofs.YtioeafjlbdpjoaaDoor
