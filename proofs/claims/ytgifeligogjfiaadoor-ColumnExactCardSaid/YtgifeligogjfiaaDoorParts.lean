/- A list of parts as an argument, opened; a column lies apart from rows of parts. -/
import Derived.Test.YtgifeligogjfiaaDoorAwake
import Derived.Test.YtgifeligogjfiaaDoorLeaf
namespace Go.Proofs.YtgifeligogjfiaaDoor
open Go.ChangeShapes Go.WideShapes Go.ChangeAt Go.RowKit Go.Deep
def encB (p : Pt) : List Value := [.int .i64 p.c, .int .i64 p.v0, .int .i64 p.v1, .int .i64 p.v2, .int .i64 p.v3, .int .i64 p.t]
theorem encB_len (p : Pt) : (encB p).length = 6 := rfl
theorem encB_box (p : Pt) : (boxP p).toList = encB p := rfl
theorem partLeaves : leaves Tryd.prog 5 35 = some [.int .i64, .int .i64, .int .i64, .int .i64, .int .i64, .int .i64] := by kernel_rfl
theorem partCells : Tryd.prog.cellsOf 35 = 6 := by kernel_rfl
theorem infoPart : (Tryd.prog.info? 35).map (fun i => (i.zero, i.size, i.bytes)) = some (some (.agg #[.int .i64 0, .int .i64 0, .int .i64 0, .int .i64 0, .int .i64 0, .int .i64 0]), 6, 48) := by kernel_rfl

set_option maxRecDepth 100000 in
theorem open_parts {H : Type} {enc : TypeId × Value → H} {W : World} {base : Nat} {spare : Nat → Bool} {held : Bool} {v : Value} {d : DataW H} {ps : List MemPlace} {r : Reach} {b0 : Nat}
    (hv : Value.okWide Tryd.prog W r b0 44 v) (h : DataW.Trod enc Tryd.prog W base spare held 44 v d ps) :
    ∃ (A : Option Addr) (n c : Nat) (l : List Pt), v = .slice A n c ∧ l.length = n ∧ n ≤ maxLen ∧ (∀ m ∈ l, True) ∧ Reads W W.heap.size 6 A n (l.flatMap encB) :=
  open_list (k := 6) encB (fun _ => True) encB_len Tryd.underlying44 partCells (by omega) (fun n cs x h => by
    have h4 := leaves_ok 5 _ _ _ _ _ partLeaves h
    cases h4 with | cons a0 b0 => cases b0 with | cons a1 b1 => cases b1 with | cons a2 b2 => cases b2 with | cons a3 b3 => cases b3 with | cons a4 b4 => cases b4 with | cons a5 b5 => cases b5 with | nil =>
    obtain ⟨x0, rfl, _⟩ := a0
    obtain ⟨x1, rfl, _⟩ := a1
    obtain ⟨x2, rfl, _⟩ := a2
    obtain ⟨x3, rfl, _⟩ := a3
    obtain ⟨x4, rfl, _⟩ := a4
    obtain ⟨x5, rfl, _⟩ := a5
    exact ⟨⟨x0, x1, x2, x3, x4, x5⟩, rfl, trivial⟩) hv h

theorem ColR.apart {B B' : Nat} {w : World} {g : Nat} {comp : Int} {k : Nat} {ps : List Pt} {S : List Nat} (h : ColR B w g comp k ps S) {e : TypeId} {size n : Nat} {v : Value} {xs : List Value} (hr : w.ownsRow B' e size v n xs)
    (h1 : e ≠ 67) (h3 : e ≠ 3) : ∀ b, v.ownBlock = some b → b ∉ S := by
  obtain ⟨vc, vt, hB, hg, hc, ht, _, _, rfl⟩ := h
  intro b hb hm
  simp only [List.mem_cons, List.mem_append, Option.mem_toList] at hm
  rcases hm with rfl | hm | hm
  · exact row_blk_ne hr hg h1 hb
  · exact row_row_ne hr hc h3 b hb hm
  · exact row_row_ne hr ht h3 b hb hm
end Go.Proofs.YtgifeligogjfiaaDoor
