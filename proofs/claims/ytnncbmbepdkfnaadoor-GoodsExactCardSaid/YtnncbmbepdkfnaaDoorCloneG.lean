/- slices.Clone at []int in the words of rows that a slice owns. -/
import Derived.Test.YtnncbmbepdkfnaaDoorShelfC
import Derived.Test.YtnncbmbepdkfnaaDoorSame
import Derived.Shelf.Slices.Cells
namespace Go.Proofs.YtnncbmbepdkfnaaDoor
open Go.RowKit
theorem ints_cell {w : World} {B g n cap : Nat} {xs : List Int} (hr : w.ownsRow B 3 1 (.slice (some ⟨g, 0, none⟩) n cap) n (ints xs)) : ∀ j, j < xs.length → w.cell? ⟨g, 0 + j, none⟩ = some (.int .i64 (xs.getD j 0)) := by
  intro j hj
  rw [Nat.zero_add]
  refine row_cell hr ?_
  unfold ints
  rw [List.getElem?_map, List.getElem?_eq_getElem hj, List.getD_eq_getElem?_getD, List.getElem?_eq_getElem hj]; rfl
theorem clone_calls {B : Nat} {w : World} {v : Value} {n : Nat} {xs : List Int} (hr : w.ownsRow B 3 1 v n (ints xs)) (hn : n ≤ 1000000) :
    Calls Tryd.prog 29 #[v] w fun e w' => ∃ v', e = .returned v' ∧ w'.ownsRow w.heap.size 3 1 v' n (ints xs) ∧ Fr [] w w' := by
  have hxl : xs.length = n := by have := row_len hr; rw [ints_len, Nat.mul_one] at this; exact this
  rcases row_form hr with ⟨rfl, h0, hx0⟩ | ⟨g, cap, rfl, hbg, -, hnc, hmc⟩
  · have h := Go.Proofs.Any.slices_Clone_int_nil Tryd.lNm2_15 0 0 w
    refine h.mono ?_
    rintro e w' ⟨rfl, rfl⟩
    refine ⟨_, rfl, ?_, Fr.refl _ _⟩
    rw [h0, hx0]
    exact World.ownsRow_nil _ _ _ _
  · have h := Go.Proofs.Any.slices_Clone_int Tryd.lNm2_15 g 0 n cap xs w (by omega) (by omega) (ints_cell hr)
    rw [List.take_of_length_le (by omega)] at h
    refine h.mono ?_
    rintro e w' ⟨v', rfl, hown, -, hb⟩
    exact ⟨v', rfl, hown, Fr.of_below hb _⟩
end Go.Proofs.YtnncbmbepdkfnaaDoor
