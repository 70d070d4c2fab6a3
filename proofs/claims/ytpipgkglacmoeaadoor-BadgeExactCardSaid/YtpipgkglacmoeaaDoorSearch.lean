/- slices.BinarySearch at []int in the words of rows that a slice owns. -/
import Derived.Test.YtpipgkglacmoeaaDoorShelf
import Derived.Test.YtpipgkglacmoeaaDoorSame
import Derived.Test.YtpipgkglacmoeaaDoorRest
import Derived.Shelf.Slices.Empties
namespace Go.Proofs.YtpipgkglacmoeaaDoor
open Go.RowKit
theorem ints_cell {w : World} {B g n cap : Nat} {xs : List Int} (hr : w.ownsRow B 3 1 (.slice (some ⟨g, 0, none⟩) n cap) n (ints xs)) : ∀ j, j < xs.length → w.cell? ⟨g, 0 + j, none⟩ = some (.int .i64 (xs.getD j 0)) := by
  intro j hj
  rw [Nat.zero_add]
  refine row_cell hr ?_
  unfold ints
  rw [List.getElem?_map, List.getElem?_eq_getElem hj, List.getD_eq_getElem?_getD, List.getElem?_eq_getElem hj]; rfl
theorem search_calls {B : Nat} {w : World} {v : Value} {n : Nat} {xs : List Int} (hr : w.ownsRow B 3 1 v n (ints xs)) (hn : n ≤ 1000000) (hs : xs.Pairwise (· ≤ ·)) (x : Int) :
    Calls Tryd.prog 31 #[v, .int .i64 x] w fun e w' => e = .returned (.tuple #[.int .i64 (xs.countP (· < x) : Nat), .bool (xs.contains x)]) ∧ Fr [] w w' := by
  have hxl : xs.length = n := by have := row_len hr; rw [ints_len, Nat.mul_one] at this; exact this
  rcases row_form hr with ⟨rfl, h0, -⟩ | ⟨g, cap, rfl, -, -, -, -⟩
  · obtain rfl : xs = [] := List.eq_nil_of_length_eq_zero (by omega)
    have h := Go.Proofs.Any.slices_BinarySearch_int_empty Tryd.lNm2_25 none 0 x w
    refine h.mono ?_
    rintro e w' ⟨rfl, hw⟩
    refine ⟨by simp, ?_⟩
    first
      | (obtain rfl := hw; exact Fr.refl _ _)
      | (obtain ⟨q, rfl⟩ := hw; exact (Fr.refl _ _).drewN q)
  · have h := Go.Proofs.Any.slices_BinarySearch_int Tryd.lNm2_25 g 0 n cap xs x w (by omega) (by omega) (ints_cell hr) (by rw [List.take_of_length_le (by omega)]; exact hs)
    rw [List.take_of_length_le (by omega)] at h
    refine h.mono ?_
    rintro e w' ⟨rfl, q, rfl⟩
    exact ⟨rfl, (Fr.refl _ _).drewN q⟩
end Go.Proofs.YtpipgkglacmoeaaDoor
