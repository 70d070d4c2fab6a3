/- slices.Delete, slices.Clone at []int in the words of rows that a slice owns. -/
import Derived.Test.YtpipgkglacmoeaaDoorSearch
import Derived.Test.YtpipgkglacmoeaaDoorSlices
import Derived.Shelf.Slices.Cells
namespace Go.Proofs.YtpipgkglacmoeaaDoor
open Go.RowKit
theorem delete_calls {B : Nat} {w : World} {v : Value} {n : Nat} {xs : List Int} (hr : w.ownsRow B 3 1 v n (ints xs)) (hn : n ≤ 1000000) {i : Nat} (hi : i < n) :
    Calls Tryd.prog 32 #[v, .int .i64 i, .int .i64 (i + 1 : Nat)] w fun e w' => ∃ v', e = .returned v' ∧ w'.ownsRow B 3 1 v' (n - 1) (ints (xs.eraseIdx i)) ∧ Fr v.ownBlock.toList w w' ∧ v'.ownBlock = v.ownBlock := by
  have hxl : xs.length = n := by have := row_len hr; rw [ints_len, Nat.mul_one] at this; exact this
  rcases row_form hr with ⟨rfl, h0, -⟩ | ⟨g, cap, rfl, hbg, -, hnc, hmc⟩
  · omega
  · obtain ⟨cur, hg, -, -, -, hcs, hct⟩ := row_blk hr
    rw [Nat.mul_one] at hcs hct
    have h := Go.Proofs.Any.slices_Delete_int_cells Tryd.lNm2_23 g 0 n cap i (i + 1) xs w (by omega) hnc (by unfold maxLen at hmc; omega) (by omega) (by omega) (ints_cell hr) (fun j _ => by rw [Nat.zero_add]; exact hg.frozen j)
    have e0 : xs.take n = xs := List.take_of_length_le (by omega)
    rw [e0] at h
    refine h.mono ?_
    rintro e w' ⟨rfl, q, rfl⟩
    have e1 : n - (i + 1 - i) = n - 1 := by omega
    refine ⟨.slice (some ⟨g, 0, none⟩) (n - 1) cap, by rw [e1], ?_, Fr.sets (.inl (by simp [Value.ownBlock])) _ _ ((Fr.refl _ w).drewN q), rfl⟩
    refine row_mk (Blk.sets _ _ (hg.drewN q)) hbg (by omega) hmc (by rw [setL_size]; omega) ?_
    have hl : (xs.take i ++ xs.drop (i + 1) ++ List.replicate (i + 1 - i) (0 : Int)).length = n := by simp [hxl]; omega
    have hl3 : (xs.take i ++ xs.drop (i + 1)).length = n - 1 := by simp [hxl]; omega
    rw [setL_list _ _ _ (by rw [List.length_map, hl]; omega), List.take_zero, List.nil_append, Nat.mul_one, List.map_append, List.append_assoc, List.take_left' (by rw [List.length_map, hl3]), List.eraseIdx_eq_take_drop_succ]
    rfl
theorem clone_calls {B : Nat} {w : World} {v : Value} {n : Nat} {xs : List Int} (hr : w.ownsRow B 3 1 v n (ints xs)) (hn : n ≤ 1000000) :
    Calls Tryd.prog 33 #[v] w fun e w' => ∃ v', e = .returned v' ∧ w'.ownsRow w.heap.size 3 1 v' n (ints xs) ∧ Fr [] w w' := by
  have hxl : xs.length = n := by have := row_len hr; rw [ints_len, Nat.mul_one] at this; exact this
  rcases row_form hr with ⟨rfl, h0, hx0⟩ | ⟨g, cap, rfl, hbg, -, hnc, hmc⟩
  · have h := Go.Proofs.Any.slices_Clone_int_nil Tryd.lNm2_15 0 0 w
    refine h.mono ?_
    rintro e w' ⟨rfl, rfl⟩
    refine ⟨_, rfl, ?_, Fr.refl _ _⟩
    rw [h0, hx0]
    exact World.ownsRow_nil _ _ _ _
  · have h := Go.Proofs.Any.slices_Clone_int Tryd.lNm2_15 g 0 n cap xs w (by omega) (by omega) (ints_cell hr)
    rw [List.take_of_length_le (by omega)] at h
    refine h.mono ?_
    rintro e w' ⟨v', rfl, hown, -, hb⟩
    exact ⟨v', rfl, hown, Fr.of_below hb _⟩
end Go.Proofs.YtpipgkglacmoeaaDoor
