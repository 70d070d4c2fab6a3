/- slices.Insert, Delete, BinarySearch, Clone at []int in the words of rows that a slice owns. -/
import Derived.Test.YtpipgkglacmoeaaDoorShelf
import Derived.Test.YtpipgkglacmoeaaDoorSame
import Derived.Test.YtpipgkglacmoeaaDoorRest
namespace Go.Proofs.YtpipgkglacmoeaaDoor
open Go.RowKit

def setL (cs : Array Value) : Nat → List Value → Array Value
  | _, [] => cs
  | o, v :: r => setL (cs.setIfInBounds o v) (o + 1) r
theorem setL_list : ∀ (vs : List Value) (o : Nat) (cs : Array Value), o + vs.length ≤ cs.size → (setL cs o vs).toList = cs.toList.take o ++ (vs ++ cs.toList.drop (o + vs.length))
  | [], o, cs, _ => by rw [setL]; simp
  | v :: r, o, cs, h => by
    rw [List.length_cons] at h
    rw [setL, setL_list r (o + 1) _ (by rw [Array.size_setIfInBounds]; omega), Array.toList_setIfInBounds]
    have hlt : o < cs.toList.length := by rw [Array.length_toList]; omega
    rw [List.take_add_one, List.getElem?_set_self hlt, List.take_set_of_le (Nat.le_refl o), List.length_cons, List.drop_set_of_lt (by omega), show o + 1 + r.length = o + (r.length + 1) from by omega]
    simp
theorem setL_size : ∀ (vs : List Value) (o : Nat) (cs : Array Value), (setL cs o vs).size = cs.size
  | [], _, _ => rfl
  | v :: r, o, cs => by rw [setL, setL_size r, Array.size_setIfInBounds]
theorem Blk.sets {g : Nat} {t : TypeId} : ∀ (vs : List Value) (o : Nat) {w : World} {cs : Array Value}, Blk w g t cs → Blk (w.setCells g o vs) g t (setL cs o vs)
  | [], _, _, _, h => h
  | v :: r, o, _, _, h => Blk.sets r (o + 1) (h.set_ o v)
theorem Fr.sets {S : List Nat} {a : World} {g : Nat} (hg : g ∈ S ∨ a.heap.size ≤ g) : ∀ (vs : List Value) (o : Nat) {w : World}, Fr S a w → Fr S a (w.setCells g o vs)
  | [], _, _, h => h
  | v :: r, o, _, h => Fr.sets hg r (o + 1) (h.setCell hg v)
theorem ints_one (xs : List Int) : ∀ v ∈ ints xs, v.oneCell' = true := by
  intro v hv
  obtain ⟨x, -, rfl⟩ := List.mem_map.mp hv
  rfl
theorem ints_split (xs : List Int) (i : Nat) (x : Int) : ints (xs.take i ++ x :: xs.drop i) = (ints xs).take i ++ Value.int .i64 x :: (ints xs).drop i := by simp [ints]
theorem blk_shape {w : World} {g : Nat} {t : TypeId} {cs : Array Value} (h : Blk w g t cs) : w.shape? g = some (t, cs.size) := by
  unfold Blk at h
  simp [World.shape?, h]
/-- what Insert gives -/
def InsPost' (B n : Nat) (w : World) (v : Value) (ys : List Int) (e : Ending) (w' : World) : Prop :=
  ∃ v', e = .returned v' ∧ w'.ownsRow B 3 1 v' n (ints ys) ∧ Fr v.ownBlock.toList w w' ∧ (v'.ownBlock = v.ownBlock ∨ ∃ k, v'.ownBlock = some k ∧ w.heap.size ≤ k)
theorem insert_calls {B : Nat} {w : World} {v : Value} {n : Nat} {xs : List Int} (hr : w.ownsRow B 3 1 v n (ints xs)) (hB : B ≤ w.heap.size) (hn : n ≤ 1000000) {vb : Nat} {x : Int} (hv : Blk w vb 3 #[.int .i64 x]) (hne : v.ownBlock ≠ some vb) {i : Nat} (hi : i ≤ n) :
    Calls Tryd.prog 39 #[v, .int .i64 i, .slice (some ⟨vb, 0, none⟩) 1 1] w (InsPost' B (n + 1) w v (xs.take i ++ x :: xs.drop i)) := by
  have hxl : xs.length = n := by have := row_len hr; rw [ints_len, Nat.mul_one] at this; exact this
  have hvs : ∀ j u, [Value.int .i64 x][j]? = some u → w.cell? ⟨vb, 0 + j, none⟩ = some u := by
    intro j u hu
    rw [Nat.zero_add]
    exact hv.at_ j (by simpa using hu)
  have h1v : ∀ u ∈ [Value.int .i64 x], u.oneCell' = true := by simp [Value.oneCell']
  have hX : (ints xs).length = n := by rw [ints_len, hxl]
  have hend : i = n → xs.take i ++ x :: xs.drop i = xs ++ [x] := by rintro rfl; rw [List.take_of_length_le (by omega), List.drop_of_length_le (by omega)]
  rcases row_form hr with ⟨rfl, h0, hx0⟩ | ⟨g, cap, rfl, hbg, hlg, hnc, hmc⟩
  · subst h0
    obtain rfl : i = 0 := by omega
    have h := Go.Proofs.Any2.slices_Insert_int_end_grow Tryd.lNm2_21 none 0 0 vb 0 1 1 [] [.int .i64 x] w (by omega) (by omega) (by omega) (by omega) rfl rfl (fun _ => rfl) (fun a h => by cases h) hvs h1v
    refine h.mono ?_
    rintro e w' ⟨rfl, rfl⟩
    have hc1 : 1 ≤ grownCap w 1 0 3 := grownCap_ge w 1 0 3
    have hc2 : grownCap w 1 0 3 ≤ maxLen := grownCap_le_maxLen w 1 0 3 (by simp [maxLen])
    refine ⟨_, rfl, ?_, ((Fr.refl _ w).drew).alloc _, .inr ⟨_, rfl, Nat.le_refl _⟩⟩
    refine row_mk (Blk.new_at _ _ _ _ rfl) hB hc1 hc2 ?_ ?_
    · simp [size_zeroCells, Value.cells]
      have : Tryd.lNm2_21_ren.t 3 = 3 := rfl
      rw [this]; omega
    · obtain rfl : xs = [] := List.eq_nil_of_length_eq_zero hxl
      simp [ints]
  · obtain ⟨cur, hg, -, -, -, hcs, hct⟩ := row_blk hr
    rw [Nat.mul_one] at hcs hct
    have hcell : ∀ j u, (ints xs)[j]? = some u → w.cell? ⟨g, 0 + j, none⟩ = some u := fun j u hu => by rw [Nat.zero_add]; exact row_cell hr hu
    have hgv : vb ≠ g := fun e => hne (by rw [e]; rfl)
    rcases Nat.lt_or_ge i n with hin | hin
    · rcases Nat.lt_or_ge cap (n + 1) with hroom | hroom
      · have h := Go.Proofs.Any2.slices_Insert_int_grow Tryd.lNm2_21 g 0 n cap i vb 0 1 1 (ints xs) [.int .i64 x] w hin (by omega) hnc hroom (by omega) hX rfl hcell hvs (ints_one xs) h1v
        refine h.mono ?_
        rintro e w' ⟨rfl, rfl⟩
        have hc1 := grownCap_ge w (n + 1) cap 3
        have hc2 := grownCap_le_maxLen w (n + 1) cap 3 (by unfold maxLen; omega)
        have hren : Tryd.lNm2_21_ren.t 3 = 3 := rfl
        rw [hren]
        refine ⟨_, rfl, ?_, ?_, .inr ⟨_, rfl, Nat.le_refl _⟩⟩
        · refine row_mk (Blk.sets _ _ ((Blk.sets _ _ ((Blk.new_at w _ _ _ rfl).drew)).drew)) hB hc1 hc2 ?_ ?_
          · rw [setL_size, setL_size]
            simp [size_zeroCells, Value.cells, hX]; omega
          · rw [setL_list _ _ _ (by rw [setL_size]; simp [size_zeroCells, Value.cells, hX]; omega), setL_list _ _ _ (by simp [size_zeroCells, Value.cells, hX]; omega), ints_split]
            have e1 : (((ints xs).take i).toArray ++ Builtin.zeroCells (Value.int .i64 0).cells (n + 1 - i) ++ Builtin.zeroCells (Value.int .i64 0).cells (grownCap w (n + 1) cap 3 - (n + 1))).toList.take i = (ints xs).take i := by
              rw [Array.toList_append, Array.toList_append, List.append_assoc, List.take_append_of_le_length (by simp [hX]; omega), List.toList_toArray, List.take_take, Nat.min_self]
            rw [e1]
            have hl : ((ints xs).take i).length = i := by rw [List.length_take, hX]; omega
            rw [List.length_singleton, ← List.append_assoc, List.take_append_of_le_length (by simp [hX]; omega), List.take_of_length_le (by simp [hX]; omega)]
            rw [← List.append_assoc, List.take_append_of_le_length (by simp [hX]; omega), List.take_of_length_le (by simp [hX]; omega)]
            simp
        · exact Fr.sets (.inr (Nat.le_refl _)) _ _ (Fr.drew (Fr.sets (.inr (Nat.le_refl _)) _ _ (Fr.drew ((Fr.refl _ w).alloc _))))
      · have h := Go.Proofs.Any2.slices_Insert_int_shift Tryd.lNm2_21 g 0 n cap i vb 0 1 1 (ints xs) [.int .i64 x] w hin (by omega) hroom (by unfold maxLen at hmc; omega) hgv hX rfl hcell
          (fun j hj => by rw [Nat.zero_add, hg.cell]; simp [show j < cur.size from by omega]) (fun j _ => by rw [Nat.zero_add]; exact hg.frozen j) hvs (ints_one xs) h1v 3 3 1 cap (blk_shape hv) (by rw [blk_shape hg, hcs]) (by omega) (hv.frozen 0) (hv.frozen 1)
        refine h.mono ?_
        rintro e w' ⟨rfl, rfl⟩
        refine ⟨_, rfl, ?_, ?_, .inl rfl⟩
        · refine row_mk (Blk.sets _ _ (Blk.sets _ _ hg.drew)) hbg hroom hmc ?_ ?_
          · rw [setL_size, setL_size]; omega
          · rw [setL_list _ _ _ (by rw [setL_size]; simp; omega), setL_list _ _ _ (by simp [hX]; omega), ints_split, Nat.zero_add, Nat.zero_add]
            have e1 : (cur.toList.take (i + 1)).take i = (ints xs).take i := by rw [List.take_take, ← hct, List.take_take]; congr 1; omega
            have hl : (cur.toList.take (i + 1)).length = i + 1 := by rw [List.length_take, Array.length_toList, hcs]; omega
            have hl2 : ((ints xs).take i).length = i := by rw [List.length_take, hX]; omega
            generalize cur.toList.drop (i + 1 + ((ints xs).drop i).length) = T
            generalize cur.toList.take (i + 1) = c1 at e1 hl
            have e3 : (c1 ++ ((ints xs).drop i ++ T)).drop (i + 1) = (ints xs).drop i ++ T := by
              rw [List.drop_append_of_le_length (by omega), List.drop_of_length_le (l := c1) (by omega), List.nil_append]
            have e2 : (c1 ++ ((ints xs).drop i ++ T)).take i = (ints xs).take i := by rw [List.take_append_of_le_length (by omega), e1]
            rw [List.length_singleton, e2, e3, show (ints xs).take i ++ ([Value.int .i64 x] ++ ((ints xs).drop i ++ T)) = ((ints xs).take i ++ Value.int .i64 x :: (ints xs).drop i) ++ T from by simp]
            rw [List.take_append_of_le_length (by simp [hX]; omega), List.take_of_length_le (by simp [hX]; omega)]
        · exact Fr.sets (.inl (by simp [Value.ownBlock])) _ _ (Fr.sets (.inl (by simp [Value.ownBlock])) _ _ (Fr.drew (Fr.refl _ w)))
    · obtain rfl : i = n := by omega
      rw [hend rfl]
      have hi2 : ints (xs ++ [x]) = ints xs ++ [.int .i64 x] := by simp [ints]
      rcases Nat.lt_or_ge cap (i + 1) with hroom | hroom
      · have h := Go.Proofs.Any2.slices_Insert_int_end_grow Tryd.lNm2_21 (some ⟨g, 0, none⟩) i cap vb 0 1 1 (ints xs) [.int .i64 x] w (by omega) hnc hroom (by omega) hX rfl (fun h => by cases h)
          (fun a ha j u hu => by obtain rfl := Option.some.inj ha; rw [add_addr]; exact hcell j u hu) hvs h1v
        refine h.mono ?_
        rintro e w' ⟨rfl, rfl⟩
        have hc1 := grownCap_ge w (i + 1) cap 3
        have hc2 := grownCap_le_maxLen w (i + 1) cap 3 (by unfold maxLen; omega)
        have hren : Tryd.lNm2_21_ren.t 3 = 3 := rfl
        rw [hren]
        refine ⟨_, rfl, ?_, ((Fr.refl _ w).drew).alloc _, .inr ⟨_, rfl, Nat.le_refl _⟩⟩
        refine row_mk (Blk.new_at _ _ _ _ rfl) hB hc1 hc2 ?_ ?_
        · simp [size_zeroCells, Value.cells, hX]; omega
        · rw [hi2, Array.toList_append, List.toList_toArray, List.take_append_of_le_length (by simp [hX]), List.take_of_length_le (by simp [hX])]
      · have h := Go.Proofs.Any2.slices_Insert_int_end_room Tryd.lNm2_21 g 0 i cap vb 0 1 1 [.int .i64 x] w (by omega) hroom (by unfold maxLen at hmc; omega) rfl
          (fun j hj => by rw [Nat.zero_add, hg.cell]; simp [show i + j < cur.size from by omega]) (fun j _ => by rw [Nat.zero_add]; exact hg.frozen (i + j)) hvs h1v
        refine h.mono ?_
        rintro e w' ⟨rfl, rfl⟩
        refine ⟨_, rfl, ?_, Fr.sets (.inl (by simp [Value.ownBlock])) _ _ (Fr.refl _ w), .inl rfl⟩
        refine row_mk (Blk.sets _ _ hg) hbg hroom hmc ?_ ?_
        · rw [setL_size]; omega
        · rw [setL_list _ _ _ (by simp; omega), hi2, Nat.zero_add, hct, ← List.append_assoc, Nat.mul_one, List.take_append_of_le_length (by simp [hX]), List.take_of_length_le (by simp [hX])]
end Go.Proofs.YtpipgkglacmoeaaDoor
