/- The reference's badges in the pure: a list of pairs by rising numbers. -/
import Derived.Test.YtpipgkglacmoeaaDoorLawBBack
namespace Go.Proofs.YtpipgkglacmoeaaDoor
open Go.RowKit

def addL (id : Int) (e : Ent) : List (Int × Ent) → List (Int × Ent)
  | [] => [(id, e)]
  | x :: r => if id < x.1 then (id, e) :: x :: r else x :: addL id e r
def stepA (id : Int) (e : Ent) (s : List (Int × Ent) × Bool) (x : Int × Ent) : List (Int × Ent) × Bool := if s.2 = false ∧ id < x.1 then (s.1 ++ [(id, e), x], true) else (s.1 ++ [x], s.2)
def foldA (id : Int) (e : Ent) (ls : List (Int × Ent)) : List (Int × Ent) × Bool := ls.foldl (stepA id e) ([], false)
theorem fold_true (id : Int) (e : Ent) : ∀ (ls out : List (Int × Ent)), ls.foldl (stepA id e) (out, true) = (out ++ ls, true)
  | [], out => by simp
  | x :: r, out => by
    rw [List.foldl_cons]
    have : stepA id e (out, true) x = (out ++ [x], true) := by unfold stepA; rw [if_neg (by simp)]
    rw [this, fold_true id e r]; simp
theorem fold_false (id : Int) (e : Ent) : ∀ (ls out : List (Int × Ent)), (let s := ls.foldl (stepA id e) (out, false); if s.2 = false then s.1 ++ [(id, e)] else s.1) = out ++ addL id e ls
  | [], out => by simp [addL]
  | x :: r, out => by
    rw [List.foldl_cons]
    by_cases h : id < x.1
    · have : stepA id e (out, false) x = (out ++ [(id, e), x], true) := by unfold stepA; rw [if_pos ⟨rfl, h⟩]
      rw [this, fold_true]
      simp [addL, h]
    · have : stepA id e (out, false) x = (out ++ [x], false) := by unfold stepA; rw [if_neg (by simp [h])]
      rw [this, fold_false id e r]
      simp [addL, h]
theorem fold_end (id : Int) (e : Ent) (ls : List (Int × Ent)) : (if (foldA id e ls).2 = false then (foldA id e ls).1 ++ [(id, e)] else (foldA id e ls).1) = addL id e ls := by
  have := fold_false id e ls []
  rw [List.nil_append] at this
  exact this
theorem fold_succ (id : Int) (e : Ent) {ls : List (Int × Ent)} {k : Nat} {x : Int × Ent} (hx : ls[k]? = some x) : foldA id e (ls.take (k + 1)) = stepA id e (foldA id e (ls.take k)) x := by
  unfold foldA
  rw [List.take_add_one, hx, Option.toList_some, List.foldl_append]; rfl
theorem fold_len (id : Int) (e : Ent) : ∀ (ls : List (Int × Ent)) (s : List (Int × Ent) × Bool), (ls.foldl (stepA id e) s).1.length ≤ s.1.length + 2 * ls.length
  | [], s => by simp
  | x :: r, s => by
    rw [List.foldl_cons]
    refine Nat.le_trans (fold_len id e r _) ?_
    have : (stepA id e s x).1.length ≤ s.1.length + 2 := by
      unfold stepA; split <;> simp
    rw [List.length_cons]; omega
theorem addL_map {id : Int} {e : Ent} : ∀ {ls : List (Int × Ent)}, id ∉ ls.map (·.1) → (addL id e ls).map (·.1) = insL id (ls.map (·.1))
  | [], _ => rfl
  | x :: r, h => by
    rw [List.map_cons, List.mem_cons, not_or] at h
    unfold addL
    rw [List.map_cons, insL]
    by_cases hx : id < x.1
    · rw [if_pos hx, if_neg (by omega)]; rfl
    · rw [if_neg hx, if_pos (by have := h.1; omega), List.map_cons, addL_map h.2]
theorem addL_mem {id : Int} {e : Ent} {p : Int × Ent} : ∀ {ls : List (Int × Ent)}, p ∈ addL id e ls ↔ p ∈ ls ∨ p = (id, e)
  | [] => by simp [addL]
  | x :: r => by
    unfold addL
    split
    · simp only [List.mem_cons]
      constructor
      · rintro (h | h | h)
        · exact .inr h
        · exact .inl (.inl h)
        · exact .inl (.inr h)
      · rintro ((h | h) | h)
        · exact .inr (.inl h)
        · exact .inr (.inr h)
        · exact .inl h
    · rw [List.mem_cons, addL_mem, List.mem_cons, or_assoc]
/-- the two tell the same -/
structure RelP (ps : List (Int × Ent)) (ds : List Int) (ls : List (Int × Ent)) : Prop where
  ids : ls.map (·.1) = ds
  mem : ∀ p, p ∈ ls ↔ p ∈ ps
theorem RelP.start : RelP [] [] [] := ⟨rfl, by simp⟩
section
variable {ps ls : List (Int × Ent)} {ds : List Int} {nx : Int}
theorem RelP.own (h : RelP ps ds ls) (hG : Good ps ds nx) (id : Int) : ownOf ls id = ownOf ps id := by
  have hn : (ls.map (·.1)).Nodup := by rw [h.ids]; exact nodup_of_sorted hG.sorted
  cases hp : ownOf ps id with
  | some e => exact own_of_mem hn ((h.mem _).mpr (own_some hp))
  | none =>
    refine own_none_of fun hm => own_none hp ?_
    obtain ⟨p, hp', rfl⟩ := List.mem_map.mp hm
    exact List.mem_map.mpr ⟨p, (h.mem p).mp hp', rfl⟩
theorem RelP.idq (h : RelP ps ds ls) (hG : Good ps ds nx) (e : Ent) : idOf ls e = idOf ps e := by
  cases hp : idOf ps e with
  | none =>
    refine id_none_of fun hm => id_none hp ?_
    obtain ⟨p, hp', rfl⟩ := List.mem_map.mp hm
    exact List.mem_map.mpr ⟨p, (h.mem p).mp hp', rfl⟩
  | some i =>
    cases hl : idOf ls e with
    | none => exact absurd (List.mem_map.mpr ⟨_, (h.mem _).mpr (id_some hp), rfl⟩) (id_none hl)
    | some j =>
      have h1 := (h.mem _).mp (id_some hl)
      have h2 := id_some hp
      exact congrArg some (Prod.mk.inj (inj_of_nodup hG.ents h1 h2 rfl)).1
theorem RelP.add (h : RelP ps ds ls) {id : Int} {e : Ent} (hi : id ∉ ps.map (·.1)) : RelP (ps ++ [(id, e)]) (insL id ds) (addL id e ls) := by
  have hl : id ∉ ls.map (·.1) := fun hm => by
    obtain ⟨p, hp', rfl⟩ := List.mem_map.mp hm
    exact hi (List.mem_map.mpr ⟨p, (h.mem p).mp hp', rfl⟩)
  refine ⟨by rw [addL_map hl, h.ids], fun p => ?_⟩
  rw [addL_mem, List.mem_append, h.mem, List.mem_singleton]
theorem RelP.drop (h : RelP ps ds ls) (id : Int) : RelP (dropP ps id) (dropD ds id) (dropP ls id) := by
  refine ⟨?_, fun p => ?_⟩
  · rw [← h.ids]
    unfold dropP dropD
    rw [List.filter_map]; rfl
  · unfold dropP
    rw [List.mem_filter, List.mem_filter, h.mem]
theorem RelP.len (h : RelP ps ds ls) : ls.length = ds.length := by rw [← h.ids, List.length_map]
end
end Go.Proofs.YtpipgkglacmoeaaDoor
