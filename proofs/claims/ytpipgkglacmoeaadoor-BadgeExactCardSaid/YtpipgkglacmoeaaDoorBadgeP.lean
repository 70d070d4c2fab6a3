/- Badges in the pure: pairs in the order in which they came, the numbers by rising order. -/
import Derived.Test.YtpipgkglacmoeaaDoorMaps
import Derived.Test.YtpipgkglacmoeaaDoorSame
namespace Go.Proofs.YtpipgkglacmoeaaDoor
open Go.RowKit

abbrev Ent := Int × Int
def encE (e : Ent) : Value := .agg #[.int .i64 e.1, .int .i64 e.2]
def encId (i : Int) : Value := .int .i64 i
def owners (ps : List (Int × Ent)) : List (Int × Value) := ps.map fun p => (p.1, encE p.2)
def idsOf (ps : List (Int × Ent)) : List (Ent × Value) := ps.map fun p => (p.2, encId p.1)
def ownOf (ps : List (Int × Ent)) (id : Int) : Option Ent := (ps.find? fun p => p.1 == id).map (·.2)
def idOf (ps : List (Int × Ent)) (e : Ent) : Option Int := (ps.find? fun p => p.2 == e).map (·.1)
theorem find_owners (ps : List (Int × Ent)) (id : Int) : ∀ i, (findK id (owners ps) i).map (·.2) = (ownOf ps id).map encE := by
  induction ps with
  | nil => intro i; rfl
  | cons p r ih =>
    intro i
    unfold owners ownOf
    rw [List.map_cons, findK, List.find?_cons]
    by_cases h : id = p.1
    · rw [if_pos h, beq_iff_eq.mpr h.symm]; rfl
    · rw [if_neg h, beq_eq_false_iff_ne.mpr (Ne.symm h)]; exact ih (i + 1)
theorem find_ids (ps : List (Int × Ent)) (e : Ent) : ∀ i, (findK e (idsOf ps) i).map (·.2) = (idOf ps e).map encId := by
  induction ps with
  | nil => intro i; rfl
  | cons p r ih =>
    intro i
    unfold idsOf idOf
    rw [List.map_cons, findK, List.find?_cons]
    by_cases h : e = p.2
    · rw [if_pos h, beq_iff_eq.mpr h.symm]; rfl
    · rw [if_neg h, beq_eq_false_iff_ne.mpr (Ne.symm h)]; exact ih (i + 1)
theorem own_some {ps : List (Int × Ent)} {id : Int} {e : Ent} (h : ownOf ps id = some e) : (id, e) ∈ ps := by
  unfold ownOf at h
  obtain ⟨p, hp, rfl⟩ := Option.map_eq_some_iff.mp h
  have h1 := List.mem_of_find?_eq_some hp
  have h2 := List.find?_some hp
  simp only [beq_iff_eq] at h2
  rw [← h2]; exact h1
theorem own_none {ps : List (Int × Ent)} {id : Int} (h : ownOf ps id = none) : id ∉ ps.map (·.1) := by
  unfold ownOf at h
  rw [Option.map_eq_none_iff, List.find?_eq_none] at h
  intro hm
  obtain ⟨p, hp, rfl⟩ := List.mem_map.mp hm
  exact h p hp (by simp)
theorem id_some {ps : List (Int × Ent)} {id : Int} {e : Ent} (h : idOf ps e = some id) : (id, e) ∈ ps := by
  unfold idOf at h
  obtain ⟨p, hp, rfl⟩ := Option.map_eq_some_iff.mp h
  have h1 := List.mem_of_find?_eq_some hp
  have h2 := List.find?_some hp
  simp only [beq_iff_eq] at h2
  rw [← h2]; exact h1
theorem id_none {ps : List (Int × Ent)} {e : Ent} (h : idOf ps e = none) : e ∉ ps.map (·.2) := by
  unfold idOf at h
  rw [Option.map_eq_none_iff, List.find?_eq_none] at h
  intro hm
  obtain ⟨p, hp, rfl⟩ := List.mem_map.mp hm
  exact h p hp (by simp)
theorem inj_of_nodup {α β : Type} {f : α → β} {l : List α} (hd : (l.map f).Nodup) {a b : α} (ha : a ∈ l) (hb : b ∈ l) (h : f a = f b) : a = b := by
  obtain ⟨i, hi⟩ := List.getElem?_of_mem ha
  obtain ⟨j, hj⟩ := List.getElem?_of_mem hb
  have e1 : (l.map f)[i]? = some (f a) := by rw [List.getElem?_map, hi]; rfl
  have e2 : (l.map f)[j]? = some (f a) := by rw [List.getElem?_map, hj, h]; rfl
  have : i = j := (List.getElem?_inj (List.getElem?_eq_some_iff.1 e1).1 hd).1 (e1.trans e2.symm)
  subst this
  exact Option.some.inj (hi.symm.trans hj)
theorem own_of_mem {ps : List (Int × Ent)} (hd : (ps.map (·.1)).Nodup) {id : Int} {e : Ent} (h : (id, e) ∈ ps) : ownOf ps id = some e := by
  cases hc : ownOf ps id with
  | none => exact absurd (List.mem_map.mpr ⟨_, h, rfl⟩) (own_none hc)
  | some e' => exact congrArg some (Prod.mk.inj (inj_of_nodup hd (own_some hc) h rfl)).2
theorem id_of_mem {ps : List (Int × Ent)} (hd : (ps.map (·.2)).Nodup) {id : Int} {e : Ent} (h : (id, e) ∈ ps) : idOf ps e = some id := by
  cases hc : idOf ps e with
  | none => exact absurd (List.mem_map.mpr ⟨_, h, rfl⟩) (id_none hc)
  | some i' => exact congrArg some (Prod.mk.inj (inj_of_nodup hd (id_some hc) h rfl)).1
/-- a number more in a rising list -/
def insL (x : Int) : List Int → List Int
  | [] => [x]
  | d :: r => if d < x then d :: insL x r else x :: d :: r
theorem ins_at (x : Int) : ∀ {ds : List Int}, ds.Pairwise (· < ·) → ds.take (ds.countP (· < x)) ++ x :: ds.drop (ds.countP (· < x)) = insL x ds
  | [], _ => rfl
  | d :: r, h => by
    rw [List.pairwise_cons] at h
    unfold insL
    by_cases hd : d < x
    · rw [if_pos hd, List.countP_cons_of_pos (by simpa using hd), List.take_succ_cons, List.drop_succ_cons, List.cons_append, ins_at x h.2]
    · have h0 : (d :: r).countP (· < x) = 0 := by
        rw [List.countP_eq_zero]
        intro y hy
        rcases List.mem_cons.mp hy with rfl | hy
        · simpa using hd
        · have := h.1 y hy; simp; omega
      rw [if_neg hd, h0]; rfl
theorem ins_mem (x y : Int) : ∀ ds : List Int, y ∈ insL x ds ↔ y = x ∨ y ∈ ds
  | [] => by simp [insL]
  | d :: r => by
    unfold insL
    split
    · rw [List.mem_cons, ins_mem x y r, List.mem_cons]
      constructor
      · rintro (h | h | h)
        · exact .inr (.inl h)
        · exact .inl h
        · exact .inr (.inr h)
      · rintro (h | h | h)
        · exact .inr (.inl h)
        · exact .inl h
        · exact .inr (.inr h)
    · rw [List.mem_cons]
theorem ins_len (x : Int) : ∀ ds : List Int, (insL x ds).length = ds.length + 1
  | [] => rfl
  | d :: r => by
    unfold insL
    split
    · rw [List.length_cons, ins_len x r]; rfl
    · rfl
theorem ins_sorted (x : Int) : ∀ {ds : List Int}, ds.Pairwise (· < ·) → x ∉ ds → (insL x ds).Pairwise (· < ·)
  | [], _, _ => by simp [insL]
  | d :: r, h, hx => by
    rw [List.pairwise_cons] at h
    rw [List.mem_cons, not_or] at hx
    unfold insL
    split
    · rename_i hd
      refine List.pairwise_cons.mpr ⟨fun y hy => ?_, ins_sorted x h.2 hx.2⟩
      rcases (ins_mem x y r).mp hy with rfl | hy
      · exact hd
      · exact h.1 y hy
    · rename_i hd
      refine List.pairwise_cons.mpr ⟨fun y hy => ?_, List.pairwise_cons.mpr h⟩
      rcases List.mem_cons.mp hy with rfl | hy
      · omega
      · have := h.1 y hy; omega
/-- the place of a number in a rising list -/
theorem count_at (x : Int) : ∀ {ds : List Int}, ds.Pairwise (· < ·) → x ∈ ds → ds[ds.countP (· < x)]? = some x ∧ ds.countP (· < x) < ds.length
  | [], _, h => by cases h
  | d :: r, h, hx => by
    rw [List.pairwise_cons] at h
    rcases List.mem_cons.mp hx with rfl | hx
    · have h0 : (x :: r).countP (· < x) = 0 := by
        rw [List.countP_eq_zero]
        intro y hy
        rcases List.mem_cons.mp hy with rfl | hy
        · simp
        · have := h.1 y hy; simp; omega
      rw [h0]; exact ⟨rfl, by simp⟩
    · have hd := h.1 x hx
      rw [List.countP_cons_of_pos (by simpa using hd)]
      have := count_at x h.2 hx
      exact ⟨by rw [List.getElem?_cons_succ]; exact this.1, by rw [List.length_cons]; omega⟩
theorem nodup_of_sorted {ds : List Int} (h : ds.Pairwise (· < ·)) : ds.Nodup := h.imp fun h => by omega
theorem erase_mem {ds : List Int} (h : ds.Nodup) {i : Nat} {x y : Int} (hx : ds[i]? = some x) : y ∈ ds.eraseIdx i ↔ y ∈ ds ∧ y ≠ x := by
  induction ds generalizing i with
  | nil => simp at hx
  | cons d r ih =>
    rw [List.nodup_cons] at h
    cases i with
    | zero =>
      simp only [List.getElem?_cons_zero, Option.some.injEq] at hx
      subst hx
      rw [List.eraseIdx_cons_zero, List.mem_cons]
      constructor
      · intro hy; exact ⟨.inr hy, fun e => h.1 (e ▸ hy)⟩
      · rintro ⟨h1 | h1, h2⟩
        · exact absurd h1 h2
        · exact h1
    | succ i =>
      simp only [List.getElem?_cons_succ] at hx
      have hm := List.mem_of_getElem? hx
      rw [List.eraseIdx_cons_succ, List.mem_cons, ih h.2 hx, List.mem_cons]
      constructor
      · rintro (rfl | ⟨h1, h2⟩)
        · exact ⟨.inl rfl, fun e => h.1 (e ▸ hm)⟩
        · exact ⟨.inr h1, h2⟩
      · rintro ⟨h1 | h1, h2⟩
        · exact .inl h1
        · exact .inr ⟨h1, h2⟩
/-- what holds of badges -/
structure Good (ps : List (Int × Ent)) (ds : List Int) (nx : Int) : Prop where
  ids : (ps.map (·.1)).Nodup
  ents : (ps.map (·.2)).Nodup
  sorted : ds.Pairwise (· < ·)
  same : ∀ d, d ∈ ds ↔ d ∈ ps.map (·.1)
  len : ds.length = ps.length
  pos : ∀ d ∈ ds, 1 ≤ d ∧ d < nx
  nx1 : 1 ≤ nx
  nx2 : nx ≤ 1073741825
theorem Good.start : Good [] [] 1 := ⟨.nil, .nil, .nil, by simp, rfl, by simp, by omega, by omega⟩
section
variable {ps : List (Int × Ent)} {ds : List Int} {nx : Int}
theorem Good.own (h : Good ps ds nx) {id nx' : Int} {e : Ent} (hi : id ∉ ps.map (·.1)) (he : e ∉ ps.map (·.2)) (h1 : 1 ≤ id) (h2 : id < nx') (h3 : nx ≤ nx') (h4 : nx' ≤ 1073741825) : Good (ps ++ [(id, e)]) (insL id ds) nx' := by
  have hd : id ∉ ds := fun hm => hi ((h.same id).mp hm)
  refine ⟨?_, ?_, ins_sorted id h.sorted hd, fun d => ?_, by rw [ins_len, h.len, List.length_append]; rfl, fun d hm => ?_, by omega, h4⟩
  · rw [List.map_append, List.nodup_append]
    refine ⟨h.ids, by simp, fun a ha b hb => ?_⟩
    simp only [List.map_cons, List.map_nil, List.mem_singleton] at hb
    subst hb
    exact fun e => hi (e ▸ ha)
  · rw [List.map_append, List.nodup_append]
    refine ⟨h.ents, by simp, fun a ha b hb => ?_⟩
    simp only [List.map_cons, List.map_nil, List.mem_singleton] at hb
    subst hb
    exact fun e => he (e ▸ ha)
  · rw [ins_mem, h.same, List.map_append, List.mem_append]
    simp only [List.map_cons, List.map_nil, List.mem_singleton]
    exact or_comm
  · rcases (ins_mem id d ds).mp hm with rfl | hm
    · exact ⟨h1, h2⟩
    · have := h.pos d hm; omega
theorem mem_erase_idx {α : Type} {l : List α} {j : Nat} {x : α} (h : x ∈ l.eraseIdx j) : x ∈ l := List.mem_of_mem_eraseIdx h
theorem nodup_erase {α : Type} {l : List α} (h : l.Nodup) (j : Nat) : (l.eraseIdx j).Nodup := h.sublist (List.eraseIdx_sublist l j)
theorem Good.drop (h : Good ps ds nx) {id : Int} {e : Ent} {j i : Nat} (hj : ps[j]? = some (id, e)) (hi : ds[i]? = some id) : Good (ps.eraseIdx j) (ds.eraseIdx i) nx := by
  have hl1 : j < ps.length := (List.getElem?_eq_some_iff.1 hj).1
  have hl2 : i < ds.length := (List.getElem?_eq_some_iff.1 hi).1
  refine ⟨by rw [erase_map]; exact nodup_erase h.ids j, by rw [erase_map]; exact nodup_erase h.ents j, h.sorted.sublist (List.eraseIdx_sublist ds i), fun d => ?_, ?_, fun d hd => h.pos d (mem_erase_idx hd), h.nx1, h.nx2⟩
  · have e1 : (ps.map (·.1))[j]? = some id := by rw [List.getElem?_map, hj]; rfl
    rw [erase_map, erase_mem (nodup_of_sorted h.sorted) hi, erase_mem h.ids e1, h.same]
  · rw [List.length_eraseIdx_of_lt hl1, List.length_eraseIdx_of_lt hl2, h.len]
end
end Go.Proofs.YtpipgkglacmoeaaDoor
