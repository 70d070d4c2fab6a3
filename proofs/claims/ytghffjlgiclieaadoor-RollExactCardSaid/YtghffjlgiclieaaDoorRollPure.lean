/- Plain facts on lists of places: no program stands here. -/
import Derived.Test.YtghffjlgiclieaaDoorRoll3
namespace Go.Proofs.YtghffjlgiclieaaDoor

/-- what holds of a roll of n places: its free row holds just the places that aren't given, each once; generations up to bd -/
structure RInv (n : Nat) (ps : List (Int × Bool)) (row : List Nat) (bd : Int) : Prop where
  len : ps.length = n
  nodup : row.Nodup
  mem : ∀ i, i ∈ row ↔ ∃ g, ps[i]? = some (g, false)
  gen : ∀ (i : Nat) (g : Int) (b : Bool), ps[i]? = some (g, b) → 0 ≤ g ∧ g ≤ bd ∧ (b = true → 1 ≤ g)
  cnt : row.length + ps.countP (·.2) = n

theorem RInv.start (n : Nat) : RInv n (List.replicate n (0, false)) (List.range n).reverse 0 where
  len := by simp
  nodup := by
    show List.Pairwise _ _
    rw [List.pairwise_reverse]
    exact List.nodup_range.imp Ne.symm
  mem := fun i => by
    rw [List.mem_reverse, List.mem_range]
    constructor
    · intro h; exact ⟨0, by simp [h]⟩
    · rintro ⟨g, h⟩
      have := (List.getElem?_eq_some_iff.1 h).1
      simpa using this
  gen := fun i g b h => by
    have := List.mem_of_getElem? h
    have := (List.mem_replicate.1 this).2
    injection this with h1 h2
    subst h1; subst h2
    simp
  cnt := by simp [List.countP_replicate]

theorem RInv.mono {n : Nat} {ps : List (Int × Bool)} {row : List Nat} {bd bd' : Int} (h : RInv n ps row bd) (hb : bd ≤ bd') : RInv n ps row bd' :=
  ⟨h.len, h.nodup, h.mem, fun i g b e => by have := h.gen i g b e; exact ⟨this.1, by omega, this.2.2⟩, h.cnt⟩

theorem countP_set_true {ps : List (Int × Bool)} {i : Nat} {g : Int} {x : Int × Bool} (h : ps[i]? = some (g, false)) (hx : x.2 = true) : (ps.set i x).countP (·.2) = ps.countP (·.2) + 1 := by
  obtain ⟨hi, hv⟩ := List.getElem?_eq_some_iff.1 h
  rw [List.countP_set hi]
  simp [hv, hx]
theorem countP_set_false {ps : List (Int × Bool)} {i : Nat} {g : Int} {x : Int × Bool} (h : ps[i]? = some (g, true)) (hx : x.2 = false) : (ps.set i x).countP (·.2) + 1 = ps.countP (·.2) := by
  obtain ⟨hi, hv⟩ := List.getElem?_eq_some_iff.1 h
  rw [List.countP_set hi]
  have : 0 < ps.countP (·.2) := List.countP_pos_iff.2 ⟨ps[i], List.getElem_mem hi, by rw [hv]⟩
  simp [hv, hx]
  omega

theorem RInv.last {n : Nat} {ps : List (Int × Bool)} {row : List Nat} {bd : Int} {i : Nat} (h : RInv n ps (row ++ [i]) bd) : ∃ g, ps[i]? = some (g, false) ∧ 0 ≤ g ∧ g ≤ bd ∧ i < n := by
  obtain ⟨g, hg⟩ := (h.mem i).1 (by simp)
  have := h.gen i g false hg
  exact ⟨g, hg, this.1, this.2.1, by rw [← h.len]; exact (List.getElem?_eq_some_iff.1 hg).1⟩

theorem RInv.take {n : Nat} {ps : List (Int × Bool)} {row : List Nat} {bd : Int} {i : Nat} {g : Int} (h : RInv n ps (row ++ [i]) bd) (hg : ps[i]? = some (g, false)) : RInv n (ps.set i (g + 1, true)) row (bd + 1) where
  len := by simp [h.len]
  nodup := by have := h.nodup; rw [List.nodup_append] at this; exact this.1
  mem := fun j => by
    have hi : i < ps.length := (List.getElem?_eq_some_iff.1 hg).1
    have hn := h.nodup
    rw [List.nodup_append] at hn
    by_cases hij : i = j
    · subst hij
      constructor
      · intro hm
        exact absurd rfl (hn.2.2 i hm i (by simp))
      · rintro ⟨g', e⟩
        simp [hi] at e
    · rw [List.getElem?_set_ne hij, ← h.mem j]
      simp [Ne.symm hij]
  gen := fun j g' b e => by
    have hi : i < ps.length := (List.getElem?_eq_some_iff.1 hg).1
    have h0 := h.gen i g false hg
    by_cases hij : i = j
    · subst hij
      simp [hi] at e
      obtain ⟨rfl, rfl⟩ := e
      omega
    · rw [List.getElem?_set_ne hij] at e
      have := h.gen j g' b e
      exact ⟨this.1, by omega, this.2.2⟩
  cnt := by
    have := h.cnt
    rw [countP_set_true hg rfl]
    simp at this
    omega

theorem RInv.free {n : Nat} {ps : List (Int × Bool)} {row : List Nat} {bd : Int} {i : Nat} {g : Int} (h : RInv n ps row bd) (hg : ps[i]? = some (g, true)) : RInv n (ps.set i (g, false)) (row ++ [i]) bd where
  len := by simp [h.len]
  nodup := by
    rw [List.nodup_append]
    refine ⟨h.nodup, by simp, fun a ha b hb => ?_⟩
    simp only [List.mem_cons, List.not_mem_nil, or_false] at hb
    subst hb
    rintro rfl
    obtain ⟨g', e⟩ := (h.mem a).1 ha
    rw [hg] at e
    simp at e
  mem := fun j => by
    have hi : i < ps.length := (List.getElem?_eq_some_iff.1 hg).1
    by_cases hij : i = j
    · subst hij
      simp [hi]
    · rw [List.getElem?_set_ne hij, ← h.mem j]
      simp [Ne.symm hij]
  gen := fun j g' b e => by
    have hi : i < ps.length := (List.getElem?_eq_some_iff.1 hg).1
    have h0 := h.gen i g true hg
    by_cases hij : i = j
    · subst hij
      simp [hi] at e
      obtain ⟨rfl, rfl⟩ := e
      simp [h0]
    · rw [List.getElem?_set_ne hij] at e
      exact h.gen j g' b e
  cnt := by
    have := h.cnt
    have e := countP_set_false (x := (g, false)) hg rfl
    rw [List.length_append]
    simp only [List.length_cons, List.length_nil]
    omega

theorem fm_congr {α β : Type} {f g : α → Option β} : ∀ (l : List α), (∀ x ∈ l, f x = g x) → l.filterMap f = l.filterMap g
  | [], _ => rfl
  | x :: l, h => by rw [List.filterMap_cons, List.filterMap_cons, h x (by simp), fm_congr l (fun y hy => h y (by simp [hy]))]
theorem listOf_len (ps : List (Int × Bool)) : (listOf ps).length = ps.countP (·.2) := by
  unfold listOf
  rw [List.length_filterMap_eq_countP]
  have h : ps.countP (·.2) = (ps.zipIdx.map Prod.fst).countP (·.2) := by rw [List.zipIdx_map_fst 0 ps]
  rw [h, List.countP_map]
  congr 1
  funext x
  cases hx : x.1.2 <;> simp [hx]
theorem listOf_mem {ps : List (Int × Bool)} {i : Nat} {g : Int} : (i, g) ∈ listOf ps ↔ ps[i]? = some (g, true) := by
  unfold listOf
  rw [List.mem_filterMap]
  constructor
  · rintro ⟨⟨⟨g', b⟩, j⟩, hm, hs⟩
    have := List.mem_zipIdx_iff_getElem?.1 hm
    cases b <;> simp at hs
    obtain ⟨rfl, rfl⟩ := hs
    exact this
  · intro h
    exact ⟨((g, true), i), List.mem_zipIdx_iff_getElem?.2 h, by simp⟩
theorem listOf_all {ps : List (Int × Bool)} (h : ∀ (i : Nat) (p : Int × Bool), ps[i]? = some p → p.2 = true) (k : Nat) : (listOf ps)[k]? = ps[k]?.map fun p => (k, p.1) := by
  have : ∀ (ps : List (Int × Bool)), (∀ (i : Nat) (p : Int × Bool), ps[i]? = some p → p.2 = true) → listOf ps = ps.zipIdx.map fun x => (x.2, x.1.1) := by
    intro ps hp
    unfold listOf
    rw [← List.filterMap_eq_map]
    refine fm_congr _ ?_
    rintro ⟨p, i⟩ hm
    have := hp i p (List.mem_zipIdx_iff_getElem?.1 hm)
    simp [this]
  rw [this ps h, List.getElem?_map, List.getElem?_zipIdx]
  cases ps[k]? <;> simp
theorem RInv.alive {n : Nat} {ps : List (Int × Bool)} {bd : Int} (h : RInv n ps [] bd) : ∀ (i : Nat) (p : Int × Bool), ps[i]? = some p → p.2 = true := by
  rintro i ⟨g, b⟩ e
  cases b with
  | true => rfl
  | false => exact absurd ((h.mem i).2 ⟨g, e⟩) (by simp)
end Go.Proofs.YtghffjlgiclieaaDoor
