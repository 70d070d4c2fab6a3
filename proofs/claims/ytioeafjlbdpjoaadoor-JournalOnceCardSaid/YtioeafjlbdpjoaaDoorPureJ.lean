/- The journal and its reference say the same: plain lists. -/
import Derived.Test.YtioeafjlbdpjoaaDoorRSinceJ
import Derived.Test.YtioeafjlbdpjoaaDoorRNoteJ
namespace Go.Proofs.YtioeafjlbdpjoaaDoor
/-- the entries with their marks -/
def tags (sts : List St) : List (Int × Un) := sts.flatMap fun s => s.us.map fun u => (s.fr, u)
structure Well (sts : List St) : Prop where
  rise : Rising sts
  kinds : ∀ s ∈ sts, ∀ u ∈ s.us, 1 ≤ u.kind ∧ u.kind ≤ 9
theorem tags_len (sts : List St) : (tags sts).length = (entries sts).length := by
  unfold tags entries
  induction sts with
  | nil => rfl
  | cons s r ih => rw [List.flatMap_cons, List.flatMap_cons, List.length_append, List.length_append, ih, List.length_map]
theorem tags_app (a b : List St) : tags (a ++ b) = tags a ++ tags b := by unfold tags; rw [List.flatMap_append]
theorem entries_app (a b : List St) : entries (a ++ b) = entries a ++ entries b := by unfold entries; rw [List.flatMap_append]
theorem tags_filter (p : Int → Bool) (sts : List St) : (tags sts).filter (fun e => p e.1) = tags (sts.filter fun s => p s.fr) := by
  unfold tags
  induction sts with
  | nil => rfl
  | cons s r ih =>
    rw [List.flatMap_cons, List.filter_append, ih, List.filter_cons]
    cases h : p s.fr with
    | true =>
      rw [if_pos rfl, List.flatMap_cons]
      congr 1
      rw [List.filter_eq_self]
      intro e he
      obtain ⟨u, -, rfl⟩ := List.mem_map.1 he
      exact h
    | false =>
      rw [if_neg (by simp)]
      have : (s.us.map fun u => (s.fr, u)).filter (fun e => p e.1) = [] := by
        rw [List.filter_eq_nil_iff]
        intro e he
        obtain ⟨u, -, rfl⟩ := List.mem_map.1 he
        simp [h]
      rw [this, List.nil_append]
theorem marks_filter (p : Int → Bool) (sts : List St) : (sts.map (·.fr)).filter p = (sts.filter fun s => p s.fr).map (·.fr) := by
  rw [List.filter_map]
  rfl
theorem rising_lt {sts : List St} (h : Rising sts) {i j : Nat} {a b : St} (ha : sts[i]? = some a) (hb : sts[j]? = some b) (hij : i < j) : a.fr < b.fr := by
  have hi := (List.getElem?_eq_some_iff.1 ha).1
  have hj := (List.getElem?_eq_some_iff.1 hb).1
  have := List.pairwise_iff_getElem.1 h.up i j (by rw [List.length_map]; exact hi) (by rw [List.length_map]; exact hj) hij
  rw [List.getElem_map, List.getElem_map, (List.getElem?_eq_some_iff.1 ha).2, (List.getElem?_eq_some_iff.1 hb).2] at this
  exact this
theorem filter_drop {sts : List St} {k : Nat} {p : St → Bool} (h1 : ∀ i s, sts[i]? = some s → i < k → p s = false) (h2 : ∀ i s, sts[i]? = some s → k ≤ i → p s = true) : sts.filter p = sts.drop k := by
  rw [← List.take_append_drop k sts, List.filter_append]
  have e1 : (sts.take k).filter p = [] := by
    rw [List.filter_eq_nil_iff]
    intro s hs
    obtain ⟨i, hi⟩ := List.getElem?_of_mem hs
    rw [List.getElem?_take] at hi
    split at hi
    · rename_i hik
      simp [h1 i s hi hik]
    · cases hi
  have e2 : (sts.drop k).filter p = sts.drop k := by
    rw [List.filter_eq_self]
    intro s hs
    obtain ⟨i, hi⟩ := List.getElem?_of_mem hs
    rw [List.getElem?_drop] at hi
    exact h2 _ s hi (by omega)
  rw [e1, e2, List.nil_append, List.take_append_drop]
theorem filter_take {sts : List St} {k : Nat} {p : St → Bool} (h1 : ∀ i s, sts[i]? = some s → i < k → p s = true) (h2 : ∀ i s, sts[i]? = some s → k ≤ i → p s = false) : sts.filter p = sts.take k := by
  have e0 : sts.filter p = (sts.take k).filter p ++ (sts.drop k).filter p := by rw [← List.filter_append, List.take_append_drop]
  have e1 : (sts.take k).filter p = sts.take k := by
    rw [List.filter_eq_self]
    intro s hs
    obtain ⟨i, hi⟩ := List.getElem?_of_mem hs
    rw [List.getElem?_take] at hi
    split at hi
    · rename_i hik
      exact h1 i s hi hik
    · cases hi
  have e2 : (sts.drop k).filter p = [] := by
    rw [List.filter_eq_nil_iff]
    intro s hs
    obtain ⟨i, hi⟩ := List.getElem?_of_mem hs
    rw [List.getElem?_drop] at hi
    simp [h2 _ s hi (by omega)]
  rw [e0, e1, e2, List.append_nil]
/-! Mark -/
theorem last_fr {sts : List St} {s : St} (h : sts.getLast? = some s) : lastI (sts.map (·.fr)) = s.fr := by
  unfold lastI
  rw [List.getLast?_map, h]
  rfl
theorem mark_iff {sts : List St} (h : Rising sts) (f : Int) : MarkOk sts f ↔ RMarkOk (sts.map (·.fr)) f := by
  unfold MarkOk RMarkOk
  cases hl : sts.getLast? with
  | none =>
    have hs : sts = [] := by simpa using hl
    subst hs
    have : lastI ([] : List Int) = -1 := rfl
    rw [List.map_nil, this]
    constructor
    · rintro ⟨h1, h2, _⟩; exact ⟨h1, h2, by omega⟩
    · rintro ⟨h1, h2, _⟩; exact ⟨h1, h2, by simp⟩
  | some s =>
    rw [last_fr hl]
    constructor
    · rintro ⟨h1, h2, h3⟩; exact ⟨h1, h2, h3 s rfl⟩
    · rintro ⟨h1, h2, h3⟩; exact ⟨h1, h2, fun t ht => by cases ht; exact h3⟩
theorem well_mark {sts : List St} (h : Well sts) {f : Int} (hok : MarkOk sts f) : Well (sts ++ [⟨f, []⟩]) := by
  obtain ⟨h1, h2, h3⟩ := hok
  refine ⟨⟨fun s hs => ?_, ?_⟩, fun s hs u hu => ?_⟩
  · rcases List.mem_append.1 hs with hs | hs
    · exact h.rise.lo s hs
    · rw [List.mem_singleton] at hs; subst hs; exact ⟨h1, h2⟩
  · rw [List.map_append, List.pairwise_append]
    refine ⟨h.rise.up, by simp, fun a ha b hb => ?_⟩
    rw [List.map_cons, List.map_nil, List.mem_singleton] at hb
    have hb' : b = f := hb
    rw [hb']
    clear hb hb'
    obtain ⟨s, hs, rfl⟩ := List.mem_map.1 ha
    obtain ⟨i, hi⟩ := List.getElem?_of_mem hs
    cases hl : sts.getLast? with
    | none => rw [List.getLast?_eq_none_iff] at hl; subst hl; cases hs
    | some t =>
      have ht := h3 t hl
      rw [List.getLast?_eq_getElem?] at hl
      have hil := (List.getElem?_eq_some_iff.1 hi).1
      rcases Nat.lt_or_ge i (sts.length - 1) with hlt | hge
      · have := rising_lt h.rise hi hl hlt; show s.fr < f; omega
      · have : i = sts.length - 1 := by omega
        subst this
        rw [hi] at hl
        cases hl
        exact ht
  · rcases List.mem_append.1 hs with hs | hs
    · exact h.kinds s hs u hu
    · rw [List.mem_singleton] at hs; subst hs; cases hu
theorem tags_mark (sts : List St) (f : Int) : tags (sts ++ [⟨f, []⟩]) = tags sts := by rw [tags_app]; simp [tags]
theorem entries_mark (sts : List St) (f : Int) : entries (sts ++ [⟨f, []⟩]) = entries sts := by rw [entries_app]; simp [entries]
/-! Note -/
theorem hit_stale {sts : List St} {s : St} (h : Well (sts ++ [s])) {u : Un} (hk : 1 ≤ u.kind ∧ u.kind ≤ 9) : (tags (sts ++ [s])).any (hitR ((sts ++ [s]).map (·.fr)) u) = stale s u := by
  have hl : lastI ((sts ++ [s]).map (·.fr)) = s.fr := last_fr (by simp)
  rw [stale_old s u hk (h.kinds s (by simp)), tags_app, List.any_append]
  have e1 : (tags sts).any (hitR ((sts ++ [s]).map (·.fr)) u) = false := by
    rw [List.any_eq_false]
    intro e he
    unfold tags at he
    obtain ⟨t, ht, he⟩ := List.mem_flatMap.1 he
    obtain ⟨x, hx, rfl⟩ := List.mem_map.1 he
    obtain ⟨i, hi⟩ := List.getElem?_of_mem ht
    have hil := (List.getElem?_eq_some_iff.1 hi).1
    have := rising_lt h.rise (i := i) (j := sts.length) (a := t) (b := s) (by rw [List.getElem?_append_left hil]; exact hi) (by simp) hil
    unfold hitR
    rw [hl, decide_eq_false (by show ¬ t.fr = s.fr; omega)]
    simp
  rw [e1, Bool.false_or]
  unfold tags hitR
  rw [hl]
  simp [List.any_map, Function.comp_def]
theorem well_note {sts : List St} {s : St} (h : Well (sts ++ [s])) {u : Un} (hk : 1 ≤ u.kind ∧ u.kind ≤ 9) : Well (sts ++ [⟨s.fr, s.us ++ [u]⟩]) := by
  refine ⟨⟨fun t ht => ?_, ?_⟩, fun t ht x hx => ?_⟩
  · rcases List.mem_append.1 ht with ht | ht
    · exact h.rise.lo t (by simp [ht])
    · rw [List.mem_singleton] at ht; subst ht; exact h.rise.lo s (by simp)
  · have := h.rise.up
    rw [List.map_append] at this ⊢
    exact this
  · rcases List.mem_append.1 ht with ht | ht
    · exact h.kinds t (by simp [ht]) x hx
    · rw [List.mem_singleton] at ht
      subst ht
      rcases List.mem_append.1 hx with hx | hx
      · exact h.kinds s (by simp) x hx
      · rw [List.mem_singleton] at hx; subst hx; exact hk
theorem tags_note (sts : List St) (s : St) (u : Un) : tags (sts ++ [⟨s.fr, s.us ++ [u]⟩]) = tags (sts ++ [s]) ++ [(s.fr, u)] := by
  rw [tags_app, tags_app]
  simp [tags]
theorem entries_note (sts : List St) (s : St) (u : Un) : entries (sts ++ [⟨s.fr, s.us ++ [u]⟩]) = entries (sts ++ [s]) ++ [u] := by
  rw [entries_app, entries_app]
  simp [entries]
/-! Since, Back -/
theorem place_mem {sts : List St} {f : Int} : (placeOf (sts.map (·.fr)) f).isSome = true ↔ f ∈ sts.map (·.fr) := by
  unfold placeOf
  rw [List.findIdx?_isSome, List.any_eq_true]
  constructor
  · rintro ⟨x, hx, he⟩; rw [← of_decide_eq_true he]; exact hx
  · intro h; exact ⟨f, h, decide_eq_true rfl⟩
theorem since_same {sts : List St} (h : Rising sts) {f : Int} {i : Nat} (hi : placeOf (sts.map (·.fr)) f = some i) : rsinceU (tags sts) f = sinceU (sts.drop i) := by
  obtain ⟨s, hs, rfl⟩ := place_spec hi
  unfold rsinceU sinceU
  rw [tags_filter (fun x => decide (s.fr ≤ x)), filter_drop (k := i)]
  · unfold tags
    rw [List.map_flatMap]
    simp [List.map_map, Function.comp_def]
  · intro j t ht hj
    exact decide_eq_false (by have := rising_lt h ht hs hj; omega)
  · intro j t ht hj
    refine decide_eq_true ?_
    rcases Nat.lt_or_ge i j with hlt | hge
    · exact Int.le_of_lt (rising_lt h hs ht hlt)
    · have : j = i := by omega
      subst this
      rw [hs] at ht
      cases ht
      exact Int.le_refl _
theorem back_same {sts : List St} (h : Rising sts) {f : Int} {i : Nat} (hi : placeOf (sts.map (·.fr)) f = some i) : sts.filter (fun s => inB 0 (f - 1) s.fr) = sts.take i := by
  obtain ⟨s, hs, rfl⟩ := place_spec hi
  refine filter_take ?_ ?_
  · intro j t ht hj
    have h1 := rising_lt h ht hs hj
    have h2 := (h.lo t (List.mem_of_getElem? ht)).1
    unfold inB
    rw [decide_eq_true h2, decide_eq_true (by omega)]
    rfl
  · intro j t ht hj
    have h1 : s.fr ≤ t.fr := by
      rcases Nat.lt_or_ge i j with hlt | hge
      · exact Int.le_of_lt (rising_lt h hs ht hlt)
      · have : j = i := by omega
        subst this
        rw [hs] at ht
        cases ht
        exact Int.le_refl _
    unfold inB
    rw [decide_eq_false (p := t.fr ≤ s.fr - 1) (by omega), Bool.and_false]
theorem well_take {sts : List St} (h : Well sts) (i : Nat) : Well (sts.take i) := by
  refine ⟨⟨fun s hs => h.rise.lo s (List.mem_of_mem_take hs), ?_⟩, fun s hs => h.kinds s (List.mem_of_mem_take hs)⟩
  rw [List.map_take]
  exact h.rise.up.sublist (List.take_sublist _ _)
theorem well_drop {sts : List St} (h : Well sts) (i : Nat) : Well (sts.drop i) := by
  refine ⟨⟨fun s hs => h.rise.lo s (List.mem_of_mem_drop hs), ?_⟩, fun s hs => h.kinds s (List.mem_of_mem_drop hs)⟩
  rw [List.map_drop]
  exact h.rise.up.sublist (List.drop_sublist _ _)
theorem entries_split (sts : List St) (i : Nat) : (entries sts).length = (entries (sts.take i)).length + (entries (sts.drop i)).length := by
  rw [← List.length_append]
  unfold entries
  rw [← List.flatMap_append, List.take_append_drop]
/-! Forget -/
theorem forget_same {sts : List St} (h : Rising sts) (f : Int) : sts.filter (fun s => inB (min f (lastI (sts.map (·.fr)))) 1073741824 s.fr) = sts.drop (fgN sts f) := by
  induction sts with
  | nil => rfl
  | cons s r ih =>
    have hr : Rising r := ⟨fun t ht => h.lo t (by simp [ht]), by have := h.up; rw [List.map_cons, List.pairwise_cons] at this; exact this.2⟩
    cases r with
    | nil =>
      have e1 : lastI (List.map (·.fr) [s]) = s.fr := rfl
      have e2 : fgN [s] f = 0 := rfl
      have hs := h.lo s (by simp)
      rw [e1, e2, List.drop_zero, List.filter_cons]
      have e3 : inB (min f s.fr) 1073741824 s.fr = true := by
        unfold inB
        rw [decide_eq_true (p := min f s.fr ≤ s.fr) (by omega), decide_eq_true hs.2]
        rfl
      rw [e3]
      rfl
    | cons t r =>
      have hlast : lastI (List.map (·.fr) (s :: t :: r)) = lastI (List.map (·.fr) (t :: r)) := by
        unfold lastI
        simp [List.getLast?_cons_cons]
      have hge : ∀ x ∈ t :: r, s.fr < x.fr := by
        have := h.up
        rw [List.map_cons, List.pairwise_cons] at this
        exact fun x hx => this.1 _ (List.mem_map.2 ⟨x, hx, rfl⟩)
      have hsl : s.fr < lastI (List.map (·.fr) (t :: r)) := by
        obtain ⟨z, hz⟩ : ∃ z, (t :: r).getLast? = some z := ⟨_, List.getLast?_eq_some_getLast (by simp)⟩
        rw [last_fr hz]
        exact hge z (List.mem_of_getLast? hz)
      have hs := h.lo s (by simp)
      rw [hlast]
      unfold fgN
      by_cases hlt : s.fr < f
      · rw [if_pos hlt, List.filter_cons]
        have e3 : inB (min f (lastI (List.map (·.fr) (t :: r)))) 1073741824 s.fr = false := by
          unfold inB
          rw [decide_eq_false (p := min f (lastI (List.map (·.fr) (t :: r))) ≤ s.fr) (by omega), Bool.false_and]
        rw [e3, if_neg (by simp), ih hr]
        rfl
      · rw [if_neg hlt, List.drop_zero, List.filter_eq_self]
        intro x hx
        have hx2 := h.lo x hx
        have : s.fr ≤ x.fr := by
          rcases List.mem_cons.1 hx with rfl | hx
          · exact Int.le_refl _
          · exact Int.le_of_lt (hge x hx)
        unfold inB
        rw [decide_eq_true (p := min f (lastI (List.map (·.fr) (t :: r))) ≤ x.fr) (by omega), decide_eq_true hx2.2]
        rfl
end Go.Proofs.YtioeafjlbdpjoaaDoor
