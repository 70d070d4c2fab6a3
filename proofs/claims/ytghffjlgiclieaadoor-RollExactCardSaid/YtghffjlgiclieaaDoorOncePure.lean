/- Plain facts for RollOnce: what was given, and what of it is there. -/
import Derived.Test.YtghffjlgiclieaaDoorRollPure
namespace Go.Proofs.YtghffjlgiclieaaDoor

/-- is it there? -/
def al (ps : List (Int × Bool)) (e : Nat × Int) : Bool := decide (ps[e.1]? = some (e.2, true))
theorem aliveB_al (ps : List (Int × Bool)) (i : Nat) (g : Int) : aliveB ps i g = al ps (i, g) := by simp [aliveB, al]

structure GInv (ps : List (Int × Bool)) (given : List (Nat × Int)) : Prop where
  nodup : given.Nodup
  old : ∀ e ∈ given, ∃ (g : Int) (b : Bool), ps[e.1]? = some (g, b) ∧ e.2 ≤ g
  cnt : given.countP (al ps) = ps.countP (·.2)

theorem GInv.start (n : Nat) : GInv (List.replicate n (0, false)) [] :=
  ⟨by simp, by simp, by simp [List.countP_replicate]⟩

theorem countP_congr' {α : Type} {p q : α → Bool} : ∀ (l : List α), (∀ x ∈ l, p x = q x) → l.countP p = l.countP q
  | [], _ => rfl
  | x :: l, h => by rw [List.countP_cons, List.countP_cons, h x (by simp), countP_congr' l fun y hy => h y (by simp [hy])]

theorem GInv.fresh {ps : List (Int × Bool)} {given : List (Nat × Int)} (h : GInv ps given) {i : Nat} {g : Int} (hg : ps[i]? = some (g, false)) : (i, g + 1) ∉ given := by
  intro hm
  obtain ⟨g', b, h1, h2⟩ := h.old _ hm
  rw [hg] at h1
  simp only [Option.some.injEq, Prod.mk.injEq] at h1
  have h2' : g + 1 ≤ g' := h2
  omega
theorem GInv.take_al {ps : List (Int × Bool)} {given : List (Nat × Int)} (h : GInv ps given) {i : Nat} {g : Int} (hg : ps[i]? = some (g, false)) : ∀ e ∈ given, al (ps.set i (g + 1, true)) e = al ps e := by
  rintro ⟨j, k⟩ hm
  obtain ⟨g', b, h1, h2⟩ := h.old _ hm
  have hi := (List.getElem?_eq_some_iff.1 hg).1
  unfold al
  by_cases hij : i = j
  · subst hij
    simp only [hg, Option.some.injEq, Prod.mk.injEq] at h1
    obtain ⟨rfl, rfl⟩ := h1
    have h2' : k ≤ g := h2
    simp only [hi, List.getElem?_set_self, hg, Option.some.injEq, Prod.mk.injEq, Bool.false_eq_true, and_false, decide_false, and_true, decide_eq_false_iff_not]
    omega
  · simp only [List.getElem?_set_ne hij]
theorem GInv.take {ps : List (Int × Bool)} {given : List (Nat × Int)} (h : GInv ps given) {i : Nat} {g : Int} (hg : ps[i]? = some (g, false)) : GInv (ps.set i (g + 1, true)) (given ++ [(i, g + 1)]) where
  nodup := by
    rw [List.nodup_append]
    refine ⟨h.nodup, by simp, fun a ha b hb => ?_⟩
    simp only [List.mem_cons, List.not_mem_nil, or_false] at hb
    subst hb
    rintro rfl
    exact h.fresh hg ha
  old := by
    have hi := (List.getElem?_eq_some_iff.1 hg).1
    intro e he
    rcases List.mem_append.1 he with he | he
    · obtain ⟨g', b, h1, h2⟩ := h.old e he
      by_cases hij : i = e.1
      · rw [← hij, hg] at h1
        simp only [Option.some.injEq, Prod.mk.injEq] at h1
        exact ⟨g + 1, true, by rw [← hij]; simp [hi], by omega⟩
      · exact ⟨g', b, by rw [List.getElem?_set_ne hij]; exact h1, h2⟩
    · simp only [List.mem_cons, List.not_mem_nil, or_false] at he
      subst he
      exact ⟨g + 1, true, by simp [hi], Int.le_refl _⟩
  cnt := by
    have hi := (List.getElem?_eq_some_iff.1 hg).1
    rw [List.countP_append, countP_congr' given (h.take_al hg), h.cnt, countP_set_true hg rfl]
    simp [al, hi]

theorem GInv.free_al {ps : List (Int × Bool)} {given : List (Nat × Int)} (h : GInv ps given) {i k : Nat} {g : Int} (hk : given[k]? = some (i, g)) (hg : ps[i]? = some (g, true)) :
    given.map (al (ps.set i (g, false))) = (given.map (al ps)).set k false := by
  have hi := (List.getElem?_eq_some_iff.1 hg).1
  apply List.ext_getElem?
  intro m
  rw [List.getElem?_map, List.getElem?_set, List.getElem?_map]
  cases hm : given[m]? with
  | none =>
    have : given.length ≤ m := by simpa using hm
    by_cases hkm : k = m
    · subst hkm; rw [hm] at hk; cases hk
    · simp [hkm]
  | some e =>
    obtain ⟨j, gj⟩ := e
    by_cases hkm : k = m
    · subst hkm
      rw [hm] at hk
      injection hk with hk
      injection hk with h1 h2
      subst h1; subst h2
      have hl := (List.getElem?_eq_some_iff.1 hm).1
      simp [al, hi, hl]
    · simp only [hkm, if_false, Option.map_some, Option.some.injEq]
      unfold al
      by_cases hij : i = j
      · subst hij
        have hne : gj ≠ g := by
          rintro rfl
          have hl := (List.getElem?_eq_some_iff.1 hk).1
          exact hkm ((List.getElem?_inj hl h.nodup).1 (hk.trans hm.symm))
        rw [List.getElem?_set_self hi, hg]
        simp [Ne.symm hne]
      · simp only [List.getElem?_set_ne hij]
theorem GInv.free {ps : List (Int × Bool)} {given : List (Nat × Int)} (h : GInv ps given) {i k : Nat} {g : Int} (hk : given[k]? = some (i, g)) (hg : ps[i]? = some (g, true)) : GInv (ps.set i (g, false)) given where
  nodup := h.nodup
  old := by
    have hi := (List.getElem?_eq_some_iff.1 hg).1
    intro e he
    obtain ⟨g', b, h1, h2⟩ := h.old e he
    by_cases hij : i = e.1
    · rw [← hij, hg] at h1
      simp only [Option.some.injEq, Prod.mk.injEq] at h1
      exact ⟨g, false, by rw [← hij]; simp [hi], by omega⟩
    · exact ⟨g', b, by rw [List.getElem?_set_ne hij]; exact h1, h2⟩
  cnt := by
    have e1 := countP_set_false (x := (g, false)) hg rfl
    have e2 : given.countP (al (ps.set i (g, false))) = (given.map (al (ps.set i (g, false)))).countP id := by rw [List.countP_map]; rfl
    have e3 : given.countP (al ps) = (given.map (al ps)).countP id := by rw [List.countP_map]; rfl
    have hl := (List.getElem?_eq_some_iff.1 hk).1
    have hkv : (given.map (al ps))[k]'(by simpa using hl) = true := by
      have := List.getElem?_eq_some_iff.1 hk
      simp [this.2, al, hg]
    have hpos : 0 < (given.map (al ps)).countP id := List.countP_pos_iff.2 ⟨true, by rw [← hkv]; exact List.getElem_mem _, rfl⟩
    have hc := h.cnt
    rw [e2, h.free_al hk hg, List.countP_set (by simpa using hl), hkv, ← e3, hc]
    rw [e3] at hc
    simp only [id, if_true, Bool.false_eq_true, if_false]
    omega
end Go.Proofs.YtghffjlgiclieaaDoor
