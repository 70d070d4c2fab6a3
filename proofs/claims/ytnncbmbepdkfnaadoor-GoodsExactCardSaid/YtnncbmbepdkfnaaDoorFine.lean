/- The plain side of a schema without flaws. -/
import Derived.Test.YtnncbmbepdkfnaaDoorCheckS
namespace Go.Proofs.YtnncbmbepdkfnaaDoor
open Go.RowKit
theorem findI_spec {l : List ByteArray} {s : ByteArray} {f : Nat} (h : findI l s = some f) : l[f]? = some s ∧ ∀ m < f, ∀ y, l[m]? = some y → y ≠ s := by
  unfold findI at h
  rw [List.findIdx?_eq_some_iff_getElem] at h
  obtain ⟨h1, h2, h3⟩ := h
  refine ⟨?_, fun m hm y hy => ?_⟩
  · rw [List.getElem?_eq_getElem h1]
    simpa using h2
  · have := h3 m hm
    rw [List.getElem?_eq_getElem (by omega)] at hy
    obtain rfl := Option.some.inj hy
    simpa using this
theorem findI_has {l : List ByteArray} {s : ByteArray} {i : Nat} (h : l[i]? = some s) : ∃ f, findI l s = some f ∧ f ≤ i := by
  cases hf : findI l s with
  | none =>
    unfold findI at hf
    rw [List.findIdx?_eq_none_iff] at hf
    have := hf s (List.mem_of_getElem? h)
    simp at this
  | some f =>
    refine ⟨f, rfl, ?_⟩
    rcases Nat.lt_or_ge i f with hlt | hge
    · exact absurd rfl ((findI_spec hf).2 i hlt s h)
    · exact hge
theorem flat_nil {l : List Nat} {f : Nat → List Ch} (h : l.flatMap f = []) : ∀ i ∈ l, f i = [] := by
  intro i hi
  exact List.eq_nil_iff_forall_not_mem.2 fun c hc => by
    have : c ∈ l.flatMap f := List.mem_flatMap.2 ⟨i, hi, hc⟩
    rw [h] at this
    cases this
theorem longFl_nil {k : ByteArray} {b : Bool} (h : longFl k b = []) : b = false := by
  unfold longFl at h
  cases b
  · rfl
  · simp at h
structure Fine (s : Sa) : Prop where
  n1 : s.n1 ≤ 16
  n2 : s.n2 ≤ 8
  c : ∀ (i : Nat) (x : Cp), s.cs[i]? = some x → nameB x.name = true ∧ findI s.cn x.name = some i ∧ findI s.rn x.name = none
  r : ∀ (i : Nat) (x : Rs), s.rs[i]? = some x → findI s.rn x.name = some i
theorem nameFl_nil {k : ByteArray} {i : Nat} {nm : ByteArray} {t : Bool} (h : nameFl k i nm t = []) : nameB nm = true ∧ t = false := by
  unfold nameFl at h
  cases hb : nameB nm with
  | false => rw [hb] at h; simp at h
  | true =>
    rw [hb] at h
    cases t with
    | false => exact ⟨rfl, rfl⟩
    | true => simp at h
theorem fine {s : Sa} (l1 : s.cs.length = s.n1) (l2 : s.rs.length = s.n2) (h : allFl s = []) : Fine s := by
  unfold allFl at h
  simp only [List.append_eq_nil_iff] at h
  obtain ⟨⟨⟨h1, h2⟩, h3⟩, h4⟩ := h
  have e1 := of_decide_eq_false (longFl_nil h1)
  have e2 := of_decide_eq_false (longFl_nil h3)
  have hc := flat_nil h2
  have hr := flat_nil h4
  have first : ∀ {l : List ByteArray} {nm : ByteArray} {i : Nat}, l[i]? = some nm → takenC l nm i = false → findI l nm = some i := by
    intro l nm i hx ht
    obtain ⟨f, hf, hfi⟩ := findI_has hx
    unfold takenC at ht
    rw [hf] at ht
    simp at ht
    rw [hf]
    congr 1
    omega
  have hres : ∀ (i : Nat) (x : Rs), s.rs[i]? = some x → findI s.cn x.name = none ∧ findI s.rn x.name = some i := by
    intro i x hx
    have hi := (List.getElem?_eq_some_iff.1 hx).1
    have := hr i (List.mem_range.2 (by omega))
    rw [hx] at this
    simp only [Option.map_some, Option.getD_some] at this
    have h5 := (nameFl_nil this).2
    rw [Bool.or_eq_false_iff] at h5
    exact ⟨by simpa using h5.1, first (by rw [List.getElem?_map, hx]; rfl) h5.2⟩
  refine ⟨by omega, by omega, fun i x hx => ?_, fun i x hx => (hres i x hx).2⟩
  have hi := (List.getElem?_eq_some_iff.1 hx).1
  have := hc i (List.mem_range.2 (by omega))
  rw [hx] at this
  simp only [Option.map_some, Option.getD_some, compFl, List.append_eq_nil_iff] at this
  obtain ⟨h5, h6⟩ := nameFl_nil this.1
  have hn : s.cn[i]? = some x.name := by rw [List.getElem?_map, hx]; rfl
  refine ⟨h5, first hn h6, ?_⟩
  cases hq : findI s.rn x.name with
  | none => rfl
  | some j =>
    exfalso
    have h7 := (findI_spec hq).1
    rw [List.getElem?_map] at h7
    obtain ⟨y, hy, hyn⟩ := Option.map_eq_some_iff.1 h7
    have h8 := (hres j y hy).1
    rw [hyn] at h8
    obtain ⟨f, hf, -⟩ := findI_has hn
    rw [h8] at hf
    cases hf
theorem ba_list (a b : ByteArray) : a.toList = b.toList ↔ a = b := ⟨fun h => ByteArray.ext (Array.ext' (by rw [← ByteArray.toList_eq, ← ByteArray.toList_eq]; exact h)), fun h => by rw [h]⟩
def ints (xs : List Int) : List Value := xs.map (Value.int .i64)
abbrev nats (l : List Nat) : List Value := ints (l.map fun n : Nat => (n : Int))
end Go.Proofs.YtnncbmbepdkfnaaDoor
