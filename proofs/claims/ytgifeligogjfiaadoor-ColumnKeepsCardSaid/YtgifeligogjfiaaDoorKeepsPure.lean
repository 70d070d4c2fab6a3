/- ColumnKeeps: plain facts on lists. -/
import Derived.Test.YtgifeligogjfiaaDoorParts
namespace Go.Proofs.YtgifeligogjfiaaDoor
open Go.RowKit

def kP (v : Nat) : Pt := ⟨5, v, 0, 0, 0, 0⟩
theorem kP_fits (v : Nat) : Fits 5 1 (kP v) := ⟨rfl, fun _ => rfl, fun _ => rfl, fun _ => rfl⟩
/-- which numbers are left -/
def leftA (vs : List Nat) : Array Value := ((List.range 101).map fun x => Value.bool (decide (x ∈ vs))).toArray
theorem leftA_get (vs : List Nat) {x : Nat} (h : x < 101) : (leftA vs)[x]? = some (.bool (decide (x ∈ vs))) := by
  unfold leftA
  rw [List.getElem?_toArray, List.getElem?_map, List.getElem?_range h]
  rfl
theorem leftA_size (vs : List Nat) : (leftA vs).size = 101 := by unfold leftA; simp
theorem leftA_put {vs vs' : List Nat} {v : Nat} (b : Bool) (h : ∀ x, x < 101 → (x ∈ vs' ↔ if x = v then b = true else x ∈ vs)) : (leftA vs).setIfInBounds v (.bool b) = leftA vs' := by
  apply Array.ext_getElem?
  intro x
  rw [Array.getElem?_setIfInBounds, leftA_size]
  by_cases hx : x < 101
  · rw [leftA_get vs' hx, leftA_get vs hx]
    have h' := h x hx
    by_cases hv : v = x
    · subst hv
      rw [if_pos rfl] at h' ⊢
      rw [if_pos hx]
      congr 2
      rw [Bool.eq_iff_iff, decide_eq_true_iff, h']
    · rw [if_neg hv]
      rw [if_neg (fun e => hv e.symm)] at h'
      congr 2
      exact decide_eq_decide.2 h'.symm
  · have e1 : (leftA vs)[x]? = none := Array.getElem?_eq_none (by rw [leftA_size]; omega)
    have e2 : (leftA vs')[x]? = none := Array.getElem?_eq_none (by rw [leftA_size]; omega)
    rw [e1, e2]
    by_cases hv : v = x
    · rw [if_pos hv, if_neg (by omega)]
    · rw [if_neg hv]
theorem leftA_nil : leftA [] = Array.replicate 101 (.bool false) := by
  apply Array.ext_getElem?
  intro x
  by_cases hx : x < 101
  · rw [leftA_get _ hx]; simp [hx]
  · rw [Array.getElem?_eq_none (by rw [leftA_size]; omega), Array.getElem?_eq_none (by simp; omega)]

/-- a row less, the last one in its place -/
theorem swap_perm {vs : List Nat} {j last v q : Nat} (hv : vs[j]? = some v) (hl : vs.length = last + 1) (hq : vs[last]? = some q) : vs.Perm (v :: (vs.set j q).take last) := by
  have hj : j < vs.length := (List.getElem?_eq_some_iff.1 hv).1
  have hvs : vs = vs.take last ++ [q] := by
    have h := List.take_append_drop last vs
    rw [List.drop_eq_getElem_cons (by omega)] at h
    have e : vs[last]'(by omega) = q := (List.getElem?_eq_some_iff.1 hq).2
    rw [e, List.drop_eq_nil_of_le (by omega)] at h
    exact h.symm
  by_cases hjl : j = last
  · subst hjl
    have e : v = q := Option.some.inj (hv.symm.trans hq)
    subst e
    rw [set_same hv]
    have p : (vs.take j ++ [v]).Perm (v :: vs.take j) := List.perm_append_comm
    rwa [← hvs] at p
  · have hjl' : j < last := by omega
    have hlen : (vs.take last).length = last := by simp; omega
    have e1 : (vs.set j q).take last = (vs.take last).set j q := by rw [List.take_set]
    rw [e1]
    have hv' : (vs.take last)[j]? = some v := by rw [List.getElem?_take, if_pos hjl', hv]
    generalize vs.take last = us at *
    subst hvs
    have hju : j < us.length := by omega
    have h2 : us = us.take j ++ v :: us.drop (j + 1) := by
      have h := List.take_append_drop j us
      rw [List.drop_eq_getElem_cons hju] at h
      have e : us[j] = v := (List.getElem?_eq_some_iff.1 hv').2
      rw [e] at h
      exact h.symm
    have h3 : us.set j q = us.take j ++ q :: us.drop (j + 1) := by rw [List.set_eq_take_append_cons_drop, if_pos hju]
    rw [h3]
    have p1 : (us ++ [q]).Perm (q :: us) := List.perm_append_comm
    refine p1.trans ?_
    have p2 : us.Perm (v :: (us.take j ++ us.drop (j + 1))) := by
      conv => lhs; rw [h2]
      exact List.perm_middle
    have p3 : (us.take j ++ q :: us.drop (j + 1)).Perm (q :: (us.take j ++ us.drop (j + 1))) := List.perm_middle
    exact (List.Perm.cons q p2).trans ((List.Perm.swap v q _).trans (List.Perm.cons v p3.symm))
theorem swap_facts {vs : List Nat} {j last v q : Nat} (hv : vs[j]? = some v) (hl : vs.length = last + 1) (hq : vs[last]? = some q) (hn : vs.Nodup) :
    ((vs.set j q).take last).Nodup ∧ ∀ x, x ∈ (vs.set j q).take last ↔ x ∈ vs ∧ x ≠ v := by
  have hp := swap_perm hv hl hq
  have hn2 := hp.nodup_iff.1 hn
  rw [List.nodup_cons] at hn2
  refine ⟨hn2.2, fun x => ?_⟩
  rw [hp.mem_iff, List.mem_cons]
  constructor
  · intro h
    exact ⟨.inr h, fun e => hn2.1 (e ▸ h)⟩
  · rintro ⟨h | h, hne⟩
    · exact absurd h hne
    · exact h
theorem drop_mem {vs : List Nat} {i v : Nat} (hv : vs[i]? = some v) (hn : vs.Nodup) : v ∈ vs.drop i ∧ ∀ x, x ∈ vs.drop (i + 1) ↔ x ∈ vs.drop i ∧ x ≠ v := by
  have hi : i < vs.length := (List.getElem?_eq_some_iff.1 hv).1
  have e : vs[i] = v := (List.getElem?_eq_some_iff.1 hv).2
  have hd : vs.drop i = v :: vs.drop (i + 1) := by rw [List.drop_eq_getElem_cons hi, e]
  have hn2 : (vs.drop i).Nodup := hn.sublist (List.drop_sublist _ _)
  rw [hd] at hn2 ⊢
  rw [List.nodup_cons] at hn2
  refine ⟨by simp, fun x => ?_⟩
  rw [List.mem_cons]
  constructor
  · intro h
    exact ⟨.inr h, fun e => hn2.1 (e ▸ h)⟩
  · rintro ⟨h | h, hne⟩
    · exact absurd h hne
    · exact h
theorem kP_get {vs : List Nat} {i v : Nat} (h : vs[i]? = some v) : (vs.map kP)[i]? = some (kP v) := by simp [h]
theorem swap_map {vs : List Nat} {j last q : Nat} : ((vs.map kP).set j (kP q)).take last = ((vs.set j q).take last).map kP := by rw [← List.map_set, ← List.map_take]
end Go.Proofs.YtgifeligogjfiaaDoor
