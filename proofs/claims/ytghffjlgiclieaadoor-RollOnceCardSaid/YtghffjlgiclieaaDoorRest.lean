/- Small words that came later: uint(n) % m; lists. -/
import Derived.Test.YtghffjlgiclieaaDoorErr
namespace Go.Proofs.YtghffjlgiclieaaDoor
open Go.RowKit

theorem umod (n : Int) (m : Nat) (hm : 0 < m) (hm' : m ≤ 4611686018427387904) : ∃ k : Nat, wrap64 ((IntKind.u64.wrap n).tmod m) = k ∧ k < m := by
  have h0 : 0 ≤ IntKind.u64.wrap n := by
    rw [IntKind.wrap_u64]
    omega
  obtain ⟨u, hu⟩ := Int.eq_ofNat_of_zero_le h0
  rw [hu]
  have h1 : (u : Int).tmod m = ((u % m : Nat) : Int) := by
    rw [Int.tmod_eq_emod_of_nonneg (by omega)]
    rfl
  have h2 : u % m < m := Nat.mod_lt _ hm
  refine ⟨u % m, ?_, h2⟩
  rw [h1]
  unfold wrap64
  omega
theorem u64_nat (n : Int) : ∃ u : Nat, IntKind.u64.wrap n = u ∧ u < 18446744073709551616 := by
  have h0 : 0 ≤ IntKind.u64.wrap n ∧ IntKind.u64.wrap n < 18446744073709551616 := by
    rw [IntKind.wrap_u64]
    omega
  obtain ⟨u, hu⟩ := Int.eq_ofNat_of_zero_le h0.1
  exact ⟨u, hu, by omega⟩
theorem Cx.none {K : List Nat} {B : Nat} {ad : Nat → Addr} {w0 w : World} {S : List Nat} {L : List (Nat × TypeId × Array Value)} (h : Cx K B ad w0 w S L) : Cx K B ad w0 w S [] :=
  ⟨h.sents, by simp, h.lt, h.fr, h.new, h.le⟩
theorem row_drewN {w : World} {base : Nat} {e : TypeId} {size n : Nat} {v : Value} {xs : List Value} (h : w.ownsRow base e size v n xs) (k : Nat) : (w.drewN k).ownsRow base e size v n xs := h
/-- a row behind an append to another one -/
theorem row_grown {w w' : World} {base : Nat} {e : TypeId} {size n : Nat} {v : Value} {xs : List Value} (h : w.ownsRow base e size v n xs) {row : Option Nat} (hg : w.grownBy w' row) (hne : ∀ b, v.ownBlock = some b → row ≠ some b) : w'.ownsRow base e size v n xs :=
  row_fr h (Fr.of_grown (S := row.toList) hg fun k hk => .inl (by simp [hk])) fun b hb hm => hne b hb (by simpa using hm)
/-- where a row lies behind an append: its block is the elder one or new -/
theorem at_new {v : Value} {g H : Nat} (hat : v.ownBlock = some g ∨ g = H) {B : Nat} (hv : ∀ b, v.ownBlock = some b → B ≤ b) (hH : B ≤ H) : B ≤ g := hat.elim (hv g) fun e => by omega
/-- blocks that no object owns, all of the walk's own, were written -/
theorem Cx.go2 {K : List Nat} {B : Nat} {ad : Nat → Addr} {w0 w w' : World} {S T : List Nat} (h : Cx K B ad w0 w S []) (hf : Fr T w w') (hT : ∀ b ∈ T, w0.heap.size ≤ b) (_ : ∀ b ∈ S, b ∉ T) : Cx K B ad w0 w' S [] where
  sents := h.sents.fr hf fun x hx => Nat.le_trans h.le (hT x hx)
  loc := by simp
  lt := fun b hb => Nat.lt_of_lt_of_le (h.lt b hb) hf.size
  fr := h.fr.step hf fun x hx => .inr (hT x hx)
  new := h.new
  le := h.le
theorem row_frozen {w : World} {base : Nat} {e : TypeId} {size n cap g : Nat} {xs : List Value} (h : w.ownsRow base e size (.slice (some ⟨g, 0, none⟩) n cap) n xs) (i : Nat) : w.frozen? ⟨g, i, none⟩ = false := by
  obtain ⟨cur, hg, _⟩ := row_blk h
  exact hg.frozen i
theorem set_same {α : Type} {l : List α} {k : Nat} {x : α} (h : l[k]? = some x) : l.set k x = l := by
  apply List.ext_getElem?
  intro m
  rw [List.getElem?_set]
  by_cases hkm : k = m
  · subst hkm
    have := (List.getElem?_eq_some_iff.1 h).1
    rw [if_pos rfl, if_pos this, h]
  · rw [if_neg hkm]
end Go.Proofs.YtghffjlgiclieaaDoor
