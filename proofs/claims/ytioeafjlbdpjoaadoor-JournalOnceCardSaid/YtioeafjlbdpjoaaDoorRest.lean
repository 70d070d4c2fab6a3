/- Small words that came later: uint(n) % m; lists. -/
import Derived.Test.YtioeafjlbdpjoaaDoorErr
import Derived.Laws.CopyOwn
namespace Go.Proofs.YtioeafjlbdpjoaaDoor
open Go.RowKit

theorem umod (n : Int) (m : Nat) (hm : 0 < m) (hm' : m ≤ 4611686018427387904) : ∃ k : Nat, wrap64 ((IntKind.u64.wrap n).tmod m) = k ∧ k < m := by
  have h0 : 0 ≤ IntKind.u64.wrap n := by
    rw [IntKind.wrap_u64]
    omega
  obtain ⟨u, hu⟩ := Int.eq_ofNat_of_zero_le h0
  rw [hu]
  have h1 : (u : Int).tmod m = ((u % m : Nat) : Int) := by
    rw [Int.tmod_eq_emod_of_nonneg (by omega)]
    rfl
  have h2 : u % m < m := Nat.mod_lt _ hm
  refine ⟨u % m, ?_, h2⟩
  rw [h1]
  unfold wrap64
  omega
theorem u64_nat (n : Int) : ∃ u : Nat, IntKind.u64.wrap n = u ∧ u < 18446744073709551616 := by
  have h0 : 0 ≤ IntKind.u64.wrap n ∧ IntKind.u64.wrap n < 18446744073709551616 := by
    rw [IntKind.wrap_u64]
    omega
  obtain ⟨u, hu⟩ := Int.eq_ofNat_of_zero_le h0.1
  exact ⟨u, hu, by omega⟩
theorem Cx.none {K : List Nat} {B : Nat} {ad : Nat → Addr} {w0 w : World} {S : List Nat} {L : List (Nat × TypeId × Array Value)} (h : Cx K B ad w0 w S L) : Cx K B ad w0 w S [] :=
  ⟨h.sents, by simp, h.lt, h.fr, h.new, h.le⟩
theorem row_drewN {w : World} {base : Nat} {e : TypeId} {size n : Nat} {v : Value} {xs : List Value} (h : w.ownsRow base e size v n xs) (k : Nat) : (w.drewN k).ownsRow base e size v n xs := h
/-- a row behind an append to another one -/
theorem row_grown {w w' : World} {base : Nat} {e : TypeId} {size n : Nat} {v : Value} {xs : List Value} (h : w.ownsRow base e size v n xs) {row : Option Nat} (hg : w.grownBy w' row) (hne : ∀ b, v.ownBlock = some b → row ≠ some b) : w'.ownsRow base e size v n xs :=
  row_fr h (Fr.of_grown (S := row.toList) hg fun k hk => .inl (by simp [hk])) fun b hb hm => hne b hb (by simpa using hm)
/-- where a row lies behind an append: its block is the elder one or new -/
theorem at_new {v : Value} {g H : Nat} (hat : v.ownBlock = some g ∨ g = H) {B : Nat} (hv : ∀ b, v.ownBlock = some b → B ≤ b) (hH : B ≤ H) : B ≤ g := hat.elim (hv g) fun e => by omega
/-- blocks that no object owns, all of the walk's own, were written -/
theorem Cx.go2 {K : List Nat} {B : Nat} {ad : Nat → Addr} {w0 w w' : World} {S T : List Nat} (h : Cx K B ad w0 w S []) (hf : Fr T w w') (hT : ∀ b ∈ T, w0.heap.size ≤ b) (_ : ∀ b ∈ S, b ∉ T) : Cx K B ad w0 w' S [] where
  sents := h.sents.fr hf fun x hx => Nat.le_trans h.le (hT x hx)
  loc := by simp
  lt := fun b hb => Nat.lt_of_lt_of_le (h.lt b hb) hf.size
  fr := h.fr.step hf fun x hx => .inr (hT x hx)
  new := h.new
  le := h.le
theorem row_frozen {w : World} {base : Nat} {e : TypeId} {size n cap g : Nat} {xs : List Value} (h : w.ownsRow base e size (.slice (some ⟨g, 0, none⟩) n cap) n xs) (i : Nat) : w.frozen? ⟨g, i, none⟩ = false := by
  obtain ⟨cur, hg, _⟩ := row_blk h
  exact hg.frozen i
theorem set_same {α : Type} {l : List α} {k : Nat} {x : α} (h : l[k]? = some x) : l.set k x = l := by
  apply List.ext_getElem?
  intro m
  rw [List.getElem?_set]
  by_cases hkm : k = m
  · subst hkm
    have := (List.getElem?_eq_some_iff.1 h).1
    rw [if_pos rfl, if_pos this, h]
  · rw [if_neg hkm]
theorem Fr.setRow {S : List Nat} {a w : World} (h : Fr S a w) {g : Nat} (hg : g ∈ S ∨ a.heap.size ≤ g) (cs : Array Value) : Fr S a (w.setRow g cs) :=
  ⟨h.os, h.tape, h.output, by simpa [World.setRow] using h.size, fun i hi hn => (setRow_other w g i cs (by
    rintro rfl
    rcases hg with hp | hp
    · exact hn hp
    · omega)).trans (h.block i hi hn)⟩
/-- copy into a block that is known whole, as an equation: the block behind it, a frame, the world a variable -/
theorem copy_run {P : Program} {w : World} (dT sT elem : TypeId) (hu : P.underlying dT = some (.slice elem)) (hsz : (P.info? elem).map (·.size) = some 1)
    {g : Nat} (off dLen dCap : Nat) (ad : Addr) (sLen sCap : Nat) {cur : Array Value} {t : TypeId} (hg : Blk w g t cur) (cs : List Value) (hn : cs.length = Nat.min sLen dLen)
    (hsrc : ∀ j v, cs[j]? = some v → w.cell? (ad.add j) = some v) (hfit : off + cs.length ≤ cur.size) (h1 : ∀ v ∈ cs, v.oneCell' = true)
    (arr : Array Value) (harr : cur.toList.take off ++ (cs ++ cur.toList.drop (off + cs.length)) = arr.toList) (m : Nat) (hm : cs.length = m) :
    ∃ w', (∀ ty, (Builtin.copy_ #[dT, sT] ty #[.slice (some ⟨g, off, none⟩) dLen dCap, .slice (some ad) sLen sCap]).run P w = .ok (.int .i64 m) w') ∧ Blk w' g t arr ∧ Fr [g] w w' := by
  subst hm
  refine ⟨w.setRow g arr, fun ty => ?_, setRow_heap w g cur _ t _ hg, (Fr.refl _ w).setRow (by simp) _⟩
  rw [run_copy_row P w dT sT ty elem g off dLen dCap ad sLen sCap cur t cs hu hsz hg hn hsrc hfit h1, List.append_assoc, harr]
  rfl
theorem flat_splice {α : Type} {f : α → List Value} {k : Nat} (hk : ∀ x, (f x).length = k) {xs : List α} {n : Nat} (hn : n < xs.length) (x' : α) :
    (xs.flatMap f).take (n * k) ++ (f x' ++ (xs.flatMap f).drop (n * k + k)) = (xs.set n x').flatMap f := by
  induction xs generalizing n with
  | nil => simp at hn
  | cons y ys ih =>
    cases n with
    | zero => simp [List.drop_append, hk]
    | succ n =>
      have := ih (n := n) (by simpa using hn)
      rw [List.flatMap_cons, List.set_cons_succ, List.flatMap_cons, ← this, show (n + 1) * k = (f y).length + n * k from by rw [hk, Nat.add_mul]; omega, List.take_length_add_append,
        show (f y).length + n * k + k = (f y).length + (n * k + k) from by omega, List.drop_length_add_append, List.append_assoc]
theorem splice_row {a b c : List Value} {m k : Nat} (hm : m + k ≤ a.length) (hc : c.length = k) :
    ((a ++ b).take m ++ (c ++ (a ++ b).drop (m + k))).take a.length = a.take m ++ (c ++ a.drop (m + k)) := by
  have e1 : (a ++ b).take m = a.take m := List.take_append_of_le_length (by omega)
  have e2 : (a ++ b).drop (m + k) = a.drop (m + k) ++ b := List.drop_append_of_le_length hm
  have e3 : (a.take m ++ (c ++ a.drop (m + k))).length = a.length := by
    simp
    omega
  rw [e1, e2, ← List.append_assoc c, ← List.append_assoc]
  exact List.take_left' e3
theorem add_addr (g o j : Nat) : (⟨g, o, none⟩ : Addr).add j = ⟨g, o + j, none⟩ := by unfold Addr.add; split <;> simp_all
/-- the cells of a part of a row, as copy and append read them -/
theorem row_news {w : World} {base : Nat} {e : TypeId} {size n cap g : Nat} {xs cs : List Value} (h : w.ownsRow base e size (.slice (some ⟨g, 0, none⟩) n cap) n xs) (o : Nat) (hcs : ∀ j v, cs[j]? = some v → xs[o + j]? = some v) : ∀ j v, cs[j]? = some v → w.cell? ((⟨g, o, none⟩ : Addr).add j) = some v := by
  intro j v hv
  rw [add_addr]
  exact row_cell h (hcs j v hv)
theorem blk_news {w : World} {g : Nat} {t : TypeId} {arr : Array Value} {cs : List Value} (h : Blk w g t arr) (o : Nat) (hcs : ∀ j v, cs[j]? = some v → arr[o + j]? = some v) : ∀ j v, cs[j]? = some v → w.cell? ((⟨g, o, none⟩ : Addr).add j) = some v := by
  intro j v hv
  rw [add_addr]
  exact h.at_ _ (hcs j v hv)
end Go.Proofs.YtioeafjlbdpjoaaDoor
