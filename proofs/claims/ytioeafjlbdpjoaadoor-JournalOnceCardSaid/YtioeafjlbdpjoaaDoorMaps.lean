/- Maps: what a map block holds, as a list of keys and elements; the look-up, the store of a new key, delete. Nothing of the program stands here. -/
import Derived.Test.YtioeafjlbdpjoaaDoorLib
import Derived.MapKept
import Derived.WideKeyRuns
namespace Go.Proofs.YtioeafjlbdpjoaaDoor
open Go.RowKit

section
variable {κ : Type} (enc : κ → Value)
def kvs (l : List (κ × Value)) : List (Value × Value) := l.map fun p => (enc p.1, p.2)
def MapB (w : World) (g : Nat) (l : List (κ × Value)) : Prop := ∃ es clock, w.heap[g]? = some (.map es clock) ∧ es.toList.map (fun e => (e.key, e.val)) = kvs enc l ∧ ∀ e ∈ es.toList, e.born < clock
variable {enc} {w w' : World} {g : Nat} {l : List (κ × Value)} {S : List Nat}
theorem MapB.lt (h : MapB enc w g l) : g < w.heap.size := by
  obtain ⟨es, clock, h, -⟩ := h
  exact (Array.getElem?_eq_some_iff.1 h).1
theorem MapB.fr (h : MapB enc w g l) (hf : Fr S w w') (hg : g ∉ S) : MapB enc w' g l := by
  have hl := h.lt
  obtain ⟨es, clock, h1, h2⟩ := h
  exact ⟨es, clock, (hf.block g hl hg).trans h1, h2⟩
theorem MapB.fr0 (h : MapB enc w g l) (hf : Fr [] w w') : MapB enc w' g l := h.fr hf (by simp)
theorem MapB.new (w : World) : MapB enc (w.alloc (.map #[] 0)) w.heap.size [] := ⟨#[], 0, heap_alloc_new w _, rfl, by simp⟩
theorem erase_map {α β : Type} (f : α → β) : ∀ (l : List α) (j : Nat), (l.eraseIdx j).map f = (l.map f).eraseIdx j
  | [], _ => rfl
  | _ :: _, 0 => rfl
  | a :: r, j + 1 => by rw [List.eraseIdx_cons_succ, List.map_cons, erase_map f r j]; rfl
end
section
variable {κ : Type} [DecidableEq κ] (enc : κ → Value)
/-- the first entry of a key -/
def findK (k : κ) : List (κ × Value) → Nat → Option (Nat × Value)
  | [], _ => none
  | (k', v) :: r, i => if k = k' then some (i, v) else findK k r (i + 1)
structure KeyLaw (P : Program) (kt : TypeId) : Prop where
  check : ∀ (b : Bool) (k : κ) (w : World), (Instr.checkKey b 10000 kt (enc k)).run P w = .ok () w
  find : ∀ (k : κ) (l : List (κ × Value)) (es : List MapEntry), es.map (fun e => (e.key, e.val)) = kvs enc l → ∀ w, (Instr.findKey kt (enc k) es).run P w = .ok (findK k l 0) w
variable {enc} {w w' : World} {g : Nat} {l : List (κ × Value)} {S : List Nat} {P : Program} {mt kt et : TypeId}
theorem findK_idx (k : κ) : ∀ (l : List (κ × Value)) (i : Nat), match findK k l i with
    | some (j, v) => i ≤ j ∧ l[j - i]? = some (k, v)
    | none => ∀ v, (k, v) ∉ l
  | [], i => by simp [findK]
  | (k', v) :: r, i => by
    unfold findK
    by_cases h : k = k'
    · rw [if_pos h]; subst h; simp
    · rw [if_neg h]
      have ih := findK_idx k r (i + 1)
      cases hf : findK k r (i + 1) with
      | none =>
        rw [hf] at ih
        intro v' hm
        rcases List.mem_cons.mp hm with e | hm
        · exact h (Prod.mk.inj e).1
        · exact ih v' hm
      | some q =>
        rw [hf] at ih
        obtain ⟨j, v2⟩ := q
        simp only at ih ⊢
        refine ⟨by omega, ?_⟩
        rw [show j - i = (j - (i + 1)) + 1 from by omega, List.getElem?_cons_succ]
        exact ih.2
theorem findK_none {k : κ} {i : Nat} (h : ∀ v, (k, v) ∉ l) : findK k l i = none := by
  have := findK_idx k l i
  cases hf : findK k l i with
  | none => rfl
  | some q =>
    rw [hf] at this
    exact absurd (List.mem_of_getElem? this.2) (h _)
theorem findK_val {k : κ} {v : Value} (hd : (l.map (·.1)).Nodup) (h : (k, v) ∈ l) : ∃ j, findK k l 0 = some (j, v) ∧ l[j]? = some (k, v) := by
  have := findK_idx k l 0
  cases hf : findK k l 0 with
  | none => rw [hf] at this; exact absurd h (this v)
  | some q =>
    obtain ⟨j, v2⟩ := q
    rw [hf] at this
    have hj := this.2
    rw [Nat.sub_zero] at hj
    obtain ⟨j', hj'⟩ := List.getElem?_of_mem h
    have e1 : (l.map (·.1))[j]? = some k := by rw [List.getElem?_map, hj]; rfl
    have e2 : (l.map (·.1))[j']? = some k := by rw [List.getElem?_map, hj']; rfl
    have : j = j' := (List.getElem?_inj (List.getElem?_eq_some_iff.1 e1).1 hd).1 (e1.trans e2.symm)
    subst this
    rw [hj] at hj'
    obtain ⟨-, rfl⟩ := Prod.mk.inj (Option.some.inj hj')
    exact ⟨j, rfl, hj⟩
theorem run_lookup (hm : P.underlying mt = some (.map kt et)) (hk : KeyLaw enc P kt) {z : Value} (hz : ∀ w, (zeroValue et).run P w = .ok z w) (h : MapB enc w g l) (k : κ) :
    (Instr.lookup mt (.map (some g)) (enc k) true).run P w = .ok (.tuple #[((findK k l 0).map (·.2)).getD z, .bool (findK k l 0).isSome]) w := by
  obtain ⟨es, clock, h1, h2, -⟩ := h
  have hf := hk.find k l es.toList h2
  have hc := hk.check es.isEmpty k
  cases hfk : findK k l 0 with
  | none => rw [hfk] at hf; simp [Instr.lookup, run_underlying hm, Go.MapKept.run_getObj_map h1, hc, hf, hz, Result.andThen]
  | some q => rw [hfk] at hf; obtain ⟨j, v⟩ := q; simp [Instr.lookup, run_underlying hm, Go.MapKept.run_getObj_map h1, hc, hf, Result.andThen]
theorem put_map {es es' : Array MapEntry} {clock clock' : Nat} (h1 : w.heap[g]? = some (.map es clock)) : ({ w with heap := w.heap.setIfInBounds g (.map es' clock') } : World).heap[g]? = some (.map es' clock') ∧ Fr [g] w { w with heap := w.heap.setIfInBounds g (.map es' clock') } := by
  have hlt : g < w.heap.size := (Array.getElem?_eq_some_iff.1 h1).1
  refine ⟨by simp [hlt], rfl, rfl, rfl, by simp, fun i hi hn => ?_⟩
  have : g ≠ i := fun e => hn (by simp [e])
  simp [Array.getElem?_setIfInBounds_ne this]
theorem born_push {es : Array MapEntry} {clock : Nat} {k v : Value} (h : ∀ e ∈ es.toList, e.born < clock) : ∀ e ∈ (es.push { key := k, val := v, born := clock }).toList, e.born < clock + 1 := by
  intro e he
  rw [Array.toList_push, List.mem_append, List.mem_singleton] at he
  rcases he with he | rfl
  · exact Nat.lt_succ_of_lt (h e he)
  · exact Nat.lt_succ_self _
theorem run_update (hm : P.underlying mt = some (.map kt et)) (hk : KeyLaw enc P kt) (h : MapB enc w g l) {k : κ} (hn : ∀ v, (k, v) ∉ l) (v : Value) :
    ∃ w', (Instr.mapUpdate mt (.map (some g)) (enc k) v).run P w = .ok () w' ∧ MapB enc w' g (l ++ [(k, v)]) ∧ Fr [g] w w' := by
  obtain ⟨es, clock, h1, h2, h3⟩ := h
  have hf := hk.find k l es.toList h2
  rw [findK_none hn] at hf
  obtain ⟨p1, p2⟩ := put_map (es' := es.push { key := enc k, val := v, born := clock }) (clock' := clock + 1) h1
  refine ⟨_, ?_, ⟨_, _, p1, ?_, born_push h3⟩, p2⟩
  · simp [Instr.mapUpdate, run_underlying hm, Go.MapKept.run_getObj_map h1, hk.check, hf, Result.andThen, Go.MapKept.run_setObj_map _ h1]
  · rw [Array.toList_push, List.map_append, h2]; simp [kvs]
theorem run_delete (hm : P.underlying mt = some (.map kt et)) (hk : KeyLaw enc P kt) (h : MapB enc w g l) {k : κ} {j : Nat} {v : Value} (hj : findK k l 0 = some (j, v)) (kt' : TypeId) :
    ∃ w', (∀ ty, (Builtin.delete_ #[mt, kt'] ty #[.map (some g), enc k]).run P w = .ok (.tuple #[]) w') ∧ MapB enc w' g (l.eraseIdx j) ∧ Fr [g] w w' := by
  obtain ⟨es, clock, h1, h2, h3⟩ := h
  have hf := hk.find k l es.toList h2
  rw [hj] at hf
  obtain ⟨p1, p2⟩ := put_map (es' := es.eraseIdxIfInBounds j) (clock' := clock) h1
  have e : (es.eraseIdxIfInBounds j).toList = es.toList.eraseIdx j := by
    unfold Array.eraseIdxIfInBounds
    split
    · simp
    · rw [List.eraseIdx_of_length_le (by simpa using by omega)]
  refine ⟨_, fun ty => ?_, ⟨_, _, p1, ?_, fun x hx => h3 x (by rw [e] at hx; exact List.mem_of_mem_eraseIdx hx)⟩, p2⟩
  · simp [Builtin.delete_, run_underlying hm, Go.MapKept.run_getObj_map h1, hk.check, hf, Result.andThen, Go.MapKept.run_setObj_map _ h1]
  · rw [e, erase_map, h2, kvs, kvs, ← erase_map]
/-- 'm[k] = v' of a new key, as an entry and a store into it -/
theorem run_entry (hm : P.underlying mt = some (.map kt et)) (hk : KeyLaw enc P kt) {z : Value} (hz : ∀ w, (zeroValue et).run P w = .ok z w) (h : MapB enc w g l) {k : κ} (hn : ∀ v, (k, v) ∉ l) (v : Value) :
    ∃ w1 w2 : World, ∃ st : Int, (Instr.mapEntry mt (.map (some g)) (enc k)).run P w = .ok (.tuple #[z, .int .i64 st]) w1 ∧ (Instr.entryStore mt (.map (some g)) (.int .i64 st) v).run P w1 = .ok () w2 ∧ MapB enc w2 g (l ++ [(k, v)]) ∧ Fr [g] w w1 ∧ Fr [g] w w2 := by
  obtain ⟨es, clock, h1, h2, h3⟩ := h
  have hf := hk.find k l es.toList h2
  rw [findK_none hn] at hf
  obtain ⟨p1, p2⟩ := put_map (es' := es.push { key := enc k, val := z, born := clock }) (clock' := clock + 1) h1
  obtain ⟨q1, q2⟩ := put_map (es' := (es.push { key := enc k, val := z, born := clock }).modify es.size fun e => { e with val := v }) (clock' := clock + 1) p1
  have hmod : (es.push { key := enc k, val := z, born := clock }).modify es.size (fun e => { e with val := v }) = es.push { key := enc k, val := v, born := clock } := by
    apply Array.ext_getElem?
    intro i
    rw [Array.getElem?_modify, Array.getElem?_push, Array.getElem?_push]
    by_cases hi : es.size = i
    · subst hi; simp
    · rw [if_neg hi, if_neg (fun e => hi e.symm), if_neg (fun e => hi e.symm)]
  have hidx : (es.push { key := enc k, val := z, born := clock }).findIdx? (fun e => (e.born : Int) == (clock : Int)) = some es.size := by
    rw [Array.findIdx?_push]
    have : es.findIdx? (fun e => (e.born : Int) == (clock : Int)) = none := by
      rw [Array.findIdx?_eq_none_iff]
      intro e he
      have := h3 e (by simpa using he)
      simp; omega
    rw [this]; simp
  refine ⟨_, _, clock, ?_, ?_, ⟨_, _, q1, ?_, ?_⟩, p2, p2.step q2 (by simp)⟩
  · simp [Instr.mapEntry, run_underlying hm, Go.MapKept.run_getObj_map h1, hk.check, hf, hz, Result.andThen, Go.MapKept.run_setObj_map _ h1, goInt]
  · simp [Instr.entryStore, Go.MapKept.run_getObj_map p1, asInt, asIntOf, hidx, Result.andThen, Go.MapKept.run_setObj_map _ p1]
  · rw [hmod, Array.toList_push, List.map_append, h2]; simp [kvs]
  · rw [hmod]; exact born_push h3
end
theorem find_now {κ : Type} [DecidableEq κ] {enc : κ → Value} {d : TypeDesc} (hs : ∀ a b : κ, Instr.sameNow d (enc a) (enc b) = some (decide (a = b))) (k : κ) : ∀ (l : List (κ × Value)) (es : List MapEntry) (i : Nat), es.map (fun e => (e.key, e.val)) = kvs enc l → Instr.findNow d (enc k) es i = some (findK k l i)
  | [], es, i, h => by
    obtain rfl : es = [] := by simpa [kvs] using h
    rfl
  | (k', v) :: r, [], i, h => by simp [kvs] at h
  | (k', v) :: r, e :: es, i, h => by
    simp only [kvs, List.map_cons, List.cons.injEq, Prod.mk.injEq] at h
    obtain ⟨⟨h1, h2⟩, h3⟩ := h
    have ih := find_now hs k r es (i + 1) h3
    unfold Instr.findNow findK
    rw [h1, hs]
    by_cases hk : k = k'
    · rw [if_pos hk, decide_eq_true hk]; simp [h2]
    · rw [if_neg hk, decide_eq_false hk]; exact ih
theorem find_asking {κ : Type} [DecidableEq κ] {enc : κ → Value} {P : Program} {kt : TypeId} (hs : ∀ (a b : κ) (w : World), (Op.equal kt (enc a) (enc b)).run P w = .ok (decide (a = b)) w) (k : κ) : ∀ (l : List (κ × Value)) (es : List MapEntry) (i : Nat), es.map (fun e => (e.key, e.val)) = kvs enc l → ∀ w, (Instr.findAsking kt (enc k) es i).run P w = .ok (findK k l i) w
  | [], es, i, h, w => by
    obtain rfl : es = [] := by simpa [kvs] using h
    rfl
  | (k', v) :: r, [], i, h, w => by simp [kvs] at h
  | (k', v) :: r, e :: es, i, h, w => by
    simp only [kvs, List.map_cons, List.cons.injEq, Prod.mk.injEq] at h
    obtain ⟨⟨h1, h2⟩, h3⟩ := h
    have ih := find_asking hs k r es (i + 1) h3 w
    unfold Instr.findAsking findK
    rw [h1]
    by_cases hk : k = k'
    · rw [if_pos hk]; simp [hs, hk, h2, Result.andThen]
    · rw [if_neg hk]; simp [hs, hk, Result.andThen, ih]
theorem key_int {P : Program} {kt : TypeId} {kind : IntKind} (hd : P.underlying kt = some (.int kind)) : KeyLaw (fun i : Int => Value.int kind i) P kt where
  check := fun b k w => Go.MapKept.run_checkKey hd (by simp [Go.MapKept.IsKey]) b 9999
  find := fun k l es h w => Go.MapKept.run_findKey hd (find_now (fun a b => by simp [Instr.sameNow, BEq.beq]) k l es 0 h)
end Go.Proofs.YtioeafjlbdpjoaaDoor
