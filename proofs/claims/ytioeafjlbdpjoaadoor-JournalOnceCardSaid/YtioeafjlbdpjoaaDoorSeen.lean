/- What a stretch has said already: a map from keys to true, as a list of keys. -/
import Derived.Test.YtioeafjlbdpjoaaDoorUndo
import Derived.Test.YtioeafjlbdpjoaaDoorMaps
namespace Go.Proofs.YtioeafjlbdpjoaaDoor
open Go.RowKit
structure Ky where
  kind : Int
  id : Int
  n : Int
  deriving DecidableEq
abbrev encK (k : Ky) : Value := .agg #[.int .i64 k.kind, .int .i64 k.id, .int .i64 k.n]
def cellsK (k : Ky) : List Value := [.int .i64 k.kind, .int .i64 k.id, .int .i64 k.n]
theorem cellsK_len (k : Ky) : (cellsK k).length = 3 := rfl
set_option maxRecDepth 100000 in
theorem eq_key (a b : Ky) (w : World) : (Op.equal 74 (encK a) (encK b)).run Tryd.prog w = .ok (decide (a = b)) w := by
  obtain ⟨a1, a2, a3⟩ := a
  obtain ⟨b1, b2, b3⟩ := b
  have hb : (binOp .eql 74 (encK ⟨a1, a2, a3⟩) (encK ⟨b1, b2, b3⟩)).run Tryd.prog w = .ok (.bool (decide ((⟨a1, a2, a3⟩ : Ky) = ⟨b1, b2, b3⟩))) w := by
    by_cases h1 : a1 = b1 <;> by_cases h2 : a2 = b2 <;> by_cases h3 : a3 = b3 <;> simp [go_sem, encK, h1, h2, h3]
  have hu : (binOp .eql 74 (encK ⟨a1, a2, a3⟩) (encK ⟨b1, b2, b3⟩)).run Tryd.prog w = ((Op.equal 74 (encK ⟨a1, a2, a3⟩) (encK ⟨b1, b2, b3⟩)).run Tryd.prog w).andThen fun r w' => .ok (.bool r) w' := by
    rw [binOp]
    · simp only [Sem.run_bind]
      rfl
    all_goals
      intros
      simp_all [encK]
  rw [hu] at hb
  cases hc : (Op.equal 74 (encK ⟨a1, a2, a3⟩) (encK ⟨b1, b2, b3⟩)).run Tryd.prog w with
  | ok r w' =>
    rw [hc] at hb
    simp only [Result.andThen] at hb
    injection hb with e1 e2
    injection e1 with e1
    subst e1; subst e2
    rfl
  | halt h w' => rw [hc] at hb; cases hb
theorem check_key (b : Bool) (k : Ky) (w : World) : (Instr.checkKey b 10000 74 (encK k)).run Tryd.prog w = .ok () w := by
  obtain ⟨k1, k2, k3⟩ := k
  have hi := fun (v : Int) => Go.MapKept.run_checkKey (P := Tryd.prog) (w := w) (k := .int .i64 v) Tryd.underlying3 (by simp [Go.MapKept.IsKey]) b 9998
  unfold Instr.checkKey
  simp [run_underlying Tryd.underlying74, encK, go_sem, hi]
theorem key_law : KeyLaw encK Tryd.prog 74 where
  check := check_key
  find := fun k l es h w => (run_findKey_eq (P := Tryd.prog) (k := 74) w (by rw [Tryd.underlying74]) (encK k) es).trans (find_asking eq_key k l es 0 h w)
theorem zero_bool (w : World) : (zeroValue 4).run Tryd.prog w = .ok (.bool false) w := by kernel_rfl
/-- the keys that are in it -/
def SetB (w : World) (g : Nat) (ks : List Ky) : Prop := ∃ l, MapB encK w g l ∧ (∀ p ∈ l, p.2 = .bool true) ∧ ∀ k, (∃ v, (k, v) ∈ l) ↔ k ∈ ks
section
variable {w w' : World} {g : Nat} {ks : List Ky} {S : List Nat}
theorem SetB.lt (h : SetB w g ks) : g < w.heap.size := by obtain ⟨l, h, -⟩ := h; exact h.lt
theorem SetB.fr (h : SetB w g ks) (hf : Fr S w w') (hg : g ∉ S) : SetB w' g ks := by obtain ⟨l, h, r⟩ := h; exact ⟨l, h.fr hf hg, r⟩
theorem SetB.fr0 (h : SetB w g ks) (hf : Fr [] w w') : SetB w' g ks := h.fr hf (by simp)
theorem SetB.new (w : World) : SetB (w.alloc (.map #[] 0)) w.heap.size [] := ⟨[], MapB.new w, by simp, by simp⟩
theorem SetB.new_at (w : World) (n : Nat) (hn : n = w.heap.size) : SetB (w.alloc (.map #[] 0)) n [] := by subst hn; exact .new w
theorem SetB.ne_blk {b : Nat} {t : TypeId} {cs : Array Value} (h : SetB w g ks) (hb : Blk w b t cs) : b ≠ g := by
  rintro rfl
  obtain ⟨l, ⟨es, clock, h1, -⟩, -⟩ := h
  unfold Blk at hb
  rw [hb] at h1
  cases h1
theorem run_seen (h : SetB w g ks) (k : Ky) : (Instr.lookup 70 (.map (some g)) (encK k) false).run Tryd.prog w = .ok (.bool (decide (k ∈ ks))) w := by
  obtain ⟨l, ⟨es, clock, h1, h2, -⟩, ht, hk⟩ := h
  have hf := key_law.find k l es.toList h2
  have hc := key_law.check es.isEmpty k
  have hi := findK_idx k l 0
  cases hfk : findK k l 0 with
  | none =>
    rw [hfk] at hf hi
    rw [show decide (k ∈ ks) = false from by
      rw [decide_eq_false_iff_not, ← hk]
      rintro ⟨v, hv⟩
      exact hi v hv]
    simp [Instr.lookup, run_underlying Tryd.underlying70, Go.MapKept.run_getObj_map h1, hc, hf, zero_bool, Result.andThen]
  | some q =>
    rw [hfk] at hf hi
    obtain ⟨j, v⟩ := q
    have hm : (k, v) ∈ l := List.mem_of_getElem? hi.2
    obtain rfl : v = .bool true := ht _ hm
    rw [show decide (k ∈ ks) = true from by
      rw [decide_eq_true_iff, ← hk]
      exact ⟨_, hm⟩]
    simp [Instr.lookup, run_underlying Tryd.underlying70, Go.MapKept.run_getObj_map h1, hc, hf, Result.andThen]
theorem run_see (h : SetB w g ks) (k : Ky) : ∃ w', (Instr.mapUpdate 70 (.map (some g)) (encK k) (.bool true)).run Tryd.prog w = .ok () w' ∧ SetB w' g (ks ++ [k]) ∧ Fr [g] w w' := by
  obtain ⟨l, hm, ht, hk⟩ := h
  have hi := findK_idx k l 0
  cases hfk : findK k l 0 with
  | none =>
    rw [hfk] at hi
    obtain ⟨w', hr, hm', hf⟩ := run_update Tryd.underlying70 key_law hm hi (.bool true)
    refine ⟨w', hr, ⟨_, hm', fun p hp => ?_, fun x => ?_⟩, hf⟩
    · rcases List.mem_append.1 hp with hp | hp
      · exact ht p hp
      · rw [List.mem_singleton] at hp; subst hp; rfl
    · rw [List.mem_append, ← hk, List.mem_singleton]
      constructor
      · rintro ⟨v, hv⟩
        rcases List.mem_append.1 hv with hv | hv
        · exact .inl ⟨v, hv⟩
        · rw [List.mem_singleton] at hv; exact .inr (Prod.mk.inj hv).1
      · rintro (⟨v, hv⟩ | rfl)
        · exact ⟨v, by simp [hv]⟩
        · exact ⟨.bool true, by simp⟩
  | some q =>
    rw [hfk] at hi
    obtain ⟨j, v⟩ := q
    have hi : 0 ≤ j ∧ l[j]? = some (k, v) := hi
    have hmem : (k, v) ∈ l := List.mem_of_getElem? hi.2
    obtain rfl : v = .bool true := ht _ hmem
    obtain ⟨es, clock, h1, h2, h3⟩ := hm
    have hf := key_law.find k l es.toList h2
    rw [hfk] at hf
    obtain ⟨e, he1, he2⟩ : ∃ e, es[j]? = some e ∧ (e.key, e.val) = (encK k, Value.bool true) := by
      have h4 : (es.toList.map (fun e => (e.key, e.val)))[j]? = some (encK k, .bool true) := by rw [h2, kvs, List.getElem?_map, hi.2]; rfl
      rw [List.getElem?_map] at h4
      obtain ⟨e, he, hv⟩ := Option.map_eq_some_iff.1 h4
      exact ⟨e, by rw [← Array.getElem?_toList]; exact he, hv⟩
    obtain ⟨hk1, hv1⟩ := Prod.mk.inj he2
    have hsame : Instr.sameBits 10000 (encK k) (encK k) = true := by simp [Instr.sameBits, encK]
    have hmod : (es.modify j fun e => { e with key := encK k, val := .bool true }) = es := by
      apply Array.ext_getElem?
      intro i
      rw [Array.getElem?_modify]
      by_cases hij : j = i
      · subst hij
        rw [if_pos rfl, he1]
        simp only [Option.map_some]
        rw [← hk1, ← hv1]
      · rw [if_neg hij]
    obtain ⟨p1, p2⟩ := put_map (es' := es) (clock' := clock) h1
    refine ⟨_, ?_, ⟨l, ⟨es, clock, p1, h2, h3⟩, ht, fun x => ?_⟩, p2⟩
    · simp [Instr.mapUpdate, run_underlying Tryd.underlying70, Go.MapKept.run_getObj_map h1, check_key, hf, Result.andThen, Instr.keyThatStays, he1, hk1, hsame, hmod, Go.MapKept.run_setObj_map _ h1]
    · rw [List.mem_append, ← hk, List.mem_singleton]
      constructor
      · exact .inl
      · rintro (h | rfl)
        · exact h
        · exact ⟨_, hmem⟩
end
end Go.Proofs.YtioeafjlbdpjoaaDoor
