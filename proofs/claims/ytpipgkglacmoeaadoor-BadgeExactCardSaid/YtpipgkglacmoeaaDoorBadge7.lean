/- Badges and what the walks carry beside them, in one word; the contracts in that word. -/
import Derived.Test.YtpipgkglacmoeaaDoorBadge6
namespace Go.Proofs.YtpipgkglacmoeaaDoor
open Go.RowKit

abbrev Loc := List (Nat × TypeId × Array Value)
def CB (K : List Nat) (ad : Nat → Addr) (w0 w : World) (g : Nat) (ps : List (Int × Ent)) (ds : List Int) (nx : Int) (L : Loc) : Prop :=
  ∃ S, BR w0.heap.size w g ps ds nx S ∧ Cx K w0.heap.size ad w0 w S L ∧ Good ps ds nx
def blm (b : Nat) : Value := .iface 94 (.pointer (some ⟨b, 0, none⟩))
section
variable {K : List Nat} {ad : Nat → Addr} {w0 w w' : World} {g : Nat} {ps ps' : List (Int × Ent)} {ds ds' : List Int} {nx nx' : Int} {L : Loc}
theorem CB.fr0 (h : CB K ad w0 w g ps ds nx L) (hf : Fr [] w w') : CB K ad w0 w' g ps ds nx L := by
  obtain ⟨S, h1, h2, h3⟩ := h
  exact ⟨S, h1.fr0 hf, h2.fr0 hf, h3⟩
theorem CB.drew (h : CB K ad w0 w g ps ds nx L) : CB K ad w0 w.drew g ps ds nx L := h.fr0 ((Fr.refl [] w).drew)
theorem CB.alloc (h : CB K ad w0 w g ps ds nx L) (t : TypeId) (cs : Array Value) : CB K ad w0 (w.alloc (.cells cs t)) g ps ds nx ((w.heap.size, t, cs) :: L) := by
  obtain ⟨S, h1, h2, h3⟩ := h
  exact ⟨S, h1.fr0 ((Fr.refl [] w).alloc _), h2.alloc t cs, h3⟩
theorem CB.blk (h : CB K ad w0 w g ps ds nx L) {b : Nat} {t : TypeId} {cs : Array Value} (hm : (b, t, cs) ∈ L) : Blk w b t cs := h.elim fun S h => h.2.1.blk hm
theorem CB.sents (h : CB K ad w0 w g ps ds nx L) : Sents K w0.heap.size w ad := h.elim fun S h => h.2.1.sents
theorem CB.fr (h : CB K ad w0 w g ps ds nx L) : Fr [] w0 w := h.elim fun S h => h.2.1.fr
theorem CB.good (h : CB K ad w0 w g ps ds nx L) : Good ps ds nx := h.elim fun S h => h.2.2
theorem CB.err (h : CB K ad w0 w g ps ds nx L) (hf : Fr [] w w') {v : Value} {k : Nat} (hn : NewErr w w' ad v k) : ∃ (b : Nat) (s : ByteArray), v = blm b ∧ CB K ad w0 w' g ps ds nx ((b, 96, #[.string s, sv (ad k)]) :: L) := by
  obtain ⟨S, h1, h2, h3⟩ := h
  obtain ⟨b, s, hv, hc⟩ := h2.err hf hn
  exact ⟨b, s, hv, S, h1.fr0 hf, hc, h3⟩
theorem CB.new (C : Cx K w0.heap.size ad w0 w [] L) : Calls Tryd.prog 8 #[] w fun e w' => ∃ g, e = .returned (.pointer (some ⟨g, 0, none⟩)) ∧ CB K ad w0 w' g [] [] 1 L := by
  refine new_calls.mono ?_
  rintro e w' ⟨g, S, rfl, hb, hf'⟩
  have hge := hb.ge
  have := C.obj hf' (fun b hb => (hge b hb).1) (fun b hb => (hge b hb).2)
  rw [List.append_nil] at this
  exact ⟨g, rfl, S, hb.up C.fr.size, this, Good.start⟩
theorem CB.stp {S S' : List Nat} (h1 : Cx K w0.heap.size ad w0 w S L) (hb : BR w0.heap.size w' g ps' ds' nx' S') (hst : Stp S S' w w') (hg : Good ps' ds' nx') : CB K ad w0 w' g ps' ds' nx' L :=
  ⟨S', hb, h1.stp hst (fun b hm => (hb.ge b hm).2), hg⟩
theorem CB.give (h : CB K ad w0 w g ps ds nx L) (hn : ds.length ≤ 100000) {e : Ent} (he : idOf ps e = none) (hx : nx ≤ 1073741824) :
    Calls Tryd.prog 9 #[.pointer (some ⟨g, 0, none⟩), encE e] w fun e' w' => e' = .returned (.tuple #[.int .i64 nx, .nilIface]) ∧ CB K ad w0 w' g (ps ++ [(nx, e)]) (insL nx ds) (nx + 1) L := by
  obtain ⟨S, h1, h2, h3⟩ := h
  refine (give_ok h1 h2.leW h3 hn he hx).mono ?_
  rintro e' w' ⟨rfl, S', hb, hst⟩
  exact ⟨rfl, CB.stp h2 hb hst (h3.own h3.fresh (id_none he) h3.nx1 (by omega) (by omega) (by omega))⟩
theorem CB.give_err (h : CB K ad w0 w g ps ds nx L) (h9 : 9 ∈ K) (h6 : 6 ∈ K) {e : Ent} {k : Nat} (hk : idOf ps e ≠ none ∧ k = 9 ∨ idOf ps e = none ∧ 1073741824 < nx ∧ k = 6) :
    Calls Tryd.prog 9 #[.pointer (some ⟨g, 0, none⟩), encE e] w fun e' w' => ∃ b s, e' = .returned (.tuple #[.int .i64 0, blm b]) ∧ CB K ad w0 w' g ps ds nx ((b, 96, #[.string s, sv (ad k)]) :: L) := by
  have h0 := h
  obtain ⟨S, h1, h2, h3⟩ := h
  refine (Go.Proofs.YtpipgkglacmoeaaDoor.give_err h2.sents h9 h6 h1 hk).mono ?_
  rintro e' w' ⟨v, rfl, hn, hf⟩
  obtain ⟨b, s, rfl, hc⟩ := h0.err hf hn
  exact ⟨b, s, rfl, hc⟩
theorem CB.pin (h : CB K ad w0 w g ps ds nx L) (hn : ds.length ≤ 100000) {id : Int} {e : Ent} (h1 : 1 ≤ id) (h2 : id < nx) (ho : ownOf ps id = none) (he : idOf ps e = none) :
    Calls Tryd.prog 10 #[.pointer (some ⟨g, 0, none⟩), .int .i64 id, encE e] w fun e' w' => e' = .returned .nilIface ∧ CB K ad w0 w' g (ps ++ [(id, e)]) (insL id ds) nx L := by
  obtain ⟨S, q1, q2, q3⟩ := h
  refine (pin_ok q1 q2.leW q3 hn h1 h2 ho he).mono ?_
  rintro e' w' ⟨rfl, S', hb, hst⟩
  exact ⟨rfl, CB.stp q2 hb hst (q3.own (own_none ho) (id_none he) h1 h2 (by omega) q3.nx2)⟩
theorem CB.pin_err (h : CB K ad w0 w g ps ds nx L) (h9 : 9 ∈ K) (h1 : 1 ∈ K) {id : Int} {e : Ent} {k : Nat} (hk : (id < 1 ∨ nx ≤ id) ∧ k = 1 ∨ 1 ≤ id ∧ id < nx ∧ (ownOf ps id ≠ none ∨ idOf ps e ≠ none) ∧ k = 9) :
    Calls Tryd.prog 10 #[.pointer (some ⟨g, 0, none⟩), .int .i64 id, encE e] w fun e' w' => ∃ b s, e' = .returned (blm b) ∧ CB K ad w0 w' g ps ds nx ((b, 96, #[.string s, sv (ad k)]) :: L) := by
  have h0 := h
  obtain ⟨S, q1, q2, q3⟩ := h
  refine (Go.Proofs.YtpipgkglacmoeaaDoor.pin_err q2.sents h9 h1 q1 hk).mono ?_
  rintro e' w' ⟨v, rfl, hn, hf⟩
  obtain ⟨b, s, rfl, hc⟩ := h0.err hf hn
  exact ⟨b, s, rfl, hc⟩
theorem CB.drop (h : CB K ad w0 w g ps ds nx L) (hn : ds.length ≤ 100000) {id : Int} {e : Ent} (ho : ownOf ps id = some e) :
    Calls Tryd.prog 11 #[.pointer (some ⟨g, 0, none⟩), .int .i64 id] w fun e' w' => e' = .returned (.tuple #[encE e, .nilIface]) ∧ CB K ad w0 w' g (dropP ps id) (dropD ds id) nx L := by
  obtain ⟨S, q1, q2, q3⟩ := h
  refine (drop_ok q1 q3 hn ho).mono ?_
  rintro e' w' ⟨rfl, S', hb, hst⟩
  exact ⟨rfl, CB.stp q2 hb hst (q3.drop' ho).1⟩
theorem CB.drop_err (h : CB K ad w0 w g ps ds nx L) (h7 : 7 ∈ K) {id : Int} (ho : ownOf ps id = none) :
    Calls Tryd.prog 11 #[.pointer (some ⟨g, 0, none⟩), .int .i64 id] w fun e' w' => ∃ b s, e' = .returned (.tuple #[encE (0, 0), blm b]) ∧ CB K ad w0 w' g ps ds nx ((b, 96, #[.string s, sv (ad 7)]) :: L) := by
  have h0 := h
  obtain ⟨S, q1, q2, q3⟩ := h
  refine (Go.Proofs.YtpipgkglacmoeaaDoor.drop_err q2.sents h7 q1 ho).mono ?_
  rintro e' w' ⟨v, rfl, hn, hf⟩
  obtain ⟨b, s, rfl, hc⟩ := h0.err hf hn
  exact ⟨b, s, rfl, hc⟩
theorem turn_pos (hs : ds.Pairwise (· < ·)) {next : Int} (hl : turnB ds next = false) : ∀ d ∈ ds, d < next := by
  intro d hd
  unfold turnB at hl
  cases hc : ds.getLast? with
  | none => rw [List.getLast?_eq_none_iff.mp hc] at hd; cases hd
  | some l =>
    rw [hc] at hl
    have hln : l < next := by simpa using hl
    obtain ⟨i, hi⟩ := List.getElem?_of_mem hd
    rw [List.getLast?_eq_getElem?] at hc
    have hil := (List.getElem?_eq_some_iff.1 hi)
    have hcl := (List.getElem?_eq_some_iff.1 hc)
    rcases Nat.lt_or_ge i (ds.length - 1) with hlt | hge
    · have := List.pairwise_iff_getElem.mp hs i (ds.length - 1) hil.1 hcl.1 hlt
      rw [hil.2, hcl.2] at this
      omega
    · have : i = ds.length - 1 := by have := hil.1; omega
      subst this
      rw [hi] at hc
      obtain rfl := Option.some.inj hc
      exact hln
theorem CB.turn (h : CB K ad w0 w g ps ds nx L) (hn : ds.length ≤ 100000) {next : Int} (h1 : 1 ≤ next) (h2 : next ≤ 1073741825) (hl : turnB ds next = false) :
    Calls Tryd.prog 12 #[.pointer (some ⟨g, 0, none⟩), .int .i64 next] w fun e' w' => e' = .returned (.tuple #[.int .i64 nx, .nilIface]) ∧ CB K ad w0 w' g ps ds next L := by
  obtain ⟨S, q1, q2, q3⟩ := h
  refine (turn_ok q1 hn h1 h2 hl).mono ?_
  rintro e' w' ⟨rfl, hb, hf⟩
  exact ⟨rfl, S, hb, q2.same hf, ⟨q3.ids, q3.ents, q3.sorted, q3.same, q3.len, fun d hd => ⟨(q3.pos d hd).1, turn_pos q3.sorted hl d hd⟩, h1, h2⟩⟩
theorem CB.turn_err (h : CB K ad w0 w g ps ds nx L) (h1 : 1 ∈ K) (hn : ds.length ≤ 100000) {next : Int} (hk : next < 1 ∨ 1073741825 < next ∨ turnB ds next = true) :
    Calls Tryd.prog 12 #[.pointer (some ⟨g, 0, none⟩), .int .i64 next] w fun e' w' => ∃ b s, e' = .returned (.tuple #[.int .i64 0, blm b]) ∧ CB K ad w0 w' g ps ds nx ((b, 96, #[.string s, sv (ad 1)]) :: L) := by
  have h0 := h
  obtain ⟨S, q1, q2, q3⟩ := h
  refine (Go.Proofs.YtpipgkglacmoeaaDoor.turn_err q2.sents h1 q1 hn hk).mono ?_
  rintro e' w' ⟨v, rfl, hn, hf⟩
  obtain ⟨b, s, rfl, hc⟩ := h0.err hf hn
  exact ⟨b, s, rfl, hc⟩
theorem CB.entity (h : CB K ad w0 w g ps ds nx L) (id : Int) :
    Calls Tryd.prog 15 #[.pointer (some ⟨g, 0, none⟩), .int .i64 id] w fun e w' => e = .returned (.tuple #[encE ((ownOf ps id).getD (0, 0)), .bool (ownOf ps id).isSome]) ∧ CB K ad w0 w' g ps ds nx L ∧ Fr [] w w' := by
  have h0 := h
  obtain ⟨S, q1, q2, q3⟩ := h
  refine (entity_calls q1 id).mono ?_
  rintro e w' ⟨rfl, hf⟩
  exact ⟨rfl, h0.fr0 hf, hf⟩
theorem CB.id (h : CB K ad w0 w g ps ds nx L) (e : Ent) :
    Calls Tryd.prog 16 #[.pointer (some ⟨g, 0, none⟩), encE e] w fun e' w' => e' = .returned (.tuple #[.int .i64 ((idOf ps e).getD 0), .bool (idOf ps e).isSome]) ∧ CB K ad w0 w' g ps ds nx L ∧ Fr [] w w' := by
  have h0 := h
  obtain ⟨S, q1, q2, q3⟩ := h
  refine (id_calls q1 e).mono ?_
  rintro e w' ⟨rfl, hf⟩
  exact ⟨rfl, h0.fr0 hf, hf⟩
theorem CB.next (h : CB K ad w0 w g ps ds nx L) : Calls Tryd.prog 17 #[.pointer (some ⟨g, 0, none⟩)] w fun e w' => e = .returned (.int .i64 nx) ∧ w = w' := h.elim fun S h => next_calls h.1
theorem CB.len (h : CB K ad w0 w g ps ds nx L) : Calls Tryd.prog 14 #[.pointer (some ⟨g, 0, none⟩)] w fun e w' => e = .returned (.int .i64 ds.length) ∧ w = w' := h.elim fun S h => len_calls h.1
theorem CB.list (h : CB K ad w0 w g ps ds nx L) (hn : ds.length ≤ 1000000) : Calls Tryd.prog 13 #[.pointer (some ⟨g, 0, none⟩)] w fun e w' => ∃ v', e = .returned v' ∧ w'.ownsRow w.heap.size 3 1 v' ds.length (ints ds) ∧ CB K ad w0 w' g ps ds nx L ∧ Fr [] w w' := by
  have h0 := h
  obtain ⟨S, q1, q2, q3⟩ := h
  refine (list_calls q1 hn).mono ?_
  rintro e w' ⟨v, rfl, hr, hf⟩
  exact ⟨v, rfl, hr, h0.fr0 hf, hf⟩
end
end Go.Proofs.YtpipgkglacmoeaaDoor
