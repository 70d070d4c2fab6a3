/- The calls of an atlas told by the final list of sets: places don't turn. Pure words on sets. -/
import Derived.Test.YtclmmfkbkaldlaaDoorAwake
namespace Go.Proofs.YtclmmfkbkaldlaaDoor
open Go.RowKit

/-- one list begins another one -/
def In (ms F : List Nat) : Prop := ∃ t, F = ms ++ t
theorem In.refl (ms : List Nat) : In ms ms := ⟨[], by simp⟩
theorem In.of_addm {ms F : List Nat} {t : Nat} (h : In (addm ms t) F) : In ms F := by
  obtain ⟨r, hr⟩ := h
  unfold addm at hr
  split at hr
  · exact ⟨r, hr⟩
  · exact ⟨[t] ++ r, by rw [hr, List.append_assoc]⟩
theorem In.addm (ms : List Nat) (t : Nat) : In ms (Go.Proofs.YtclmmfkbkaldlaaDoor.addm ms t) := (In.refl _).of_addm
theorem In.trans {a b c : List Nat} (h : In a b) (k : In b c) : In a c := by
  obtain ⟨r, rfl⟩ := h
  obtain ⟨s, rfl⟩ := k
  exact ⟨r ++ s, by rw [List.append_assoc]⟩
theorem In.idx {ms F : List Nat} (h : In ms F) {x : Nat} (hx : x ∈ ms) : F.idxOf x = ms.idxOf x := by
  obtain ⟨r, rfl⟩ := h
  rw [List.idxOf_append, if_pos hx]
theorem In.get {ms F : List Nat} (h : In ms F) {x : Nat} (hx : x ∈ ms) : ms[F.idxOf x]? = some x := by
  rw [h.idx hx]
  have hlt := List.idxOf_lt_length_of_mem hx
  rw [List.getElem?_eq_getElem hlt, List.getElem_idxOf]
theorem In.mem {ms F : List Nat} (h : In ms F) {x : Nat} (hx : x ∈ ms) : x ∈ F := by
  obtain ⟨r, rfl⟩ := h
  exact List.mem_append_left _ hx
theorem In.len {ms F : List Nat} (h : In ms F) : ms.length ≤ F.length := by
  obtain ⟨r, rfl⟩ := h
  simp
theorem mem_addm {ms : List Nat} {x : Nat} (h : x ∈ ms) (t : Nat) : x ∈ addm ms t := (In.addm ms t).mem h

theorem wth_comm (m c d : Nat) : wth (wth m c) d = wth (wth m d) c := by
  unfold wth; rw [Nat.or_assoc, Nat.or_assoc, Nat.or_comm (2 ^ c)]
theorem wth_idem (m c : Nat) : wth (wth m c) c = wth m c := by unfold wth; rw [Nat.or_assoc, Nat.or_self]
theorem wth_of {m c : Nat} (h : m.testBit c = true) : wth m c = m := by
  apply Nat.eq_of_testBit_eq
  intro i
  rw [wth_bit]
  by_cases e : c = i
  · subst e; simp [h]
  · simp [e]
theorem wout_wth {m c : Nat} (hm : m < 4294967296) (hc : c < 32) : wout (wth m c) c = wout m c := by
  have hm' : wth m c < 4294967296 := by
    have := wth_lt (m := m) (c := c) (k := 32) (by simpa using hm) hc
    simpa using this
  apply Nat.eq_of_testBit_eq
  intro i
  rw [wout_bit _ _ _ hm' hc, wout_bit _ _ _ hm hc, wth_bit]
  by_cases e : c = i
  · simp [e]
  · simp [e]
theorem wout_of {m c : Nat} (hm : m < 4294967296) (hc : c < 32) (h : m.testBit c = false) : wout m c = m := by
  apply Nat.eq_of_testBit_eq
  intro i
  rw [wout_bit _ _ _ hm hc]
  by_cases e : c = i
  · subst e; simp [h]
  · simp [e]
theorem and_ffff (m : Nat) : m &&& 65535 = m % 65536 := Nat.and_two_pow_sub_one_eq_mod m 16

section
variable {K : List Nat} {w wr w' : World} {ad : Nat → Addr} {g cn : Nat} {ms ms' S S' F : List Nat} {L : List (Nat × TypeId × Array Value)}
def Step (K : List Nat) (w : World) (ad : Nat → Addr) (g cn : Nat) (ms : List Nat) (L : List (Nat × TypeId × Array Value)) (S : List Nat) (wr w' : World) : Prop := ∃ S', AI K w ad g cn ms S' L w' ∧ Stp S S' wr w'
theorem at_step (h : AI K w ad g cn ms S L wr) {m : Nat} (hF : In (addm ms m) F) (hm : m < 2 ^ cn) (hl : ms.length ≤ 1000000) :
    Calls Tryd.prog 10 #[.pointer (some ⟨g, 0, none⟩), .int .u32 m] wr fun e w' => e = .returned (.tuple #[.int .i64 (F.idxOf m : Nat), .nilIface]) ∧ Step K w ad g cn (addm ms m) L S wr w' := by
  refine (at_ok h.atl h.cx.leW hm hl).mono ?_
  rintro e w' ⟨rfl, S', hr, hst⟩
  exact ⟨by rw [hF.idx (addm_mem _ _)], S', h.stp hr hst, hst⟩
theorem with_step (h : AI K w ad g cn ms S L wr) {x c : Nat} (hF : In (addm ms (wth x c)) F) (hx : x ∈ ms) (hc : c < cn) (hl : ms.length ≤ 1000000) :
    Calls Tryd.prog 13 #[.pointer (some ⟨g, 0, none⟩), .int .i64 (F.idxOf x : Nat), .int .i64 c] wr fun e w' => e = .returned (.tuple #[.int .i64 (F.idxOf (wth x c) : Nat), .nilIface]) ∧ Step K w ad g cn (addm ms (wth x c)) L S wr w' := by
  refine (awith_ok h.atl h.cx.leW (hF.of_addm.get hx) hc hl).mono ?_
  rintro e w' ⟨rfl, S', hr, hst⟩
  exact ⟨by rw [hF.idx (addm_mem _ _)], S', h.stp hr hst, hst⟩
theorem without_step (h : AI K w ad g cn ms S L wr) {x c : Nat} (hF : In (addm ms (wout x c)) F) (hx : x ∈ ms) (hc : c < cn) (hl : ms.length ≤ 1000000) :
    Calls Tryd.prog 14 #[.pointer (some ⟨g, 0, none⟩), .int .i64 (F.idxOf x : Nat), .int .i64 c] wr fun e w' => e = .returned (.tuple #[.int .i64 (F.idxOf (wout x c) : Nat), .nilIface]) ∧ Step K w ad g cn (addm ms (wout x c)) L S wr w' := by
  refine (awithout_ok h.atl h.cx.leW (hF.of_addm.get hx) hc hl).mono ?_
  rintro e w' ⟨rfl, S', hr, hst⟩
  exact ⟨by rw [hF.idx (addm_mem _ _)], S', h.stp hr hst, hst⟩
theorem mask_step (h : AI K w ad g cn ms S L wr) {x : Nat} (hF : In ms F) (hx : x ∈ ms) (hl : ms.length ≤ 1000000) :
    Calls Tryd.prog 11 #[.pointer (some ⟨g, 0, none⟩), .int .i64 (F.idxOf x : Nat)] wr fun e w' => e = .returned (.tuple #[.int .u32 x, .nilIface]) ∧ wr = w' := mask_ok h.atl (hF.get hx) hl
end
end Go.Proofs.YtclmmfkbkaldlaaDoor
