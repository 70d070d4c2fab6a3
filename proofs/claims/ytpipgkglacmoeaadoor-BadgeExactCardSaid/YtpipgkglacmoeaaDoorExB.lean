/- Badges and the reference's ones side by side: what the walk carries; a call of the one and then of the other. -/
import Derived.Test.YtpipgkglacmoeaaDoorRefB6
import Derived.Test.YtpipgkglacmoeaaDoorNum
namespace Go.Proofs.YtpipgkglacmoeaaDoor
open Go.RowKit

def XB (ad : Nat → Addr) (w0 w : World) (g u : Nat) (ps : List (Int × Ent)) (ds : List Int) (nx : Int) (ls : List (Int × Ent)) (ny : Int) (L : Loc) : Prop :=
  ∃ S T, BR w0.heap.size w g ps ds nx S ∧ RR w0.heap.size w u ls ny T ∧ Cx All18 w0.heap.size ad w0 w (S ++ T) L ∧ Good ps ds nx ∧ ∀ b ∈ S, b ∉ T
section
variable {ad : Nat → Addr} {w0 w w' : World} {g u : Nat} {ps ps' : List (Int × Ent)} {ds ds' : List Int} {nx nx' ny ny' : Int} {ls ls' : List (Int × Ent)} {L L' : Loc} {n : Nat}
theorem XB.fr0 (h : XB ad w0 w g u ps ds nx ls ny L) (hf : Fr [] w w') : XB ad w0 w' g u ps ds nx ls ny L := by
  obtain ⟨S, T, h1, h2, h3, h4, h5⟩ := h
  exact ⟨S, T, h1.fr0 hf, h2.fr0 hf, h3.fr0 hf, h4, h5⟩
theorem XB.blk (h : XB ad w0 w g u ps ds nx ls ny L) {b : Nat} {t : TypeId} {cs : Array Value} (hm : (b, t, cs) ∈ L) : Blk w b t cs := by
  obtain ⟨S, T, h1, h2, h3, h4, h5⟩ := h
  exact h3.blk hm
theorem XB.sub (h : XB ad w0 w g u ps ds nx ls ny L) (hl : ∀ x ∈ L', x ∈ L) : XB ad w0 w g u ps ds nx ls ny L' := by
  obtain ⟨S, T, h1, h2, h3, h4, h5⟩ := h
  exact ⟨S, T, h1, h2, ⟨h3.sents, fun x hx => h3.loc x (hl x hx), h3.lt, h3.fr, h3.new, h3.le⟩, h4, h5⟩
theorem XB.more (h : XB ad w0 w g u ps ds nx ls ny L) (hf : Fr [] w w') (hl : ∀ x ∈ L', Blk w' x.1 x.2.1 x.2.2 ∧ w.heap.size ≤ x.1) : XB ad w0 w' g u ps ds nx ls ny (L' ++ L) := by
  obtain ⟨S, T, h1, h2, h3, h4, h5⟩ := h
  have h3' := h3.fr0 hf
  refine ⟨S, T, h1.fr0 hf, h2.fr0 hf, ⟨h3'.sents, fun x hx => ?_, h3'.lt, h3'.fr, h3'.new, h3'.le⟩, h4, h5⟩
  rcases List.mem_append.mp hx with hx | hx
  · exact ⟨(hl x hx).1, fun hm => by have := h3.lt _ hm; have := (hl x hx).2; omega⟩
  · exact h3'.loc x hx
theorem XB.frame (h : XB ad w0 w g u ps ds nx ls ny L) : Fr [] w0 w := by
  obtain ⟨S, T, h1, h2, h3, h4, h5⟩ := h
  exact h3.fr
theorem XB.sents (h : XB ad w0 w g u ps ds nx ls ny L) : Sents All18 w0.heap.size w ad := by
  obtain ⟨S, T, h1, h2, h3, h4, h5⟩ := h
  exact h3.sents
theorem XB.good (h : XB ad w0 w g u ps ds nx ls ny L) : Good ps ds nx := by
  obtain ⟨S, T, h1, h2, h3, h4, h5⟩ := h
  exact h4
theorem XB.start (h : CB All18 ad w0 w g ps ds nx L) : Calls Tryd.prog 19 #[] w fun e w' => ∃ u, e = .returned (.pointer (some ⟨u, 0, none⟩)) ∧ XB ad w0 w' g u ps ds nx [] 1 L := by
  obtain ⟨S, h1, h2, h3⟩ := h
  refine rnew_calls.mono ?_
  rintro e w' ⟨u, T, rfl, hr, hf⟩
  have hge := hr.ge
  have hc := h2.obj hf (fun b hb => (hge b hb).1) (fun b hb => (hge b hb).2)
  refine ⟨u, rfl, S, T, h1.fr0 hf, hr.up h2.fr.size, ⟨hc.sents, fun x hx => ⟨(hc.loc x hx).1, fun hm => (hc.loc x hx).2 ?_⟩, fun b hb => hc.lt b ?_, hc.fr, fun b hb => hc.new b ?_, hc.le⟩, h3, fun b hb hT => ?_⟩
  · rcases List.mem_append.mp hm with hm | hm
    · exact List.mem_append_right _ hm
    · exact List.mem_append_left _ hm
  · rcases List.mem_append.mp hb with hm | hm
    · exact List.mem_append_right _ hm
    · exact List.mem_append_left _ hm
  · rcases List.mem_append.mp hb with hm | hm
    · exact List.mem_append_right _ hm
    · exact List.mem_append_left _ hm
  · have := (hge b hT).1
    have := (h1.ge b hb).2
    omega
/-- the one has stepped -/
theorem XB.stepG {S T S' : List Nat} (h2 : RR w0.heap.size w u ls ny T) (h3 : Cx All18 w0.heap.size ad w0 w (S ++ T) L) (h5 : ∀ b ∈ S, b ∉ T)
    (hb : BR w0.heap.size w' g ps' ds' nx' S') (hst : Stp S S' w w') (hg : Good ps' ds' nx') : XB ad w0 w' g u ps' ds' nx' ls ny L := by
  have hT : ∀ b ∈ T, b ∉ S := fun b hb hs => h5 b hs hb
  refine ⟨S', T, hb, h2.fr hst.1 hT, h3.go hst.1 (fun b hb => List.mem_append_left _ hb) (fun b hb => ?_) (fun b hm => ?_), hg, fun b hb' hT' => ?_⟩
  · rcases List.mem_append.mp hb with hb | hb
    · exact (hst.2 b hb).imp (fun h => List.mem_append_left _ h) id
    · exact .inl (List.mem_append_right _ hb)
  · rcases List.mem_append.mp hm with hm | hm
    · exact (hb.ge b hm).2
    · exact Nat.lt_of_lt_of_le (h2.ge b hm).2 hst.1.size
  · rcases hst.2 b hb' with h | h
    · exact h5 b h hT'
    · have := (h2.ge b hT').2; omega
theorem XB.stepR {S T T' : List Nat} (h1 : BR w0.heap.size w g ps ds nx S) (h3 : Cx All18 w0.heap.size ad w0 w (S ++ T) L) (h5 : ∀ b ∈ S, b ∉ T) (hg : Good ps ds nx)
    (hb : RR w0.heap.size w' u ls' ny' T') (hst : Stp T T' w w') : XB ad w0 w' g u ps ds nx ls' ny' L := by
  refine ⟨S, T', h1.fr hst.1 h5, hb, h3.go hst.1 (fun b hb => List.mem_append_right _ hb) (fun b hb => ?_) (fun b hm => ?_), hg, fun b hb' hT' => ?_⟩
  · rcases List.mem_append.mp hb with hb | hb
    · exact .inl (List.mem_append_left _ hb)
    · exact (hst.2 b hb).imp (fun h => List.mem_append_right _ h) id
  · rcases List.mem_append.mp hm with hm | hm
    · exact Nat.lt_of_lt_of_le (h1.ge b hm).2 hst.1.size
    · exact (hb.ge b hm).2
  · rcases hst.2 b hT' with h | h
    · exact h5 b hb' h
    · have := (h1.ge b hb').2; omega
/-- an answer's error, of number k -/
def ErrL (ad : Nat → Addr) (v : Value) (k : Nat) (L : Loc) : Prop := (v = .nilIface ∧ k = 0 ∧ L = []) ∨ ∃ b s, v = blm b ∧ 1 ≤ k ∧ k ≤ 18 ∧ L = [(b, 96, #[.string s, sv (ad k)])]
def XV (ad : Nat → Addr) (w0 w : World) (g u : Nat) (ps : List (Int × Ent)) (ds : List Int) (nx : Int) (ls : List (Int × Ent)) (ny : Int) (L : Loc) (v : Value) (k : Nat) : Prop :=
  ∃ L', ErrL ad v k L' ∧ XB ad w0 w g u ps ds nx ls ny (L' ++ L)
theorem XB.err {S T : List Nat} (h1 : BR w0.heap.size w g ps ds nx S) (h2 : RR w0.heap.size w u ls ny T) (h3 : Cx All18 w0.heap.size ad w0 w (S ++ T) L) (h4 : Good ps ds nx) (h5 : ∀ b ∈ S, b ∉ T) (hf : Fr [] w w') {v : Value} {k : Nat} (hn : NewErr w w' ad v k) (hk : 1 ≤ k ∧ k ≤ 18) : XV ad w0 w' g u ps ds nx ls ny L v k := by
  obtain ⟨b, s, hv, hc⟩ := h3.err hf hn
  exact ⟨_, .inr ⟨b, s, hv, hk.1, hk.2, rfl⟩, S, T, h1.fr0 hf, h2.fr0 hf, hc, h4, h5⟩
theorem XB.nil (h : XB ad w0 w g u ps ds nx ls ny L) : XV ad w0 w g u ps ds nx ls ny L .nilIface 0 := ⟨[], .inl ⟨rfl, rfl, rfl⟩, h⟩
theorem XV.fr0 {v : Value} {k : Nat} (h : XV ad w0 w g u ps ds nx ls ny L v k) (hf : Fr [] w w') : XV ad w0 w' g u ps ds nx ls ny L v k := by
  obtain ⟨L', h1, h2⟩ := h
  exact ⟨L', h1, h2.fr0 hf⟩
theorem XV.sub {v : Value} {k : Nat} (h : XV ad w0 w g u ps ds nx ls ny L v k) (hl : ∀ x ∈ L', x ∈ L) : XV ad w0 w g u ps ds nx ls ny L' v k := by
  obtain ⟨M, h1, h2⟩ := h
  exact ⟨M, h1, h2.sub fun x hx => by
    rcases List.mem_append.mp hx with hx | hx
    · exact List.mem_append_left _ hx
    · exact List.mem_append_right _ (hl x hx)⟩
theorem XV.xb {v : Value} {k : Nat} (h : XV ad w0 w g u ps ds nx ls ny L v k) : XB ad w0 w g u ps ds nx ls ny L := by
  obtain ⟨M, h1, h2⟩ := h
  exact h2.sub fun x hx => List.mem_append_right _ hx
theorem XV.number {v : Value} {k : Nat} (h : XV ad w0 w g u ps ds nx ls ny L v k) : Calls Tryd.prog 26 #[v] w fun e w' => e = .returned (.int .i64 k) ∧ w' = w := by
  obtain ⟨M, h1, h2⟩ := h
  rcases h1 with ⟨rfl, rfl, rfl⟩ | ⟨b, s, rfl, hk1, hk2, rfl⟩
  · exact (number_calls (T := []) h2.sents (.inl ⟨rfl, rfl, rfl⟩) (by omega)).mono fun e w' ⟨h, h'⟩ => ⟨h, h'.symm⟩
  · exact (number_calls h2.sents (.inr ⟨hk1, chain_of (b := b) (s := s) (h2.blk (by simp))⟩) hk2).mono fun e w' ⟨h, h'⟩ => ⟨h, h'.symm⟩
theorem XB.next (h : XB ad w0 w g u ps ds nx ls ny L) : Calls Tryd.prog 17 #[.pointer (some ⟨g, 0, none⟩)] w fun e w' => e = .returned (.int .i64 nx) ∧ w' = w := by
  obtain ⟨S, T, h1, -⟩ := h
  exact (next_calls h1).mono fun e w' ⟨h, h'⟩ => ⟨h, h'.symm⟩
theorem XB.len (h : XB ad w0 w g u ps ds nx ls ny L) : Calls Tryd.prog 14 #[.pointer (some ⟨g, 0, none⟩)] w fun e w' => e = .returned (.int .i64 ds.length) ∧ w' = w := by
  obtain ⟨S, T, h1, -⟩ := h
  exact (len_calls h1).mono fun e w' ⟨h, h'⟩ => ⟨h, h'.symm⟩
/-- behind both calls -/
def ZV (ad : Nat → Addr) (w0 w : World) (g u n : Nat) (L : Loc) (v : Value) (k : Nat) : Prop :=
  ∃ ps ds nx ls, XV ad w0 w g u ps ds nx ls nx L v k ∧ RelP ps ds ls ∧ ds.length ≤ n
/-- what the other's call is to say, in each world behind the one's -/
def Then (ad : Nat → Addr) (w0 w1 : World) (g u n : Nat) (L : Loc) (f : FuncId) (args : Array Value) (r : Value) (v : Value) (k : Nat) : Prop :=
  (∀ x ∈ L, Blk w1 x.1 x.2.1 x.2.2) ∧ ∀ w' L', Fr [] w1 w' → (∀ x ∈ L', Blk w' x.1 x.2.1 x.2.2 ∧ w1.heap.size ≤ x.1) → Calls Tryd.prog f args w' fun e w2 => e = .returned r ∧ ZV ad w0 w2 g u n (L' ++ L) v k
theorem XV.more {v : Value} {k : Nat} (h : XV ad w0 w g u ps ds nx ls ny L v k) (hf : Fr [] w w') (hl : ∀ x ∈ L', Blk w' x.1 x.2.1 x.2.2 ∧ w.heap.size ≤ x.1) : XV ad w0 w' g u ps ds nx ls ny (L' ++ L) v k := by
  obtain ⟨M, h1, h2⟩ := h
  exact ⟨M, h1, (h2.more hf hl).sub fun x hx => by
    simp only [List.mem_append] at hx ⊢
    rcases hx with hx | hx | hx
    · exact .inr (.inl hx)
    · exact .inl hx
    · exact .inr (.inr hx)⟩
theorem XV.blks {v : Value} {k : Nat} (h : XV ad w0 w g u ps ds nx ls ny L v k) : ∀ x ∈ L, Blk w x.1 x.2.1 x.2.2 := by
  obtain ⟨M, h1, h2⟩ := h
  exact fun x hx => h2.blk (b := x.1) (t := x.2.1) (cs := x.2.2) (List.mem_append_right _ hx)
theorem XV.open_ {v : Value} {k : Nat} (h : XV ad w0 w g u ps ds nx ls ny L v k) : ∃ M S T, ErrL ad v k M ∧ BR w0.heap.size w g ps ds nx S ∧ RR w0.heap.size w u ls ny T ∧ Cx All18 w0.heap.size ad w0 w (S ++ T) (M ++ L) ∧ Good ps ds nx ∧ ∀ b ∈ S, b ∉ T := by
  obtain ⟨M, h1, S, T, h2⟩ := h
  exact ⟨M, S, T, h1, h2⟩
theorem RelP.len_le (hR : RelP ps ds ls) (hn : ds.length ≤ n) (h : n ≤ 100000) : ls.length ≤ 100000 := by rw [hR.len]; omega
theorem XB.give (h : XB ad w0 w g u ps ds nx ls nx L) (hR : RelP ps ds ls) (hn : ds.length ≤ n) (h1000 : n ≤ 1000) (e : Ent) :
    Calls Tryd.prog 9 #[.pointer (some ⟨g, 0, none⟩), encE e] w fun e' w1 => ∃ r v k, e' = .returned (.tuple #[.int .i64 r, v]) ∧ Then ad w0 w1 g u (n + 1) L 20 #[.pointer (some ⟨u, 0, none⟩), encE e] (.tuple #[.int .i64 r, .int .i64 (k : Nat)]) v k := by
  obtain ⟨S, T, h1, h2, h3, h4, h5⟩ := h
  have hll := hR.len_le hn (by omega)
  have hid := hR.idq h4 e
  by_cases he : idOf ps e = none
  · by_cases hx : nx ≤ 1073741824
    · refine (give_ok h1 h3.leW h4 (by omega) he hx).mono ?_
      rintro e' w' ⟨rfl, S', hb, hst⟩
      have hX := XB.stepG h2 h3 h5 hb hst (h4.own h4.fresh (id_none he) h4.nx1 (by omega) (by omega) (by omega))
      refine ⟨nx, .nilIface, 0, rfl, hX.nil.blks, fun w'' L' hf hl => ?_⟩
      obtain ⟨M, S2, T2, q0, q1, q2, q3, q4, q5⟩ := (hX.nil.more hf hl).open_
      refine (rgive_calls q2 hll h4.nx1 e).mono ?_
      rintro e2 w2 (⟨c, -⟩ | ⟨-, c, -⟩ | ⟨-, -, rfl, T3, hr, hst2⟩)
      · exact absurd (hid.trans he) c
      · exact absurd hx (by omega)
      · refine ⟨rfl, _, _, _, _, ⟨M, q0, XB.stepR q1 q3 q5 q4 hr hst2⟩, hR.add h4.fresh, by rw [ins_len]; omega⟩
    · refine (Go.Proofs.YtpipgkglacmoeaaDoor.give_err h3.sents (mem_all18 (by omega) (by omega)) (mem_all18 (by omega) (by omega)) h1 (k := 6) (.inr ⟨he, by omega, rfl⟩)).mono ?_
      rintro e' w' ⟨v, rfl, hne, hf0⟩
      have hX := XB.err h1 h2 h3 h4 h5 hf0 hne ⟨by omega, by omega⟩
      refine ⟨0, v, 6, rfl, hX.blks, fun w'' L' hf hl => ?_⟩
      have hXm := hX.more hf hl
      obtain ⟨M, S2, T2, q0, q1, q2, q3, q4, q5⟩ := hXm.open_
      refine (rgive_calls q2 hll h4.nx1 e).mono ?_
      rintro e2 w2 (⟨c, -⟩ | ⟨-, c, rfl, hf2⟩ | ⟨-, c, -⟩)
      · exact absurd (hid.trans he) c
      · exact ⟨rfl, _, _, _, _, hXm.fr0 hf2, hR, by omega⟩
      · exact absurd c hx
  · refine (Go.Proofs.YtpipgkglacmoeaaDoor.give_err h3.sents (mem_all18 (by omega) (by omega)) (mem_all18 (by omega) (by omega)) h1 (k := 9) (.inl ⟨he, rfl⟩)).mono ?_
    rintro e' w' ⟨v, rfl, hne, hf0⟩
    have hX := XB.err h1 h2 h3 h4 h5 hf0 hne ⟨by omega, by omega⟩
    refine ⟨0, v, 9, rfl, hX.blks, fun w'' L' hf hl => ?_⟩
    have hXm := hX.more hf hl
    obtain ⟨M, S2, T2, q0, q1, q2, q3, q4, q5⟩ := hXm.open_
    refine (rgive_calls q2 hll h4.nx1 e).mono ?_
    rintro e2 w2 (⟨-, rfl, hf2⟩ | ⟨c, -⟩ | ⟨c, -⟩)
    · exact ⟨rfl, _, _, _, _, hXm.fr0 hf2, hR, by omega⟩
    · exact absurd (hid.symm.trans c) he
    · exact absurd (hid.symm.trans c) he
end
end Go.Proofs.YtpipgkglacmoeaaDoor
