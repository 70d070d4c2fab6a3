/- A call of badges and then of the reference's ones: Pin, Drop, Turn. -/
import Derived.Test.YtpipgkglacmoeaaDoorExB
namespace Go.Proofs.YtpipgkglacmoeaaDoor
open Go.RowKit
section
variable {ad : Nat → Addr} {w0 w w' : World} {g u : Nat} {ps ps' : List (Int × Ent)} {ds ds' : List Int} {nx nx' ny ny' : Int} {ls ls' : List (Int × Ent)} {L L' : Loc} {n : Nat}
theorem XB.pin (h : XB ad w0 w g u ps ds nx ls nx L) (hR : RelP ps ds ls) (hn : ds.length ≤ n) (h1000 : n ≤ 1000) (id : Int) (e : Ent) :
    Calls Tryd.prog 10 #[.pointer (some ⟨g, 0, none⟩), .int .i64 id, encE e] w fun e' w1 => ∃ v k, e' = .returned v ∧ Then ad w0 w1 g u (n + 1) L 21 #[.pointer (some ⟨u, 0, none⟩), .int .i64 id, encE e] (.int .i64 (k : Nat)) v k := by
  obtain ⟨S, T, h1, h2, h3, h4, h5⟩ := h
  have hll := hR.len_le hn (by omega)
  have hid := hR.idq h4 e
  have how := hR.own h4 id
  by_cases hr : 1 ≤ id ∧ id < nx
  · by_cases ho : ownOf ps id = none ∧ idOf ps e = none
    · refine (pin_ok h1 h3.leW h4 (by omega) hr.1 hr.2 ho.1 ho.2).mono ?_
      rintro e' w' ⟨rfl, S', hb, hst⟩
      have hX := XB.stepG h2 h3 h5 hb hst (h4.own (own_none ho.1) (id_none ho.2) hr.1 hr.2 (by omega) h4.nx2)
      refine ⟨.nilIface, 0, rfl, hX.nil.blks, fun w'' L' hf hl => ?_⟩
      obtain ⟨M, S2, T2, q0, q1, q2, q3, q4, q5⟩ := (hX.nil.more hf hl).open_
      refine (rpin_calls q2 hll id e).mono ?_
      rintro e2 w2 (⟨c, -⟩ | ⟨-, -, c, -⟩ | ⟨-, -, -, -, rfl, T3, hr', hst2⟩)
      · exact absurd c (by omega)
      · exact absurd c (by rw [how, hid, ho.1, ho.2]; simp)
      · exact ⟨rfl, _, _, _, _, ⟨M, q0, XB.stepR q1 q3 q5 q4 hr' hst2⟩, hR.add (own_none ho.1), by rw [ins_len]; omega⟩
    · have hor : ownOf ps id ≠ none ∨ idOf ps e ≠ none := by
        by_cases h : ownOf ps id = none
        · exact .inr fun h' => ho ⟨h, h'⟩
        · exact .inl h
      refine (Go.Proofs.YtpipgkglacmoeaaDoor.pin_err h3.sents (mem_all18 (by omega) (by omega)) (mem_all18 (by omega) (by omega)) h1 (k := 9) (.inr ⟨hr.1, hr.2, hor, rfl⟩)).mono ?_
      rintro e' w' ⟨v, rfl, hne, hf0⟩
      have hX := XB.err h1 h2 h3 h4 h5 hf0 hne ⟨by omega, by omega⟩
      refine ⟨v, 9, rfl, hX.blks, fun w'' L' hf hl => ?_⟩
      have hXm := hX.more hf hl
      obtain ⟨M, S2, T2, q0, q1, q2, q3, q4, q5⟩ := hXm.open_
      refine (rpin_calls q2 hll id e).mono ?_
      rintro e2 w2 (⟨c, -⟩ | ⟨-, -, c, rfl, hf2⟩ | ⟨-, -, c1, c2, -⟩)
      · exact absurd c (by omega)
      · exact ⟨rfl, _, _, _, _, hXm.fr0 hf2, hR, by omega⟩
      · exact absurd ⟨how.symm.trans c1, hid.symm.trans c2⟩ ho
  · refine (Go.Proofs.YtpipgkglacmoeaaDoor.pin_err h3.sents (mem_all18 (by omega) (by omega)) (mem_all18 (by omega) (by omega)) h1 (k := 1) (.inl ⟨by omega, rfl⟩)).mono ?_
    rintro e' w' ⟨v, rfl, hne, hf0⟩
    have hX := XB.err h1 h2 h3 h4 h5 hf0 hne ⟨by omega, by omega⟩
    refine ⟨v, 1, rfl, hX.blks, fun w'' L' hf hl => ?_⟩
    have hXm := hX.more hf hl
    obtain ⟨M, S2, T2, q0, q1, q2, q3, q4, q5⟩ := hXm.open_
    refine (rpin_calls q2 hll id e).mono ?_
    rintro e2 w2 (⟨-, rfl, hf2⟩ | ⟨c1, c2, -⟩ | ⟨c1, c2, -⟩)
    · exact ⟨rfl, _, _, _, _, hXm.fr0 hf2, hR, by omega⟩
    · exact absurd ⟨c1, c2⟩ hr
    · exact absurd ⟨c1, c2⟩ hr
theorem XB.drop (h : XB ad w0 w g u ps ds nx ls nx L) (hR : RelP ps ds ls) (hn : ds.length ≤ n) (h1000 : n ≤ 1000) (id : Int) :
    Calls Tryd.prog 11 #[.pointer (some ⟨g, 0, none⟩), .int .i64 id] w fun e' w1 => ∃ r v k, e' = .returned (.tuple #[encE r, v]) ∧ Then ad w0 w1 g u (n + 1) L 22 #[.pointer (some ⟨u, 0, none⟩), .int .i64 id] (.tuple #[encE r, .int .i64 (k : Nat)]) v k := by
  obtain ⟨S, T, h1, h2, h3, h4, h5⟩ := h
  have hll := hR.len_le hn (by omega)
  have how := hR.own h4 id
  cases ho : ownOf ps id with
  | some e =>
    refine (drop_ok h1 h4 (by omega) ho).mono ?_
    rintro e' w' ⟨rfl, S', hb, hst⟩
    have hX := XB.stepG h2 h3 h5 hb hst (h4.drop' ho).1
    refine ⟨e, .nilIface, 0, rfl, hX.nil.blks, fun w'' L' hf hl => ?_⟩
    obtain ⟨M, S2, T2, q0, q1, q2, q3, q4, q5⟩ := (hX.nil.more hf hl).open_
    refine (rdrop_calls q2 hll id).mono ?_
    rintro e2 w2 (⟨c, -⟩ | ⟨x, c, rfl, T3, hr', hst2⟩)
    · rw [how, ho] at c; cases c
    · rw [how, ho] at c
      obtain rfl := Option.some.inj c
      refine ⟨rfl, _, _, _, _, ⟨M, q0, XB.stepR q1 q3 q5 q4 hr' hst2⟩, hR.drop id, Nat.le_trans (List.length_filter_le ..) (by omega)⟩
  | none =>
    refine (Go.Proofs.YtpipgkglacmoeaaDoor.drop_err h3.sents (mem_all18 (by omega) (by omega)) h1 ho).mono ?_
    rintro e' w' ⟨v, rfl, hne, hf0⟩
    have hX := XB.err h1 h2 h3 h4 h5 hf0 hne ⟨by omega, by omega⟩
    refine ⟨(0, 0), v, 7, rfl, hX.blks, fun w'' L' hf hl => ?_⟩
    have hXm := hX.more hf hl
    obtain ⟨M, S2, T2, q0, q1, q2, q3, q4, q5⟩ := hXm.open_
    refine (rdrop_calls q2 hll id).mono ?_
    rintro e2 w2 (⟨-, rfl, hf2⟩ | ⟨x, c, -⟩)
    · exact ⟨rfl, _, _, _, _, hXm.fr0 hf2, hR, by omega⟩
    · rw [how, ho] at c; cases c
theorem XB.turn (h : XB ad w0 w g u ps ds nx ls nx L) (hR : RelP ps ds ls) (hn : ds.length ≤ n) (h1000 : n ≤ 1000) (next : Int) :
    Calls Tryd.prog 12 #[.pointer (some ⟨g, 0, none⟩), .int .i64 next] w fun e' w1 => ∃ r v k, e' = .returned (.tuple #[.int .i64 r, v]) ∧ Then ad w0 w1 g u (n + 1) L 23 #[.pointer (some ⟨u, 0, none⟩), .int .i64 next] (.tuple #[.int .i64 r, .int .i64 (k : Nat)]) v k := by
  obtain ⟨S, T, h1, h2, h3, h4, h5⟩ := h
  have hll := hR.len_le hn (by omega)
  by_cases hr : next < 1 ∨ 1073741825 < next ∨ turnB ds next = true
  · refine (Go.Proofs.YtpipgkglacmoeaaDoor.turn_err h3.sents (mem_all18 (by omega) (by omega)) h1 (by omega) hr).mono ?_
    rintro e' w' ⟨v, rfl, hne, hf0⟩
    have hX := XB.err h1 h2 h3 h4 h5 hf0 hne ⟨by omega, by omega⟩
    refine ⟨0, v, 1, rfl, hX.blks, fun w'' L' hf hl => ?_⟩
    have hXm := hX.more hf hl
    obtain ⟨M, S2, T2, q0, q1, q2, q3, q4, q5⟩ := hXm.open_
    refine (rturn_calls q2 hll next).mono ?_
    rintro e2 w2 (⟨-, rfl, hf2⟩ | ⟨⟨c1, c2, c3⟩, -⟩)
    · exact ⟨rfl, _, _, _, _, hXm.fr0 hf2, hR, by omega⟩
    · rw [hR.ids] at c3
      rcases hr with hr | hr | hr
      · omega
      · omega
      · rw [hr] at c3; cases c3
  · have hl : turnB ds next = false := by
      cases h : turnB ds next with
      | false => rfl
      | true => exact absurd (.inr (.inr h)) hr
    have b1 : 1 ≤ next := by omega
    have b2 : next ≤ 1073741825 := by omega
    refine (turn_ok h1 (by omega) b1 b2 hl).mono ?_
    rintro e' w' ⟨rfl, hb, hf0⟩
    have hX := XB.stepG h2 h3 h5 hb ⟨hf0, fun b hb => .inl hb⟩ ⟨h4.ids, h4.ents, h4.sorted, h4.same, h4.len, fun d hd => ⟨(h4.pos d hd).1, turn_pos h4.sorted hl d hd⟩, b1, b2⟩
    refine ⟨nx, .nilIface, 0, rfl, hX.nil.blks, fun w'' L' hf hl' => ?_⟩
    obtain ⟨M, S2, T2, q0, q1, q2, q3, q4, q5⟩ := (hX.nil.more hf hl').open_
    refine (rturn_calls q2 hll next).mono ?_
    rintro e2 w2 (⟨c, -⟩ | ⟨-, rfl, hr', hf2⟩)
    · rw [hR.ids] at c
      exact absurd c hr
    · exact ⟨rfl, _, _, _, _, ⟨M, q0, XB.stepR q1 q3 q5 q4 hr' ⟨hf2, fun b hb => .inl hb⟩⟩, hR, by omega⟩
theorem ZV.blks {v : Value} {k : Nat} (h : ZV ad w0 w g u n L v k) : ∀ x ∈ L, Blk w x.1 x.2.1 x.2.2 := by
  obtain ⟨ps, ds, nx, ls, h, -⟩ := h
  exact h.blks
theorem ZV.fr0 {v : Value} {k : Nat} (h : ZV ad w0 w g u n L v k) (hf : Fr [] w w') : ZV ad w0 w' g u n L v k := by
  obtain ⟨ps, ds, nx, ls, h, h2⟩ := h
  exact ⟨ps, ds, nx, ls, h.fr0 hf, h2⟩
theorem ZV.sub {v : Value} {k : Nat} (h : ZV ad w0 w g u n L v k) (hl : ∀ x ∈ L', x ∈ L) : ZV ad w0 w g u n L' v k := by
  obtain ⟨ps, ds, nx, ls, h, h2⟩ := h
  exact ⟨ps, ds, nx, ls, h.sub hl, h2⟩
theorem XB.entity (h : XB ad w0 w g u ps ds nx ls ny L) (id : Int) : Calls Tryd.prog 15 #[.pointer (some ⟨g, 0, none⟩), .int .i64 id] w fun e w' => e = .returned (.tuple #[encE ((ownOf ps id).getD (0, 0)), .bool (ownOf ps id).isSome]) ∧ Fr [] w w' := by
  obtain ⟨S, T, h1, -⟩ := h
  exact entity_calls h1 id
theorem XB.id (h : XB ad w0 w g u ps ds nx ls ny L) (e : Ent) : Calls Tryd.prog 16 #[.pointer (some ⟨g, 0, none⟩), encE e] w fun e' w' => e' = .returned (.tuple #[.int .i64 ((idOf ps e).getD 0), .bool (idOf ps e).isSome]) ∧ Fr [] w w' := by
  obtain ⟨S, T, h1, -⟩ := h
  exact id_calls h1 e
theorem XB.rentity (h : XB ad w0 w g u ps ds nx ls ny L) (hl : ls.length ≤ 1000000) (id : Int) : Calls Tryd.prog 24 #[.pointer (some ⟨u, 0, none⟩), .int .i64 id] w fun e w' => e = .returned (.tuple #[encE ((ownOf ls id).getD (0, 0)), .bool (ownOf ls id).isSome]) ∧ Fr [] w w' := by
  obtain ⟨S, T, -, h1, -⟩ := h
  exact rentity_calls h1 hl id
theorem XB.rid (h : XB ad w0 w g u ps ds nx ls ny L) (hl : ls.length ≤ 1000000) (e : Ent) : Calls Tryd.prog 25 #[.pointer (some ⟨u, 0, none⟩), encE e] w fun e' w' => e' = .returned (.tuple #[.int .i64 ((idOf ls e).getD 0), .bool (idOf ls e).isSome]) ∧ Fr [] w w' := by
  obtain ⟨S, T, -, h1, -⟩ := h
  exact rid_calls h1 hl e
theorem XB.list (h : XB ad w0 w g u ps ds nx ls ny L) (hn : ds.length ≤ 1000000) : Calls Tryd.prog 13 #[.pointer (some ⟨g, 0, none⟩)] w fun e w' => ∃ v', e = .returned v' ∧ w'.ownsRow w.heap.size 3 1 v' ds.length (ints ds) ∧ Fr [] w w' := by
  obtain ⟨S, T, h1, -⟩ := h
  exact list_calls h1 hn
theorem XB.rlist (h : XB ad w0 w g u ps ds nx ls ny L) (hl : ls.length ≤ 1000000) : Calls Tryd.prog 28 #[.pointer (some ⟨u, 0, none⟩)] w fun e w' => ∃ v', e = .returned v' ∧ w'.ownsRow w.heap.size 3 1 v' ls.length (ints (ls.map (·.1))) ∧ Fr [] w w' := by
  obtain ⟨S, T, -, h1, -⟩ := h
  exact rlist_calls h1 hl
theorem XB.ucells (h : XB ad w0 w g u ps ds nx ls ny L) : ∃ A c, w.cell? ⟨u, 0, none⟩ = some (.slice A ls.length c) ∧ w.cell? ⟨u, 1, none⟩ = some (.int .i64 ny) ∧ u < w.heap.size := by
  obtain ⟨S, T, -, h1, -⟩ := h
  obtain ⟨A, c, g0, g1, lg, -⟩ := h1.see
  exact ⟨A, c, g0, g1, lg⟩
end
end Go.Proofs.YtpipgkglacmoeaaDoor
