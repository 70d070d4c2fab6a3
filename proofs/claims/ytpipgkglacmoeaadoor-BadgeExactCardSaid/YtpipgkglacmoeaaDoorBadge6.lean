/- Badges by contracts: Drop. -/
import Derived.Test.YtpipgkglacmoeaaDoorBadge5
namespace Go.Proofs.YtpipgkglacmoeaaDoor
open Go.RowKit

theorem erase_filter {α β : Type} [DecidableEq β] (f : α → β) : ∀ {l : List α} {j : Nat} {x : α}, (l.map f).Nodup → l[j]? = some x → l.eraseIdx j = l.filter fun y => f y ≠ f x
  | [], j, x, _, h => by simp at h
  | y :: r, 0, x, hd, h => by
    simp only [List.getElem?_cons_zero, Option.some.injEq] at h
    subst h
    rw [List.map_cons, List.nodup_cons] at hd
    rw [List.eraseIdx_cons_zero, List.filter_cons_of_neg (by simp)]
    refine (List.filter_eq_self.mpr fun z hz => ?_).symm
    have : f z ≠ f y := fun e => hd.1 (List.mem_map.mpr ⟨z, hz, e⟩)
    simpa using this
  | y :: r, j + 1, x, hd, h => by
    simp only [List.getElem?_cons_succ] at h
    rw [List.map_cons, List.nodup_cons] at hd
    have hne : f y ≠ f x := fun e => hd.1 (List.mem_map.mpr ⟨x, List.mem_of_getElem? h, e.symm⟩)
    rw [List.eraseIdx_cons_succ, List.filter_cons_of_pos (by simpa using hne), erase_filter f hd.2 h]
def dropP (ps : List (Int × Ent)) (id : Int) : List (Int × Ent) := ps.filter fun p => p.1 ≠ id
def dropD (ds : List Int) (id : Int) : List Int := ds.filter fun d => d ≠ id
theorem Good.drop' {ps : List (Int × Ent)} {ds : List Int} {nx id : Int} {e : Ent} (h : Good ps ds nx) (ho : ownOf ps id = some e) : Good (dropP ps id) (dropD ds id) nx ∧ ∃ j i, ps[j]? = some (id, e) ∧ ps.eraseIdx j = dropP ps id ∧ ds[i]? = some id ∧ i = ds.countP (· < id) ∧ i < ds.length ∧ ds.eraseIdx i = dropD ds id := by
  obtain ⟨j, hj⟩ := List.getElem?_of_mem (own_some ho)
  have hm : id ∈ ds := (h.same id).mpr (List.mem_map.mpr ⟨_, own_some ho, rfl⟩)
  obtain ⟨hi, hlt⟩ := count_at id h.sorted hm
  have e1 := erase_filter (fun p : Int × Ent => p.1) h.ids hj
  have e2 := erase_filter (fun d : Int => d) (l := ds) (by simpa using nodup_of_sorted h.sorted) hi
  have hg := h.drop hj hi
  rw [e1, e2] at hg
  exact ⟨hg, j, _, hj, e1, hi, rfl, hlt, e2⟩
theorem wpList_delete_run {P : Program} (w : World) {ops : Array Oper} {rest : List Oper} {o : Oper} {a : Act} {Q : Exit → Act → World → Prop} (hgd : o.guard = none) (d s : Operand) (t t' : TypeId)
    (ho : o.op = .call { callee := .builtin .delete, args := #[d, s], argTypes := #[t, t'] }) (v u : Value) (hd : a.eval d = v) (hs : a.eval s = u) {v' : Value} {w' : World}
    (hr : (Builtin.delete_ #[t, t'] o.type #[v, u]).run P w = .ok v' w') (h : wpList P ops Q rest (a.put o.dst v') w') : wpList P ops Q (o :: rest) a w :=
  wpList_plain hgd fun _ hK => by
    unfold Oper.wp execOp
    simp only [ho, resolve, invoke, builtin, Sem.run_bind, Sem.run_pure, Result.andThen_ok, List.map_toArray, List.map_cons, List.map_nil, hd, hs, hr]
    exact hK _ _ h
theorem step_delete_run {P : Program} {ops : Array Oper} {o : Oper} {a : Act} {w : World} {K : Act → World → Prop} {Q : Exit → Act → World → Prop} {E : Prop}
    (hg : o.guard = none) (d x : Operand) (dT sT : TypeId) (hop : o.op = Op.call { callee := Callee.builtin Builtin.delete, args := #[d, x], argTypes := #[dT, sT] })
    (v u : Value) (hd : a.eval d = v) (hx : a.eval x = u) {v' : Value} {w' : World} (hr : (Builtin.delete_ #[dT, sT] o.type #[v, u]).run P w = .ok v' w') (hK : K (a.put o.dst v') w') :
    if Region.wanted o (yielded ops a.tmps) = true then Oper.wp P o a w K Q else E := by
  have hw : Region.wanted o (yielded ops a.tmps) = true := by simp [Region.wanted, hg]
  rw [if_pos hw]
  unfold Oper.wp
  simp [execOp, hop, resolve, invoke, builtin, hd, hx, hr, Result.andThen]
  exact hK
set_option maxRecDepth 100000 in
set_option maxHeartbeats 4000000 in
theorem drop_err {K : List Nat} {B0 : Nat} {ad : Nat → Addr} {B : Nat} {w : World} (hs : Sents K B0 w ad) (h7 : 7 ∈ K) {g : Nat} {ps : List (Int × Ent)} {ds : List Int} {nx : Int} {S : List Nat} (h : BR B w g ps ds nx S) {id : Int} (ho : ownOf ps id = none) :
    Calls Tryd.prog 11 #[.pointer (some ⟨g, 0, none⟩), .int .i64 id] w fun e' w' => ∃ v, e' = .returned (.tuple #[encE (0, 0), v]) ∧ NewErr w w' ad v 7 ∧ Fr [] w w' := by
  have HE := hide (fun W (hf : Fr [] w W) => entity_calls (h.fr0 hf) id)
  rw [ho] at HE
  have H := hide (And.intro h hs)
  obtain ⟨-, lg, -⟩ := h.nxt
  have HW := hide (fun W k => wrong_calls (w := W) (ad := ad) k)
  clear h hs ho
  simp only [encE, Option.getD_none, Option.isSome_none] at HE ⊢
  go_enter Tryd.func11, Tryd.ntmps11
  go_wp2_with fail
  refine (HE.out _ ((Fr.refl [] w).alloc (.cells #[.int .i64 0, .int .i64 0] 27))).mono ?_
  rintro e w1 ⟨rfl, hf⟩
  have hbox := (Blk.new w 27 #[.int .i64 0, .int .i64 0]).fr0 hf
  have hf1 := ((Fr.refl [] w).alloc (.cells #[.int .i64 0, .int .i64 0] 27)).trans hf
  have hs1 := H.out.2.fr0 hf1
  have e7 := hs1.cell 7 h7
  have l7 := Nat.lt_of_lt_of_le (hs1.glob 7 h7) hs1.le
  change w1.cell? ⟨4, 0, none⟩ = some (sv (ad 7)) at e7
  change 4 < w1.heap.size at l7
  have q7 : (w1.alloc (.cells #[.int .i64 0, .int .i64 0] 27)).cell? ⟨4, 0, none⟩ = some (sv (ad 7)) := (((Fr.refl [] w1).alloc (.cells #[.int .i64 0, .int .i64 0] 27)).cell (p := ⟨4, 0, none⟩) l7 (by simp)).trans e7
  have H1 := hide (And.intro hf1 hbox)
  clear hf hbox hf1 hs1 HE
  go_wp2_with fail
  refine (HW.out _ 7).mono ?_
  rintro e w2 ⟨v, rfl, hn, hf⟩
  obtain ⟨t, a, rfl⟩ := hn.form
  have hf2 := (H1.out.1.alloc (.cells #[.int .i64 0, .int .i64 0] 27)).trans hf
  have hb2 := (H1.out.2.alloc (.cells #[.int .i64 0, .int .i64 0] 27)).fr0 hf
  have b0 := hb2.at_ 0 (v := .int .i64 0) rfl
  have b1 := hb2.at_ 1 (v := .int .i64 0) rfl
  have lb := hb2.lt
  have fb := hb2.frozen
  have q0 := (hb2.set_ 0 (.int .i64 0)).at_ 0 (v := .int .i64 0) rfl
  have q1 := ((hb2.set_ 0 (.int .i64 0)).set_ 1 (.int .i64 0)).at_ 1 (v := .int .i64 0) rfl
  have hlt : w.heap.size < (w1.alloc (.cells #[.int .i64 0, .int .i64 0] 27)).heap.size := (H1.out.2.alloc (.cells #[.int .i64 0, .int .i64 0] 27)).lt
  have Hn := hide (And.intro (((hn.set (p := ⟨w.heap.size, 0, none⟩) hlt (.int .i64 0)).set (p := ⟨w.heap.size, 1, none⟩) hlt (.int .i64 0)).elder (H1.out.1.alloc (.cells #[.int .i64 0, .int .i64 0] 27)).size) hf2)
  clear hn hf hf2 hb2 e7 q7 l7 hlt
  go_wp2_with fail
  refine bodyPost_ret (v := .tuple #[.agg #[.int .i64 0, .int .i64 0], _]) (by simp [results, Tryd.results11, go_sem, q0, q1]) rfl ⟨_, rfl, Hn.out.1, (Hn.out.2.setCell (.inr (Nat.le_refl _)) _).setCell (.inr (Nat.le_refl _)) _⟩
set_option maxRecDepth 100000 in
set_option maxHeartbeats 4000000 in
theorem drop_ok {B : Nat} {w : World} {g : Nat} {ps : List (Int × Ent)} {ds : List Int} {nx : Int} {S : List Nat} (h : BR B w g ps ds nx S) (hG : Good ps ds nx) (hn : ds.length ≤ 100000) {id : Int} {e : Ent} (ho : ownOf ps id = some e) :
    Calls Tryd.prog 11 #[.pointer (some ⟨g, 0, none⟩), .int .i64 id] w fun e' w' => e' = .returned (.tuple #[encE e, .nilIface]) ∧ ∃ S', BR B w' g (dropP ps id) (dropD ds id) nx S' ∧ Stp S S' w w' := by
  obtain ⟨e1, e2⟩ := e
  have HE := hide (fun W (hf : Fr [] w W) => entity_calls (h.fr0 hf) id)
  rw [ho] at HE
  obtain ⟨-, j, i, hj, hje, hi, hic, hil, hie⟩ := hG.drop' ho
  obtain ⟨mo, mi, vs, h1, h2, h3, h4, h5, h6, h7, h8, rfl⟩ := h
  have n1 : vs.ownBlock ≠ some g := row_blk_ne h4 h1 (by decide)
  have n2 : vs.ownBlock ≠ some mo := row_map_ne h4 h2
  have n3 : vs.ownBlock ≠ some mi := row_map_ne h4 h3
  have n4 : g ≠ mo := blk_map_ne h1 h2
  have n5 : g ≠ mi := blk_map_ne h1 h3
  have lg := h1.lt
  have HS := hide (fun W (hf : Fr [] w W) => search_calls (row_fr h4 hf (by simp)) (by omega) (sorted_le hG.sorted) id)
  rw [← hic] at HS
  have HD := hide (fun W (hf : Fr [] w W) => delete_calls (row_fr h4 hf (by simp)) (by omega) hil)
  rw [hie, show ((i + 1 : Nat) : Int) = (i : Int) + 1 from by omega] at HD
  have hk1 : ∃ v, findK id (owners ps) 0 = some (j, v) := by
    obtain ⟨j', e1, e2⟩ := findK_val (l := owners ps) (k := id) (v := encE (e1, e2)) (by simpa [owners, Function.comp_def] using hG.ids) (by
      have := List.mem_of_getElem? hj
      exact List.mem_map.mpr ⟨_, this, rfl⟩)
    have : (ps.map (·.1))[j']? = (ps.map (·.1))[j]? := by
      have q1 : (owners ps)[j']?.map (·.1) = some id := by rw [e2]; rfl
      rw [owners, List.getElem?_map] at q1
      rw [List.getElem?_map, List.getElem?_map, hj]
      cases hc : ps[j']? with
      | none => rw [hc] at q1; cases q1
      | some p => rw [hc] at q1; simpa using q1
    have hl : j < (ps.map (·.1)).length := by rw [List.length_map]; exact (List.getElem?_eq_some_iff.1 hj).1
    obtain rfl : j = j' := (List.getElem?_inj hl hG.ids).1 this.symm
    exact ⟨_, e1⟩
  have hk2 : ∃ v, findK (e1, e2) (idsOf ps) 0 = some (j, v) := by
    obtain ⟨j', q0, q2⟩ := findK_val (l := idsOf ps) (k := (e1, e2)) (v := encId id) (by simpa [idsOf, Function.comp_def] using hG.ents) (by
      have := List.mem_of_getElem? hj
      exact List.mem_map.mpr ⟨_, this, rfl⟩)
    have : (ps.map (·.2))[j']? = (ps.map (·.2))[j]? := by
      have q1 : (idsOf ps)[j']?.map (·.1) = some (e1, e2) := by rw [q2]; rfl
      rw [idsOf, List.getElem?_map] at q1
      rw [List.getElem?_map, List.getElem?_map, hj]
      cases hc : ps[j']? with
      | none => rw [hc] at q1; cases q1
      | some p => rw [hc] at q1; simpa using q1
    have hl : j < (ps.map (·.2)).length := by rw [List.length_map]; exact (List.getElem?_eq_some_iff.1 hj).1
    obtain rfl : j = j' := (List.getElem?_inj hl hG.ents).1 this.symm
    exact ⟨_, q0⟩
  have H := hide (And.intro h1 (And.intro h2 (And.intro h3 (And.intro h4 (And.intro h5 (And.intro h6 (And.intro h7 h8)))))))
  have HN := hide (And.intro n1 (And.intro n2 (And.intro n3 (And.intro n4 n5))))
  have HK := hide (And.intro hk1 (And.intro hk2 hje))
  have Hil := hide hil
  have Hie := hide hie
  clear h1 h2 h3 h4 h5 n1 n2 n3 n4 n5 hk1 hk2 hje hj hi hie hic hil ho hG
  have m0 : (0 : Int) ≤ (i : Int) := by omega
  have m1 : (i : Int) ≤ 100000 := by have := Hil.out; omega
  simp only [encE, Option.getD_some, Option.isSome_some] at HE ⊢
  go_enter Tryd.func11, Tryd.ntmps11
  go_wp2_with fail
  refine (HE.out _ ((Fr.refl [] w).alloc (.cells #[.int .i64 0, .int .i64 0] 27))).mono ?_
  rintro e w1 ⟨rfl, hf⟩
  have hres := (Blk.new w 27 #[.int .i64 0, .int .i64 0]).fr0 hf
  have hf1 := (((Fr.refl [] w).alloc (.cells #[.int .i64 0, .int .i64 0] 27)).trans hf).alloc (.cells #[.int .i64 e1, .int .i64 e2] 27)
  have hres1 := hres.alloc (.cells #[.int .i64 e1, .int .i64 e2] 27)
  have hbox1 := Blk.new w1 27 #[.int .i64 e1, .int .i64 e2]
  have g2 := (H.out.1.fr0 hf1).at_ 2 (v := vs) rfl
  have lg1 := (H.out.1.fr0 hf1).lt
  have hw1 := (((Fr.refl [] w).alloc (.cells #[.int .i64 0, .int .i64 0] 27)).trans hf).size
  have g2' := (H.out.1.fr0 (((Fr.refl [] w).alloc (.cells #[.int .i64 0, .int .i64 0] 27)).trans hf)).at_ 2 (v := vs) rfl
  have lg1' := (H.out.1.fr0 (((Fr.refl [] w).alloc (.cells #[.int .i64 0, .int .i64 0] 27)).trans hf)).lt
  have nbx : w.heap.size < w1.heap.size := hres.lt
  have H1 := hide (And.intro hf1 (And.intro hres1 hbox1))
  clear hf hres hf1 hres1 hbox1 HE
  go_wp2_with fail
  refine (HS.out _ H1.out.1).mono ?_
  rintro e w2 ⟨rfl, hf⟩
  have hf2 := H1.out.1.trans hf
  have c2 := (H.out.1.fr0 hf2).at_ 2 (v := vs) rfl
  have lg2 := (H.out.1.fr0 hf2).lt
  have H2 := hide (And.intro hf2 (And.intro (H1.out.2.1.fr0 hf) (H1.out.2.2.fr0 hf)))
  clear hf hf2 H1 HS g2 g2' lg1 lg1'
  go_wp2_with fail
  refine (HD.out _ H2.out.1).mono ?_
  rintro e w3 ⟨v', rfl, hr3, hf3, hat⟩
  obtain ⟨A, c, rfl⟩ : ∃ A c, v' = .slice A (ds.length - 1) c := by
    rcases row_form hr3 with ⟨rfl, h0, _⟩ | ⟨gv, cap, rfl, _⟩
    · exact ⟨none, 0, by rw [h0]⟩
    · exact ⟨_, _, rfl⟩
  have hw2 := H2.out.1.size
  have hvw : ∀ b, vs.ownBlock = some b → b < w.heap.size := fun b hb => (row_lt H.out.2.2.2.1 hb).1
  have hfa : Fr vs.ownBlock.toList w w3 := (H2.out.1.any _).trans hf3
  have hg3 := H.out.1.fr hfa (by simpa using HN.out.1)
  have hres3 := H2.out.2.1.fr hf3 (by intro hm; have := hvw _ (by simpa using hm); omega)
  have hbox3 := H2.out.2.2.fr hf3 (by intro hm; have := hvw _ (by simpa using hm); omega)
  have hf4 : Fr (g :: vs.ownBlock.toList) w (w3.setCell ⟨g, 2, none⟩ (.slice A (ds.length - 1) c)) := (hfa.mono (T := g :: vs.ownBlock.toList) (fun x hx => List.mem_cons_of_mem _ hx)).setCell (.inl (by simp)) _
  have hg4 := hg3.set_ 2 (.slice A (ds.length - 1) c)
  have hr4 := row_far hr3 (p := ⟨g, 2, none⟩) (by rw [hat]; exact HN.out.1) (.slice A (ds.length - 1) c)
  have hres4 := hres3.far (p := ⟨g, 2, none⟩) (by simp; omega) (.slice A (ds.length - 1) c)
  have hbox4 := hbox3.far (p := ⟨g, 2, none⟩) (by simp; omega) (.slice A (ds.length - 1) c)
  have hmo4 := H.out.2.1.fr hf4 (by simp; exact ⟨Ne.symm HN.out.2.2.2.1, fun h => HN.out.2.1 h⟩)
  have hmi4 := H.out.2.2.1.fr hf4 (by simp; exact ⟨Ne.symm HN.out.2.2.2.2, fun h => HN.out.2.2.1 h⟩)
  have ne1 := row_map_ne hr4 hmo4
  have ne2 := row_map_ne hr4 hmi4
  have nb1 : w.heap.size ≠ mo := by have := H.out.2.1.lt; omega
  have nb2 : w.heap.size ≠ mi := by have := H.out.2.2.1.lt; omega
  have nb3 : w1.heap.size ≠ mo := by have := H.out.2.1.lt; omega
  have nb4 : w1.heap.size ≠ mi := by have := H.out.2.2.1.lt; omega
  obtain ⟨w5, r5, m5, f5⟩ := run_delete (mt := 63) (kt := 3) (et := 27) Tryd.underlying63 key_id hmo4 HK.out.1.choose_spec 3
  obtain ⟨w6, r6, m6, f6⟩ := run_delete (mt := 64) (kt := 27) (et := 3) Tryd.underlying64 key_ent ((hmi4.fr f5 (by simp; exact Ne.symm H.out.2.2.2.2.1)).fr0 ((Fr.refl [] w5).drew)) HK.out.2.1.choose_spec 27
  simp only [encE, encId] at r5 r6
  have g2 := hg3.at_ 2 (v := vs) rfl
  have lg3 := hg3.lt
  have fg3 := hg3.frozen 2
  have c40 := hg4.at_ 0 (v := .map (some mo)) rfl
  have hg5 := hg4.fr f5 (by simpa using HN.out.2.2.2.1)
  have c51 := hg5.at_ 1 (v := .map (some mi)) rfl
  have hb5 := hbox4.fr f5 (by simpa using nb3)
  have b50 := hb5.at_ 0 (v := .int .i64 e1) rfl
  have b51 := hb5.at_ 1 (v := .int .i64 e2) rfl
  have hb6 := (hb5.fr0 ((Fr.refl [] w5).drew)).fr f6 (by simpa using nb4)
  have b60 := hb6.at_ 0 (v := .int .i64 e1) rfl
  have b61 := hb6.at_ 1 (v := .int .i64 e2) rfl
  have hres6 := ((hres4.fr f5 (by simpa using nb1)).fr0 ((Fr.refl [] w5).drew)).fr f6 (by simpa using nb2)
  have s60 := hres6.at_ 0 (v := .int .i64 0) rfl
  have s61 := hres6.at_ 1 (v := .int .i64 0) rfl
  have ls6 := hres6.lt
  have lb6 := hb6.lt
  have fs6 := hres6.frozen
  have q0 := (hres6.set_ 0 (.int .i64 e1)).at_ 0 (v := .int .i64 e1) rfl
  have q1 := ((hres6.set_ 0 (.int .i64 e1)).set_ 1 (.int .i64 e2)).at_ 1 (v := .int .i64 e2) rfl
  have hg6 := (hg5.fr0 ((Fr.refl [] w5).drew)).fr f6 (by simpa using HN.out.2.2.2.2)
  have HF := hide (And.intro hf4 (And.intro hr4 (And.intro m5 (And.intro m6 (And.intro f5 (And.intro f6 (And.intro hg6 (And.intro ne1 (And.intro ne2 hat)))))))))
  clear hr3 hf3 hat hfa hg3 hres3 hbox3 hf4 hg4 hr4 hres4 hbox4 hmo4 hmi4 ne1 ne2 m5 f5 m6 f6 hg5 hb5 hb6 hres6 hg6 c2 lg2 hvw H2 HD
  go_wp2_with (at_builtin; refine wpList_delete_run _ rfl _ _ 63 3 rfl _ _ rfl rfl (r5 _) ?_)
  go_region_law (refine step_delete_run (by rfl) _ _ 64 27 (by rfl) _ _ (by rfl) (by rfl) (r6 _) ?_)
  all_goals
    go_wp2
    obtain ⟨hf4, hr4, m5, m6, f5, f6, hg6, ne1, ne2, hat⟩ := HF.out
    have hvw : ∀ b, vs.ownBlock = some b → b < w.heap.size := fun b hb => (row_lt H.out.2.2.2.1 hb).1
    have hr6 := row_fr (row_fr (row_fr hr4 f5 (fun k hk hm => ne1 (by rw [hk]; simpa using hm))) ((Fr.refl [] w5).drew) (by simp)) f6 (fun k hk hm => ne2 (by rw [hk]; simpa using hm))
    have hlen : (dropD ds id).length = ds.length - 1 := by rw [← Hie.out, List.length_eraseIdx_of_lt Hil.out]
    have hbr : BR B w6 g (dropP ps id) (dropD ds id) nx (g :: mo :: mi :: (Value.slice A (ds.length - 1) c).ownBlock.toList) := by
      refine ⟨mo, mi, .slice A (ds.length - 1) c, by simpa using hg6, ?_, ?_, by rw [hlen]; exact hr6, H.out.2.2.2.2.1, h6, h7, h8, rfl⟩
      · rw [← HK.out.2.2, owners, erase_map]
        exact (m5.fr0 ((Fr.refl [] w5).drew)).fr f6 (by simpa using H.out.2.2.2.2.1)
      · rw [← HK.out.2.2, idsOf, erase_map]; exact m6
    have hff : Fr (g :: mo :: mi :: vs.ownBlock.toList) w w6 := (((hf4.mono (T := g :: mo :: mi :: vs.ownBlock.toList) (by
        intro x hx
        rcases List.mem_cons.mp hx with rfl | hx
        · simp
        · simp only [List.mem_cons]; exact .inr (.inr (.inr hx)))).step f5 (by simp)).drew).step f6 (by simp)
    refine bodyPost_ret (v := .tuple #[.agg #[.int .i64 e1, .int .i64 e2], .nilIface]) (by simp [results, Tryd.results11, go_sem, q0, q1]) rfl ⟨rfl, g :: mo :: mi :: (Value.slice A (ds.length - 1) c).ownBlock.toList, ?_, ?_, ?_⟩
    · refine hbr.fr (T := [w.heap.size]) (((Fr.refl _ w6).setCell (.inl (by simp)) _).setCell (.inl (by simp)) _) (fun b hb hm => ?_)
      rw [List.mem_singleton] at hm
      subst hm
      rw [hat] at hb
      simp only [List.mem_cons, Option.mem_toList] at hb
      have := H.out.2.1.lt
      have := H.out.2.2.1.lt
      rcases hb with h | h | h | h
      · omega
      · exact nb1 h
      · exact nb2 h
      · exact absurd (hvw _ h) (by omega)
    · exact (hff.setCell (.inr (Nat.le_refl _)) _).setCell (.inr (Nat.le_refl _)) _
    · intro b hb
      rw [hat] at hb
      exact .inl hb
end Go.Proofs.YtpipgkglacmoeaaDoor
