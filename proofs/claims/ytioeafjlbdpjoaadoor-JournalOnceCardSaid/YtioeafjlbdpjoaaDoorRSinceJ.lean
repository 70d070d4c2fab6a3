/- The journal of the reference: Since, Back, Forget. -/
import Derived.Test.YtioeafjlbdpjoaaDoorRKeepJ
namespace Go.Proofs.YtioeafjlbdpjoaaDoor
open Go.RowKit
theorem infoUndoR : (Tryd.prog.info? 37).map (fun i => (i.zero, i.size, i.bytes)) = some (some (.agg #[.int .i64 0, .int .i64 0, .int .i64 0, .int .i64 0, .int .i64 0, .int .i64 0, .int .i64 0, .int .i64 0, .slice none 0 0, .int .i64 0, .int .i64 0]), 11, 104) := by kernel_rfl
/-- the entries from a mark on, the last one first -/
def rsinceU (L : List (Int × Un)) (f : Int) : List Un := ((L.filter fun e => decide (f ≤ e.1)).map (·.2)).reverse
def rsinceD (es : List En) (f : Int) : List Ud := ((es.filter fun e => decide (f ≤ e.m)).map (·.d)).reverse
/-- what Since of the reference gives -/
def ROut (B : Nat) (w w' : World) (v : Value) (us : List Un) : Prop := ∃ ds : List Ud, w'.ownsRow w.heap.size 37 11 v us.length (ds.flatMap Ud.cells) ∧ ds.map (·.u) = us ∧ ∀ d ∈ ds, PsOk (· < B) w' d
theorem ROut.keep {B : Nat} {w w1 w' : World} {v : Value} {us : List Un} {T : List Nat} (h : ROut B w w1 v us) (hf : Fr T w1 w') (hT : ∀ b ∈ T, B ≤ b ∧ b < w.heap.size) : ROut B w w' v us := by
  obtain ⟨ds, h1, h2, h3⟩ := h
  exact ⟨ds, row_fr h1 hf (fun k hk hm => by have := (row_lt h1 hk).2; have := hT k hm; omega), h2, fun d hd => (h3 d hd).keep hf (fun b hb hm => by have := hT b hm; omega)⟩
theorem ROut.lr {B : Nat} {w w1 : World} {v : Value} {us : List Un} (h : ROut B w w1 v us) : ∃ A c ds, v = .slice A us.length c ∧ ds.map (·.u) = us ∧ LR w1 A ds := by
  obtain ⟨ds, h1, h2, h3⟩ := h
  obtain ⟨A, c, rfl, hr⟩ := row_reads h1
  have hl : ds.length = us.length := by rw [← h2, List.length_map]
  exact ⟨A, c, ds, rfl, h2, by rw [hl]; exact hr, fun d hd => ⟨_, h3 d hd⟩⟩
def RSincePost (B : Nat) (w : World) (ms : List Int) (L : List (Int × Un)) (f : Int) (e : Ending) (w' : World) : Prop :=
  (f ∉ ms ∧ e = .returned (.tuple #[.slice none 0 0, .int .i64 16]) ∧ Fr [] w w') ∨
  (f ∈ ms ∧ ∃ v, e = .returned (.tuple #[v, .int .i64 0]) ∧ ROut B w w' v (rsinceU L f) ∧ Fr [] w w')
theorem rsinceD_step (es : List En) (f : Int) {i : Nat} {en : En} (he : es[i]? = some en) : rsinceD (es.drop i) f = rsinceD (es.drop (i + 1)) f ++ (if f ≤ en.m then [en.d] else []) := by
  have h1 : es.drop i = en :: es.drop (i + 1) := by
    obtain ⟨hi, h⟩ := List.getElem?_eq_some_iff.1 he
    rw [← h]
    exact List.drop_eq_getElem_cons hi
  unfold rsinceD
  rw [h1, List.filter_cons]
  by_cases h : f ≤ en.m
  · rw [if_pos (by simpa using h), if_pos h]; simp
  · rw [if_neg (by simpa using h), if_neg h]; simp
set_option maxRecDepth 100000 in
set_option maxHeartbeats 8000000 in
theorem rsince_calls {B : Nat} {w : World} {u : Nat} {most : Int} {ms : List Int} {L : List (Int × Un)} {T : List Nat} (h : RJ B w u most ms L T) (hn : ms.length ≤ 1000000) (hLl : L.length ≤ 1000000) (f : Int) :
    Calls Tryd.prog 23 #[ptr u, .int .i64 f] w (RSincePost B w ms L f) := by
  obtain ⟨mv, lv, es, q1, q2, q3, q4, q5, q6, q7⟩ := h
  obtain ⟨i1, hi1, hz1, hs1, hb1⟩ := info_parts infoUndoR
  obtain ⟨Am, cm, rfl⟩ := rj_sl q2
  obtain ⟨Al, cl, rfl⟩ := rj_sl q3
  have lu := q1.lt
  have HH := hide (And.intro q1 (And.intro q2 (And.intro q3 (And.intro q4 q5))))
  have hel : es.length = L.length := by rw [← q4, List.length_map]
  clear q1 q2 q3 q4 q5 q6 q7
  go_enter Tryd.func23, Tryd.ntmps23
  go_wp2_with fail
  go_loopw [6, 7] (fun s6 s7 wr => ∃ i : Nat, i ≤ ms.length ∧ s7 = .int .i64 i ∧ s6 = .bool (decide (f ∈ ms.take i)) ∧ w = wr) (fun _ s7 _ => ms.length - (intOf s7).toNat)
  case atStart => exact ⟨0, by omega, rfl, by simp, rfl⟩
  case round =>
    obtain ⟨i, hi, rfl, rfl, rfl⟩ := hrel
    have j0 : (0 : Int) ≤ (i : Int) := by omega
    have g1 := (HH.out.1).at_ 1 (v := .slice Am ms.length cm) rfl
    by_cases hin : i < ms.length
    · have j1 : (i : Int) < (ms.length : Int) := by omega
      obtain ⟨x, hx⟩ : ∃ x, ms[i]? = some x := ⟨_, List.getElem?_eq_getElem hin⟩
      obtain ⟨gm, rfl⟩ : ∃ gm, Am = some ⟨gm, 0, none⟩ := by
        rcases row_form HH.out.2.1 with ⟨_, h0, _⟩ | ⟨g, cap, e, _⟩
        · omega
        · injection e with e; exact ⟨g, e⟩
      have hcx := row_cell HH.out.2.1 (i := i) (u := .int .i64 x) (by unfold ints; rw [List.getElem?_map, hx]; rfl)
      have hst : decide (f ∈ ms.take (i + 1)) = (decide (f ∈ ms.take i) || decide (x = f)) := by
        rw [List.take_add_one, hx]
        simp [eq_comm]
      have Hst := hide hst
      clear hx hst
      cases hb : decide (f ∈ ms.take i) with
      | true =>
        rw [hb] at Hst
        clear hb
        go_wp2_with fail
        go_roundw
        case rel => exact ⟨i + 1, by omega, by go_num, by rw [Hst.out]; rfl, trivial⟩
        case measure => simp [intOf]; omega
      | false =>
        rw [hb] at Hst
        clear hb
        go_wp2_with fail
        go_roundw
        case rel => exact ⟨i + 1, by omega, by go_num, by rw [Hst.out]; exact congrArg Value.bool (by rw [Bool.eq_iff_iff]; simp), trivial⟩
        case measure => simp [intOf]; omega
    · obtain rfl : i = ms.length := by omega
      rw [List.take_of_length_le (Nat.le_refl _)]
      by_cases hm : f ∈ ms
      · rw [decide_eq_true hm]
        have Hm := hide hm
        have g2 := (HH.out.1).at_ 2 (v := .slice Al L.length cl) rfl
        clear hm
        go_wp2_with fail
        go_loopg [8, 9] (L.length) (fun gk s8 s9 wr => ∃ ds : List Ud, gk ≤ L.length ∧ s9 = .int .i64 ((gk : Int) - 1) ∧ ds = rsinceD (es.drop gk) f ∧ wr.ownsRow w.heap.size 37 11 s8 ds.length (ds.flatMap Ud.cells) ∧ Fr [] w wr)
        case atStart =>
          refine ⟨[], Nat.le_refl _, rfl, ?_, ?_, (Fr.refl _ _).alloc _⟩
          · rw [List.drop_of_length_le (by omega)]; rfl
          · exact row_mk (cur := #[]) (Blk.new w 37 #[]) (Nat.le_refl _) (Nat.le_refl _) (by simp [maxLen]) rfl rfl
        case round =>
          obtain ⟨ds, hgk, rfl, hds, hr, hf⟩ := hrel
          have g1' := ((HH.out.1).fr0 hf).at_ 2 (v := .slice Al L.length cl) rfl
          have lur := Nat.lt_of_lt_of_le lu hf.size
          have hfs := hf.size
          have hdl : ds.length ≤ 1000000 := by
            rw [hds]
            unfold rsinceD
            rw [List.length_reverse, List.length_map]
            exact Nat.le_trans (List.length_filter_le _ _) (by rw [List.length_drop]; omega)
          have Hr := hide (And.intro hds (And.intro hr hf))
          rcases Nat.eq_zero_or_pos gk with rfl | hpos
          · simp only [show (((0 : Nat) : Int) - 1) = -1 from rfl]
            rw [List.drop_zero] at Hr
            obtain ⟨A8, c8, rfl⟩ := rj_sl hr
            have hlen : ds.length = (rsinceU L f).length := by
              rw [hds]
              unfold rsinceU rsinceD
              rw [List.length_reverse, List.length_map, List.length_reverse, List.length_map, ← HH.out.2.2.2.1, List.filter_map, List.length_map]
              rfl
            have hmapu : ds.map (·.u) = rsinceU L f := by
              rw [hds]
              unfold rsinceU rsinceD
              rw [List.map_reverse, List.map_map, ← HH.out.2.2.2.1, List.filter_map, List.map_map]
              rfl
            have hLR : ROut B w wr (.slice A8 ds.length c8) (rsinceU L f) := by
              refine ⟨ds, by rw [← hlen]; exact hr, hmapu, fun d hd => ?_⟩
              rw [hds] at hd
              unfold rsinceD at hd
              rw [List.mem_reverse, List.mem_map] at hd
              obtain ⟨en, he, rfl⟩ := hd
              exact (HH.out.2.2.2.2 en (List.mem_filter.1 he).1).fr0 hf
            have HE := hide (And.intro hlen (And.intro hmapu (And.intro hLR hf)))
            clear hds hr hf hlen hmapu hLR g1'
            go_wp2_with fail
            go_ret2
            exact .inr ⟨Hm.out, _, rfl, HE.out.2.2.1, HE.out.2.2.2⟩
          · obtain ⟨k, rfl⟩ : ∃ k, gk = k + 1 := ⟨gk - 1, by omega⟩
            obtain ⟨gl, cl', en, hsl, he, lgl, hc⟩ := En.row' (row_fr HH.out.2.2.1 hf (by simp)) HH.out.2.2.2.1 (i := k) (by omega)
            injection hsl with e1 e2 e3
            subst e1
            have hstep := rsinceD_step es f he
            have Hst := hide hstep
            have c0 := hc 0 (.int .i64 en.m) rfl
            have c1 := hc 1 (.int .i64 en.d.u.kind) rfl
            have c2 := hc 2 (.int .i64 en.d.u.id) rfl
            have c3 := hc 3 (.int .i64 en.d.u.p.c) rfl
            have c4 := hc 4 (.int .i64 en.d.u.p.v0) rfl
            have c5 := hc 5 (.int .i64 en.d.u.p.v1) rfl
            have c6 := hc 6 (.int .i64 en.d.u.p.v2) rfl
            have c7 := hc 7 (.int .i64 en.d.u.p.v3) rfl
            have c8 := hc 8 (.int .i64 en.d.u.p.t) rfl
            have c9 := hc 9 (.slice en.d.A en.d.u.ps.length en.d.c) rfl
            have c10 := hc 10 (.int .i64 en.d.u.n) rfl
            have c11 := hc 11 (.int .i64 en.d.u.old) rfl
            rw [Nat.add_zero] at c0
            have ek : (((k + 1 : Nat) : Int) - 1) = (k : Int) := by omega
            have k0 : (0 : Int) ≤ (k : Int) := by omega
            have k1 : (k : Int) < (L.length : Int) := by omega
            simp only [ek]
            clear hds hr hf hstep hc he e2 e3 ek
            by_cases hge : f ≤ en.m
            · have hge' : decide (en.m ≥ f) = true := decide_eq_true hge
              rw [if_pos hge] at Hst
              have Hst2 := Hst
              clear Hst hge
              go_wp2_with ((at_builtin; refine wpList_append_lies _ rfl _ _ _ rfl w.heap.size 37 i1 _ 11 104 Tryd.underlying38 hi1 hz1 hs1 hb1 rfl (by omega) u8 ds.length (ds.flatMap Ud.cells) rfl (Hr.out.2.1.alloc _) ⟨wr.heap.size, 0, none⟩ 1 1 (Ud.cells en.d) rfl rfl (World.news_of_block (cs := #[.int .i64 en.d.u.kind, .int .i64 en.d.u.id, .int .i64 en.d.u.p.c, .int .i64 en.d.u.p.v0, .int .i64 en.d.u.p.v1, .int .i64 en.d.u.p.v2, .int .i64 en.d.u.p.v3, .int .i64 en.d.u.p.t, .slice en.d.A en.d.u.ps.length en.d.c, .int .i64 en.d.u.n, .int .i64 en.d.u.old]) (t := 37) (fr := (0, 0)) (Blk.new_at _ _ _ _ (by simp))) (by simp [Ud.cells, Value.oneCell']) (by omega) (by unfold maxLen; omega) (by omega) (by simp; omega) (wr.heap.size + 1) (by simp) ?_; intro ag0 ac0 aw0 aown0 agrow0 aat0 alt0))
              go_roundg k
              case measure => omega
              case rel =>
                have hfr := (Hr.out.2.2.alloc (.cells #[.int .i64 en.d.u.kind, .int .i64 en.d.u.id, .int .i64 en.d.u.p.c, .int .i64 en.d.u.p.v0, .int .i64 en.d.u.p.v1, .int .i64 en.d.u.p.v2, .int .i64 en.d.u.p.v3, .int .i64 en.d.u.p.t, .slice en.d.A en.d.u.ps.length en.d.c, .int .i64 en.d.u.n, .int .i64 en.d.u.old] 37)).step (T := u8.ownBlock.toList) ((Fr.refl _ _).grown agrow0 fun k hk => .inl (by simp [hk])) (fun x hx => .inr (row_lt Hr.out.2.1 (by simpa using hx)).2)
                refine ⟨ds ++ [en.d], by omega, rfl, by rw [Hst2.out, ← Hr.out.1], ?_, hfr⟩
                rw [List.length_append, List.flatMap_append]
                simpa using aown0
            · have hge' : decide (en.m ≥ f) = false := decide_eq_false hge
              rw [if_neg hge] at Hst
              have Hst2 := Hst
              clear Hst hge
              go_wp2_with fail
              go_roundg k
              case measure => omega
              case rel => exact ⟨ds, by omega, rfl, by rw [Hst2.out, ← Hr.out.1, List.append_nil], Hr.out.2.1, Hr.out.2.2⟩
      · rw [decide_eq_false hm]
        have Hm := hide hm
        clear hm
        go_wp2_with fail
        go_ret2
        exact .inl ⟨Hm.out, rfl, Fr.refl _ _⟩
/-! Back -/
theorem rj_push {B : Nat} {w X w4 : World} {u : Nat} {most : Int} {ms : List Int} {L : List (Int × Un)} {T : List Nat} {gg cap : Nat} {f : Int} {mv lv : Value} {es : List En}
    (h1 : Blk w u 61 #[.int .i64 most, mv, lv]) (h2 : w.ownsRow B 3 1 mv ms.length (ints ms)) (h3 : w.ownsRow B 95 12 lv L.length (es.flatMap En.cells)) (h4 : es.map En.say = L) (h5 : ∀ e ∈ es, PsOk (· < B) w e.d) (h6 : B ≤ u) (hT : T = u :: (mv.ownBlock.toList ++ lv.ownBlock.toList))
    (hX : Fr [] w X) (hgrow : X.grownBy w4 mv.ownBlock) (hown : w4.ownsRow B 3 1 (.slice (some ⟨gg, 0, none⟩) (ms.length + 1) cap) (ms.length + 1) (ints ms ++ [.int .i64 f])) (hat : mv.ownBlock = some gg ∨ gg = X.heap.size) :
    ∃ T', RJ B (w4.setCell ⟨u, 1, none⟩ (.slice (some ⟨gg, 0, none⟩) (ms.length + 1) cap)) u most (ms ++ [f]) L T' ∧ Stp T T' w (w4.setCell ⟨u, 1, none⟩ (.slice (some ⟨gg, 0, none⟩) (ms.length + 1) cap)) := by
  subst hT
  have hmvu : mv.ownBlock ≠ some u := row_blk_ne h2 h1 (by decide)
  have hf4 : Fr mv.ownBlock.toList w w4 := (hX.any _).grown hgrow fun k hk => .inl (by simp [hk])
  have hfin : Fr [u] w4 (w4.setCell ⟨u, 1, none⟩ (.slice (some ⟨gg, 0, none⟩) (ms.length + 1) cap)) := (Fr.refl _ _).setCell (.inl (by simp)) _
  have hall : Fr (u :: mv.ownBlock.toList) w (w4.setCell ⟨u, 1, none⟩ (.slice (some ⟨gg, 0, none⟩) (ms.length + 1) cap)) := (hf4.mono (T := u :: mv.ownBlock.toList) (fun x hx => List.mem_cons_of_mem _ hx)).trans (hfin.mono (by simp))
  have hu4 := h1.fr hf4 (by simpa using hmvu)
  have hge : ∀ b ∈ u :: mv.ownBlock.toList, B ≤ b := fun b hb => by
    simp only [List.mem_cons, Option.mem_toList] at hb
    rcases hb with rfl | hb
    · exact h6
    · exact (row_lt h2 hb).2
  refine ⟨u :: ([gg] ++ lv.ownBlock.toList), ⟨_, lv, es, by simpa using hu4.set_ 1 (.slice (some ⟨gg, 0, none⟩) (ms.length + 1) cap), ?_, row_fr h3 hall (fun k hk hm => ?_), h4, fun e he => (h5 e he).keep hall (fun b hb hm => by have := hge b hm; omega), h6, rfl⟩, hall.mono ?_, fun b hb => ?_⟩
  · rw [List.length_append]
    have := row_fr hown hfin (fun k hk hm => row_blk_ne hown hu4 (by decide) (by rw [hk]; simpa using hm))
    simpa [ints] using this
  · simp only [List.mem_cons, Option.mem_toList] at hm
    rcases hm with rfl | hm
    · exact row_blk_ne h3 h1 (by decide) hk
    · exact row_row_ne h3 h2 (by decide) k hk hm
  · intro x hx
    simp only [List.mem_cons, List.mem_append, Option.mem_toList] at hx ⊢
    exact hx.imp id .inl
  · simp only [List.mem_cons, List.mem_append, Option.mem_toList, List.not_mem_nil, or_false] at hb ⊢
    rcases hb with rfl | rfl | hb
    · exact .inl (.inl rfl)
    · rcases hat with e | e
      · exact .inl (.inr (.inl e))
      · exact .inr (by have := hX.size; omega)
    · exact .inl (.inr (.inr hb))
def RBackPost (B : Nat) (w : World) (u : Nat) (most : Int) (ms : List Int) (L : List (Int × Un)) (T : List Nat) (f : Int) (e : Ending) (w' : World) : Prop :=
  (f ∉ ms ∧ e = .returned (.tuple #[.slice none 0 0, .int .i64 16]) ∧ Fr [] w w') ∨
  (f ∈ ms ∧ ∃ v, e = .returned (.tuple #[v, .int .i64 0]) ∧ ROut B w w' v (rsinceU L f) ∧ ∃ T', RJ B w' u most (ms.filter (inB 0 (f - 1)) ++ [f]) (L.filter fun e => inB 0 (f - 1) e.1) T' ∧ Stp T T' w w')
set_option maxRecDepth 100000 in
set_option maxHeartbeats 8000000 in
theorem rback_calls {B : Nat} {w : World} {u : Nat} {most : Int} {ms : List Int} {L : List (Int × Un)} {T : List Nat} (h : RJ B w u most ms L T) (hB : B ≤ w.heap.size) (hn : ms.length ≤ 1000000) (hLl : L.length ≤ 1000000) (f : Int) (hf0 : -9223372036854775808 < f) (hf1 : f ≤ 9223372036854775807) :
    Calls Tryd.prog 24 #[ptr u, .int .i64 f] w (RBackPost B w u most ms L T f) := by
  have HS := hide (rsince_calls h hn hLl f)
  have HH := hide h
  obtain ⟨i0, hi0, hz0, hs0, hb0⟩ := info_parts infoIntR
  have ew : IntKind.i64.wrap (f - 1) = f - 1 := by rw [IntKind.wrap_i64]; omega
  have ew2 : wrap64 (f - 1) = f - 1 := by unfold wrap64; omega
  have hfl : (ms.filter (inB 0 (f - 1))).length ≤ 1000000 := Nat.le_trans (List.length_filter_le _ _) hn
  clear h
  go_enter Tryd.func24, Tryd.ntmps24
  go_wp2_with fail
  refine HS.out.mono ?_
  rintro e w1 (⟨hm, rfl, hf⟩ | ⟨hm, v, rfl, ho, hf⟩)
  · have H1 := hide (And.intro hm hf)
    clear hm hf
    go_wp2_with fail
    go_ret2
    exact .inl ⟨H1.out.1, rfl, H1.out.2⟩
  · obtain ⟨Ao, co, dso, hv, _⟩ := ho.lr
    have H1 := hide (And.intro hm (And.intro ho hf))
    have HK := hide (keep_calls (HH.out.fr0 hf) (Nat.le_trans hB hf.size) hn hLl 0 (f - 1))
    have hsz := hf.size
    subst hv
    clear hm ho hf
    go_wp2_with fail
    refine HK.out.mono ?_
    rintro e w2 ⟨rfl, T2, hJ2, hst2⟩
    have hge2 := hJ2.ge
    obtain ⟨mv, lv, es, q1, q2, q3, q4, q5, q6, q7⟩ := hJ2
    obtain ⟨Am, cm, rfl⟩ := rj_sl q2
    have c1 := q1.at_ 1 (v := .slice Am (ms.filter (inB 0 (f - 1))).length cm) rfl
    have z1 := q1.frozen 1
    have lu := q1.lt
    have hB2 : B ≤ w2.heap.size := by have := hst2.1.size; omega
    have hne : (Value.slice Am (ms.filter (inB 0 (f - 1))).length cm).ownBlock ≠ some u := row_blk_ne q2 q1 (by decide)
    have H2 := hide (And.intro q1 (And.intro q2 (And.intro q3 (And.intro q4 (And.intro q5 (And.intro q6 (And.intro q7 (And.intro hst2 hne))))))))
    clear q1 q2 q3 q4 q5 q6 q7 hst2 HK hne hge2
    generalize hfs : ms.filter (inB 0 (f - 1)) = fs at *
    have HF := hide hfs
    clear hfs
    go_wp2_with ((at_builtin; refine wpList_append_lies _ rfl _ _ _ rfl B 3 i0 _ 1 8 Tryd.underlying22 hi0 hz0 hs0 hb0 rfl (by omega) (.slice Am fs.length cm) fs.length (ints fs) rfl (H2.out.2.1.alloc _) ⟨w2.heap.size, 0, none⟩ 1 1 [.int .i64 f] rfl rfl (World.news_of_block (cs := #[.int .i64 f]) (t := 3) (fr := (0, 0)) (Blk.new_at _ _ _ _ (by simp))) (by simp [Value.oneCell']) (by omega) (by unfold maxLen; omega) (by omega) (by simp; omega) (w2.heap.size + 1) (by simp) ?_; intro g2 c2 w6 hown hgrow hat hlt6; have g6 := (H2.out.1.alloc (.cells #[.int .i64 f] 3)).grown hgrow (fun e => H2.out.2.2.2.2.2.2.2.2 e.symm); have c6 := g6.at_ 1 (v := .slice Am fs.length cm) rfl; have z6 := g6.frozen 1; have l6 := g6.lt; have HG := hide (And.intro hown (And.intro hgrow hat)); clear hown hgrow hat hlt6 g6))
    go_ret2
    obtain ⟨hown, hgrow, hat⟩ := HG.out
    obtain ⟨q1, q2, q3, q4, q5, q6, q7, hst2, hne⟩ := H2.out
    obtain ⟨T3, hJ3, hst3⟩ := rj_push q1 q2 q3 q4 q5 q6 q7 ((Fr.refl [] w2).alloc (.cells #[.int .i64 f] 3)) hgrow hown (hat.imp id (fun e => by simpa using e))
    have hTT : ∀ b ∈ T, B ≤ b ∧ b < w.heap.size := HH.out.ge
    have hst : Fr T w1 (w6.setCell ⟨u, 1, none⟩ (.slice (some ⟨g2, 0, none⟩) (fs.length + 1) c2)) := hst2.1.step hst3.1 hst2.2
    refine .inr ⟨H1.out.1, _, rfl, H1.out.2.1.keep hst hTT, T3, by rw [HF.out]; exact hJ3, (H1.out.2.2.any _).trans hst, fun b hb => ?_⟩
    rcases hst3.2 b hb with e | e
    · exact (hst2.2 b e).imp id (fun e => by omega)
    · exact .inr (by have := hst2.1.size; omega)
/-! Forget -/
set_option maxRecDepth 100000 in
set_option maxHeartbeats 8000000 in
theorem rforget_calls {B : Nat} {w : World} {u : Nat} {most : Int} {ms : List Int} {L : List (Int × Un)} {T : List Nat} (h : RJ B w u most ms L T) (hB : B ≤ w.heap.size) (hn : ms.length ≤ 1000000) (hLl : L.length ≤ 1000000) (f : Int) :
    Calls Tryd.prog 25 #[ptr u, .int .i64 f] w fun e w' => e = .returned (.int .i64 ((L.length : Int) - (L.filter fun e => inB (min f (lastI ms)) 1073741824 e.1).length)) ∧
      ∃ T', RJ B w' u most (ms.filter (inB (min f (lastI ms)) 1073741824)) (L.filter fun e => inB (min f (lastI ms)) 1073741824 e.1) T' ∧ Stp T T' w w' := by
  have HL := hide (rlast_calls h hn)
  have HK := hide (fun W (hf : Fr [] w W) => keep_calls (h.fr0 hf) (Nat.le_trans hB hf.size) hn hLl (min f (lastI ms)) 1073741824)
  have HH := hide h
  obtain ⟨mv, lv, es, q1, q2, q3, q4, q5, q6, q7⟩ := h
  obtain ⟨Al, cl, rfl⟩ := rj_sl q3
  have c2 := q1.at_ 2 (v := .slice Al L.length cl) rfl
  have lu := q1.lt
  have hfl : (L.filter fun e => inB (min f (lastI ms)) 1073741824 e.1).length ≤ L.length := List.length_filter_le _ _
  clear q1 q2 q3 q4 q5 q6 q7
  generalize lastI ms = lm at *
  have hmin : (min f lm = f ∧ f ≤ lm) ∨ (min f lm = lm ∧ ¬ f ≤ lm) := by omega
  have hlenw : ∀ k : Nat, k ≤ L.length → wrap64 ((L.length : Int) - (k : Int)) = (L.length : Int) - (k : Int) := fun k hk => by unfold wrap64; omega
  rcases hmin with ⟨hme, hle⟩ | ⟨hme, hle⟩
  all_goals
    rw [hme] at HK hfl ⊢
    clear hme
    first
    | (have hlt : ¬ lm < f := by omega)
    | (have hlt : lm < f := by omega)
    go_enter Tryd.func25, Tryd.ntmps25
    go_wp2_with fail
    refine HL.out.mono ?_
    rintro e w1 ⟨rfl, nq, rfl⟩
    go_wp2_with fail
    refine (HK.out _ ((Fr.refl _ _).drewN nq)).mono ?_
    rintro e w2 ⟨rfl, T2, hJ2, hst2⟩
    have H2 := hide (And.intro hJ2 hst2)
    obtain ⟨mv2, lv2, es2, p1, p2, p3, p4, p5, p6, p7⟩ := hJ2
    obtain ⟨A2, c2', rfl⟩ := rj_sl p3
    have d2 := p1.at_ 2 (v := .slice A2 _ c2') rfl
    have lu2 := p1.lt
    clear p1 p2 p3 p4 p5 p6 p7 hst2
    go_wp2_with fail
    go_ret
    exact ⟨rfl, T2, H2.out.1, (((Fr.refl [] w).drewN nq).any _).trans H2.out.2.1, H2.out.2.2⟩
end Go.Proofs.YtioeafjlbdpjoaaDoor
