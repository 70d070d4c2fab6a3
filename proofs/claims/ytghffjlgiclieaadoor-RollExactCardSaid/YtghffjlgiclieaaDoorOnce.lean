/- RollOnce: the walk of the law. -/
import Derived.Test.YtghffjlgiclieaaDoorOncePure
import Derived.Test.YtghffjlgiclieaaDoorAgain
namespace Go.Proofs.YtghffjlgiclieaaDoor
open Go.RowKit

theorem infoBool : (Tryd.prog.info? 4).map (fun i => (i.zero, i.size, i.bytes)) = some (some (.bool false), 1, 1) := by kernel_rfl

theorem eq_entity (a b c d : Int) (W : World) : (binOp .eql 31 (.agg #[.int .i64 a, .int .i64 b]) (.agg #[.int .i64 c, .int .i64 d])).run Tryd.prog W = .ok (.bool (decide (a = c ∧ b = d))) W := by
  by_cases h1 : a = c <;> by_cases h2 : b = d <;> simp [go_sem, h1, h2]

/-- rows of other element types lie apart from a roll -/
theorem RollR.apart {B B' : Nat} {w : World} {g : Nat} {ps : List (Int × Bool)} {row : List Nat} {S : List Nat} (h : RollR B w g ps row S) {e : TypeId} {size n : Nat} {v : Value} {xs : List Value} (hr : w.ownsRow B' e size v n xs)
    (h1 : e ≠ 56) (h2 : e ≠ 60) (h3 : e ≠ 3) : ∀ b, v.ownBlock = some b → b ∉ S := by
  obtain ⟨vp, vr, hB, hg, hp, hr', rfl⟩ := h
  intro b hb hm
  simp only [List.mem_cons, List.mem_append, Option.mem_toList] at hm
  rcases hm with rfl | hm | hm
  · exact row_blk_ne hr hg h1 hb
  · exact row_row_ne hr hp h2 b hb hm
  · exact row_row_ne hr hr' h3 b hb hm

/-- what holds at the head of the outer loop -/
def OnceI (K : List Nat) (w : World) (ad : Nat → Addr) (n g : Nat) (bd : Int) (m : Nat) (vG vA : Value) (given : List (Nat × Int)) (wr : World) : Prop :=
  ∃ (ps : List (Int × Bool)) (row : List Nat) (S : List Nat), RInv n ps row bd ∧ GInv ps given ∧ RollR w.heap.size wr g ps row S ∧ Cx K w.heap.size ad w wr S [] ∧ given.length = m ∧
    wr.ownsRow w.heap.size 31 2 vG m (given.flatMap encE) ∧ wr.ownsRow w.heap.size 4 1 vA m ((given.map (al ps)).map Value.bool) ∧
    (∃ gG cG, vG = .slice (some ⟨gG, 0, none⟩) m cG) ∧ (∃ gA cA, vA = .slice (some ⟨gA, 0, none⟩) m cA)

set_option maxRecDepth 100000 in
set_option maxHeartbeats 8000000 in
theorem once_walk {K : List Nat} {w : World} {ad : Nat → Addr} (hs : Sents K w.heap.size w ad) (h1 : 1 ∈ K) (h6 : 6 ∈ K) (h17 : 17 ∈ K) (n0 : Int) (A : Option Addr) (len c : Nat) (acts : List Act) (hl : acts.length = len) (hlen : len ≤ maxLen)
    (hr : Reads w w.heap.size 4 A len (acts.flatMap encAct)) (hok : ∀ a ∈ acts, okAct a) :
    Calls Tryd.prog 4 #[.int .i64 n0, .slice A len c] w fun e w' => e = .returned (.bool true) ∧ Below w.heap.size w w' := by
  unfold maxLen at hlen
  obtain ⟨i1, hi1, hz1, hs1, hb1⟩ := info_parts infoEntity
  obtain ⟨i2, hi2, hz2, hs2, hb2⟩ := info_parts infoBool
  have C := hide (Cx.start hs)
  have Ha := hide (awake_calls hs h1 h6 h17)
  have Hr := hide hr
  have Hok := hide hok
  have Hl := hide hl
  clear hs hr hok hl
  go_enter Tryd.func4, Tryd.ntmps4
  go_wp2_with fail
  refine Ha.out.mono ?_
  rintro e w1 ⟨rfl, hf⟩
  have C1 := hide (C.out.fr0 hf)
  clear hf C Ha
  go_wp2_with fail
  obtain ⟨n, hn, hn65⟩ := umod n0 65 (by omega) (by omega)
  rw [show ((65 : Nat) : Int) = 65 from rfl] at hn
  rw [hn]
  clear hn
  refine (new_ok C1.out.leW n (by omega)).mono ?_
  rintro e w2 ⟨g, S2, rfl, hr, hf, hnew⟩
  have C2 := hide (C1.out.obj hf hnew fun b hb => (hr.lt b hb).1)
  rw [List.append_nil] at C2
  have R2 := hide hr
  clear hr hf hnew C1
  go_upto_block 0 with (fail)
  have hG0 : ((w2.alloc (.cells #[] 31)).alloc (.cells #[] 4)).ownsRow w.heap.size 31 2 (.slice (some ⟨w2.heap.size, 0, none⟩) 0 0) 0 (([] : List (Nat × Int)).flatMap encE) :=
    (row_mk (Blk.new w2 31 #[]) C2.out.leW (Nat.le_refl _) (by simp [maxLen]) rfl rfl).alloc _
  have hA0 : ((w2.alloc (.cells #[] 31)).alloc (.cells #[] 4)).ownsRow w.heap.size 4 1 (.slice (some ⟨w2.heap.size + 1, 0, none⟩) 0 0) 0 ((([] : List (Nat × Int)).map (al (List.replicate n (0, false)))).map Value.bool) :=
    row_mk (Blk.new_at _ 4 #[] _ (by simp)) (by have := C2.out.leW; omega) (Nat.le_refl _) (by simp [maxLen]) rfl rfl
  have I0 : OnceI K w ad n g ((0 : Nat) : Int) 0 (.slice (some ⟨w2.heap.size, 0, none⟩) 0 0) (.slice (some ⟨w2.heap.size + 1, 0, none⟩) 0 0) [] ((w2.alloc (.cells #[] 31)).alloc (.cells #[] 4)) :=
    ⟨_, _, S2, RInv.start n, GInv.start n, (R2.out.alloc _).alloc _, ((C2.out.alloc _ _).alloc _ _).none, rfl, hG0, hA0, ⟨_, _, rfl⟩, ⟨_, _, rfl⟩⟩
  have HI0 := hide I0
  clear I0 hG0 hA0 C2 R2
  go_cut [7, 8] (fun v7 v8 wr => ∃ (m : Nat) (given : List (Nat × Int)), m ≤ 200 ∧ OnceI K w ad n g 200 m v7 v8 given wr)
  case first =>
    go_wp2_with fail
    go_loopw [7, 8, 9] (fun v7 v8 s9 wr => ∃ (k m : Nat) (given : List (Nat × Int)), k ≤ 200 ∧ m ≤ k ∧ s9 = .int .i64 k ∧ OnceI K w ad n g k m v7 v8 given wr) (fun _ _ s9 _ => 200 - (intOf s9).toNat)
    case atStart => exact ⟨0, 0, [], by omega, by omega, rfl, HI0.out⟩
    case round =>
      clear HI0
      obtain ⟨k, m, given, hk, hmk, rfl, hI⟩ := hrel
      have HI := hide hI
      clear hI
      by_cases hk1 : k < len
      · by_cases hk2 : k < 200
        · obtain ⟨a, ha⟩ : ∃ a, acts[k]? = some a := ⟨acts[k]'(by have := Hl.out; omega), by simp⟩
          obtain ⟨bA, oA, rfl, hbA, hcA⟩ := Hr.out.at_ encAct_len ha Hl.out
          obtain ⟨ps, row, S, hi, hgi, hR, hC, hgl, hG, hA, ⟨gG, cG, rfl⟩, gA, cA, rfl⟩ := HI.out
          have hbw := hC.fr.below (B := w.heap.size) (by simp) (Nat.le_refl _)
          have a0 := (hbw.cell (p := ⟨bA, oA + (k * 4 + 0), none⟩) hbA).trans (hcA 0 (.int .i64 a.kind) rfl)
          have a1 := (hbw.cell (p := ⟨bA, oA + (k * 4 + 1), none⟩) hbA).trans (hcA 1 (.int .i64 a.ei) rfl)
          have a2 := (hbw.cell (p := ⟨bA, oA + (k * 4 + 2), none⟩) hbA).trans (hcA 2 (.int .i64 a.eg) rfl)
          have a3 := (hbw.cell (p := ⟨bA, oA + (k * 4 + 3), none⟩) hbA).trans (hcA 3 (.int .i64 a.n) rfl)
          rw [Nat.add_zero] at a0
          rw [← Nat.add_assoc] at a1 a2 a3
          have hps := hi.len
          have hcnt := hi.cnt
          have hrl : row.length ≤ n := by omega
          have H := hide (And.intro hi (And.intro hgi (And.intro (hR.alloc (.cells #[.int .i64 a.kind, .int .i64 a.ei, .int .i64 a.eg, .int .i64 a.n] 33)) (And.intro (hC.alloc 33 #[.int .i64 a.kind, .int .i64 a.ei, .int .i64 a.eg, .int .i64 a.n]) (And.intro hgl (And.intro (hG.alloc (.cells #[.int .i64 a.kind, .int .i64 a.ei, .int .i64 a.eg, .int .i64 a.n] 33)) (hA.alloc (.cells #[.int .i64 a.kind, .int .i64 a.ei, .int .i64 a.eg, .int .i64 a.n] 33))))))))
          have Hc := hide hcA
          have Hps := hide (And.intro hps hcnt)
          clear hbw hcA ha hi hgi hR hC hgl hG hA HI hps hcnt
          by_cases hkd : a.kind = 1
          · have hkb : (a.kind == 1) = true := by simp [hkd]
            clear hkd
            go_wp2_with fail
            clear a0 a1 a2 a3
            obtain ⟨hi, hgi, hR, hC, hgl, hG, hA⟩ := H.out
            rcases List.eq_nil_or_concat row with rfl | ⟨row', i, rfl⟩
            · refine (take_full hC.sents h6 hR).mono ?_
              rintro e w3 ⟨v, rfl, hn, hf⟩
              have G := hide (And.intro ((hR.fr hf (by simp)).alloc (.cells #[.int .i64 0, .int .i64 0] 31)) (And.intro ((hC.fr0 hf).none.alloc 31 #[.int .i64 0, .int .i64 0]) (And.intro ((row_fr hG hf (by simp)).alloc (.cells #[.int .i64 0, .int .i64 0] 31)) ((row_fr hA hf (by simp)).alloc (.cells #[.int .i64 0, .int .i64 0] 31)))))
              obtain ⟨tv, av, rfl⟩ := hn.form
              clear hi hgi hR hC hgl hG hA hn hf
              go_wp2_with fail
              refine (count_calls G.out.1 (by have := Hps.out; omega) (by simp)).mono ?_
              rintro e w4 ⟨rfl, hf⟩
              have G2 := hide (And.intro (G.out.1.fr hf (by simp)) (And.intro (G.out.2.1.fr0 hf) (And.intro (row_fr G.out.2.2.1 hf (by simp)) (row_fr G.out.2.2.2 hf (by simp)))))
              clear hf G
              go_wp2_with fail
              refine (most_calls G2.out.1).mono ?_
              rintro e w5 ⟨rfl, hf⟩
              have G3 := hide (And.intro (G2.out.1.fr hf (by simp)) (And.intro (G2.out.2.1.fr0 hf) (And.intro (row_fr G2.out.2.2.1 hf (by simp)) (row_fr G2.out.2.2.2 hf (by simp)))))
              clear hf G2
              have hz : ((ps.length : Int) - (([] : List Nat).length : Int) != (ps.length : Int)) = false := by simp
              go_wp2_with fail
              go_roundw
              case rel => exact ⟨k + 1, m, given, by omega, by omega, by go_num, ps, [], S, H.out.1.mono (by omega), H.out.2.1, G3.out.1, G3.out.2.1.none, H.out.2.2.2.2.1, G3.out.2.2.1, G3.out.2.2.2, ⟨_, _, rfl⟩, ⟨_, _, rfl⟩⟩
              case measure => simp [intOf]; omega
            · rw [List.concat_eq_append] at hi hR
              obtain ⟨ge, hg1, hg0, hgb, hin⟩ := hi.last
              refine (take_ok hR hg1 hg0 (by omega)).mono ?_
              rintro e wt ⟨rfl, hR', hf⟩
              have hG' := (row_fr hG hf (hR.apart hG (by decide) (by decide) (by decide))).alloc (.cells #[.int .i64 i, .int .i64 (ge + 1)] 31)
              have hA' := (row_fr hA hf (hR.apart hA (by decide) (by decide) (by decide))).alloc (.cells #[.int .i64 i, .int .i64 (ge + 1)] 31)
              have hC' := (hC.same hf).alloc 31 #[.int .i64 i, .int .i64 (ge + 1)]
              have hfr := hgi.fresh hg1
              have hal : (given ++ [(i, ge + 1)]).map (al (ps.set i (ge + 1, true))) = given.map (al ps) ++ [true] := by
                rw [List.map_append, List.map_congr_left (hgi.take_al hg1)]
                have hil := (List.getElem?_eq_some_iff.1 hg1).1
                simp [al, hil]
              have G := hide (And.intro (hi.take hg1) (And.intro (hgi.take hg1) (And.intro (hR'.alloc (.cells #[.int .i64 i, .int .i64 (ge + 1)] 31)) (And.intro hC' (And.intro hG' (And.intro hA' hal))))))
              have Hfr := hide (And.intro hfr hgl)
              clear hi hgi hR hC hG hA hR' hf hG' hA' hC' hg1 hfr hal H hgl
              have hbX := G.out.2.2.2.1.blk (b := wt.heap.size) (t := 31) (cs := #[.int .i64 i, .int .i64 (ge + 1)]) (by simp)
              have q0 := hbX.at_ 0 (v := .int .i64 i) (by rfl)
              have q1 := hbX.at_ 1 (v := .int .i64 (ge + 1)) (by rfl)
              have Q := hide (And.intro q0 q1)
              clear hbX q0 q1
              go_wp2_with fail
              generalize hX : World.alloc wt _ = wX at *
              have Q0 := Q.out.1
              have Q1 := Q.out.2
              · go_loopw [13] (fun s13 wr2 => ∃ (j q : Nat), j ≤ m ∧ s13 = .int .i64 j ∧ wr2 = wX.drewN q) (fun s13 _ => m - (intOf s13).toNat)
                case atStart => exact ⟨0, 0, by omega, rfl, rfl⟩
                case round =>
                  obtain ⟨j, q, hj, rfl, rfl⟩ := hrel
                  by_cases hjm : j < m
                  · obtain ⟨⟨ei, eg⟩, he⟩ : ∃ e, given[j]? = some e := ⟨given[j]'(by have := Hfr.out.2; omega), by simp⟩
                    have e0 := row_cell G.out.2.2.2.2.1 (i := j * 2 + 0) (u := .int .i64 ei) (by rw [flat_get encE_len he 0 (by omega)]; rfl)
                    have e1 := row_cell G.out.2.2.2.2.1 (i := j * 2 + 1) (u := .int .i64 eg) (by rw [flat_get encE_len he 1 (by omega)]; rfl)
                    rw [Nat.add_zero] at e0
                    have hne : ¬ ((ei : Int) = i ∧ eg = ge + 1) := by
                      rintro ⟨h1, h2⟩
                      have h1' : ei = i := by omega
                      subst h1'; subst h2
                      exact Hfr.out.1 (List.mem_of_getElem? he)
                    have Heq : ∀ W, (binOp .eql 31 (.agg #[.int .i64 ei, .int .i64 eg]) (.agg #[.int .i64 i, .int .i64 (ge + 1)])).run Tryd.prog W = .ok (.bool false) W := fun W => by rw [eq_entity, decide_eq_false hne]
                    clear hne he
                    have j0 : (0 : Int) ≤ (j : Int) := by omega
                    have j1 : (j : Int) < (m : Int) := by omega
                    go_wp2_with fail
                    go_quiet (fail)
                    go_wp2_with fail
                    go_roundw
                    case rel => exact ⟨j + 1, _, by omega, by go_num, rfl⟩
                    case measure => simp [intOf]; omega
                  · have hBx : w.heap.size ≤ wX.heap.size := G.out.2.2.2.1.leW
                    go_wp2_with (first | (at_builtin; refine wpList_append_lies _ rfl _ _ _ rfl w.heap.size 31 i1 _ 2 16 Tryd.underlying36 hi1 hz1 hs1 hb1 rfl (by omega) (.slice (some ⟨gG, 0, none⟩) m cG) (m) (given.flatMap encE) rfl ((row_drewN G.out.2.2.2.2.1 q).alloc _) ⟨wX.heap.size, 0, none⟩ 1 1 [.int .i64 i, .int .i64 (ge + 1)] rfl rfl (World.news_of_block (cs := #[.int .i64 i, .int .i64 (ge + 1)]) (t := 31) (fr := (0, 0)) (Blk.new_at _ _ _ _ (by simp))) (by simp [Value.oneCell']) (by omega) (by unfold maxLen; omega) (by omega) (by simp; omega) (wX.heap.size + 1) (by simp) ?_; intro ag1 ac1 aw1 aown1 agrow1 aat1 alt1; have HA2 := hide (row_grown ((row_drewN G.out.2.2.2.2.2.1 q).alloc (.cells #[.int .i64 i, .int .i64 (ge + 1)] 31)) agrow1 (row_row_ne G.out.2.2.2.2.2.1 G.out.2.2.2.2.1 (by decide))); have hz1' : w.heap.size ≤ aw1.heap.size := Nat.le_trans (by simp; omega) agrow1.size) | (at_builtin; refine wpList_append_lies _ rfl _ _ _ rfl w.heap.size 4 i2 _ 1 1 Tryd.underlying42 hi2 hz2 hs2 hb2 rfl (by omega) (.slice (some ⟨gA, 0, none⟩) m cA) (m) ((given.map (al ps)).map Value.bool) rfl (HA2.out.alloc _) ⟨aw1.heap.size, 0, none⟩ 1 1 [.bool true] rfl rfl (World.news_of_block (cs := #[.bool true]) (t := 4) (fr := (0, 0)) (Blk.new_at _ _ _ _ (by simp))) (by simp [Value.oneCell']) (by omega) (by unfold maxLen; omega) (by omega) (by simp; omega) (aw1.heap.size + 1) (by simp) ?_; intro ag2 ac2 aw2 aown2 agrow2 aat2 alt2))
                    go_roundw
                    case rel =>
                      obtain ⟨hi, hgi, hR, hC, hG, hA, hal⟩ := G.out
                      have hf1 : Fr ((Value.slice (some ⟨gG, 0, none⟩) m cG).ownBlock.toList ++ (Value.slice (some ⟨gA, 0, none⟩) m cA).ownBlock.toList) wX aw2 :=
                        (((((Fr.refl _ wX).drewN q).alloc _).grown agrow1 (fun x hx => .inl (by simp [hx]))).alloc _).grown agrow2 (fun x hx => .inl (by simp [hx]))
                      have hap : ∀ b ∈ S, b ∉ ((Value.slice (some ⟨gG, 0, none⟩) m cG).ownBlock.toList ++ (Value.slice (some ⟨gA, 0, none⟩) m cA).ownBlock.toList) := by
                        intro b hb hm
                        simp only [List.mem_append, Option.mem_toList] at hm
                        rcases hm with hm | hm
                        · exact hR.apart hG (by decide) (by decide) (by decide) b hm hb
                        · exact hR.apart hA (by decide) (by decide) (by decide) b hm hb
                      refine ⟨k + 1, m + 1, given ++ [(i, ge + 1)], by omega, by omega, by go_num, _, row', S, hi, hgi, hR.fr hf1 hap, ?_, by have := Hfr.out.2; simp [this], ?_, ?_, ⟨_, _, rfl⟩, ⟨_, _, rfl⟩⟩
                      · refine hC.none.go2 hf1 ?_ hap
                        intro x hx
                        simp only [List.mem_append, Option.mem_toList] at hx
                        rcases hx with hx | hx
                        · exact (row_lt hG hx).2
                        · exact (row_lt hA hx).2
                      · have := row_grown (aown1.alloc (.cells #[.bool true] 4)) agrow2 (fun b hb he => by
                          have h2 := row_row_ne HA2.out aown1 (by decide) b he
                          exact h2 hb)
                        simpa [encE] using this
                      · rw [hal]
                        simpa using aown2
                    case measure => simp [intOf]; omega
          · have hkb : (a.kind == 1) = false := by simp [hkd]
            clear hkd
            rcases Nat.eq_zero_or_pos m with rfl | hm0
            · go_wp2_with fail
              go_roundw
              case rel => exact ⟨k + 1, 0, given, by omega, by omega, by go_num, ps, row, S, H.out.1.mono (by omega), H.out.2.1, H.out.2.2.1, H.out.2.2.2.1.none, H.out.2.2.2.2.1, H.out.2.2.2.2.2.1, H.out.2.2.2.2.2.2, ⟨_, _, rfl⟩, ⟨_, _, rfl⟩⟩
              case measure => simp [intOf]; omega
            · obtain ⟨u, hu, _⟩ := u64_nat a.n
              have hj : u % m < m := Nat.mod_lt _ hm0
              obtain ⟨hi, hgi, hR, hC, hgl, hG, hA⟩ := H.out
              obtain ⟨⟨ei, eg⟩, he⟩ : ∃ e, given[u % m]? = some e := ⟨given[u % m]'(by omega), by simp⟩
              have e0 := row_cell hG (i := u % m * 2 + 0) (u := .int .i64 ei) (by rw [flat_get encE_len he 0 (by omega)]; rfl)
              have e1 := row_cell hG (i := u % m * 2 + 1) (u := .int .i64 eg) (by rw [flat_get encE_len he 1 (by omega)]; rfl)
              have e2 := row_cell hA (i := u % m) (u := .bool (al ps (ei, eg))) (by simp [he])
              rw [Nat.add_zero] at e0
              have hj' : (u : Int) % (m : Int) < m := by omega
              have hj0 : 0 ≤ (u : Int) % (m : Int) := by omega
              have hgG : gG ∉ S := hR.apart hG (by decide) (by decide) (by decide) gG rfl
              have hgA : gA ∉ S := hR.apart hA (by decide) (by decide) (by decide) gA rfl
              have hgGA : gG ≠ gA := fun e => row_row_ne hG hA (by decide) gG rfl (by rw [e]; rfl)
              have E := hide (And.intro e0 (And.intro e1 e2))
              have He := hide (And.intro he (And.intro hgG (And.intro hgA hgGA)))
              clear e0 e1 e2 he hi hgi hR hC hgl hG hA
              go_wp2_with fail
              clear a0 a1 a2 a3
              generalize hX : World.alloc wr _ = wX at *
              rw [show (u : Int) % (m : Int) = ((u % m : Nat) : Int) from (Int.natCast_emod u m).symm]
              clear hj' hj0
              generalize hjx : u % m = j at *
              have j0 : (0 : Int) ≤ (j : Int) := by omega
              have j1 : (j : Int) < (m : Int) := by omega
              clear hjx
              obtain ⟨e0, e1, e2⟩ := E.out
              have n0 := World.new_ne wX _ e0
              have n2 := World.new_ne wX _ e2
              have lG := World.block_lt_of_cell? wX _ e0
              have lA := World.block_lt_of_cell? wX _ e2
              cases hb : al ps (ei, eg) with
              | true =>
                rw [hb] at e2
                have hal : ps[ei]? = some (eg, true) := by simpa [al] using hb
                have Hal := hide (And.intro hal hb)
                clear hal hb E hX
                go_region_held3 (fun w' => w'.cell? ⟨gG, j * 2, none⟩ = some (.int .i64 ei) ∧ w'.cell? ⟨gG, j * 2 + 1, none⟩ = some (.int .i64 eg) ∧ w'.cell? ⟨gA, j, none⟩ = some (.bool true))
                  (first | go_keep | exact ⟨(K4.out.2.1.cell (p := ⟨gG, j * 2, none⟩) lG He.out.2.1).trans e0, (K4.out.2.1.cell (p := ⟨gG, j * 2 + 1, none⟩) lG He.out.2.1).trans e1, (K4.out.2.1.cell (p := ⟨gA, j, none⟩) lA He.out.2.2.1).trans e2⟩)
                  (first | (go_at_call 10; refine (free_ok (H.out.2.2.1.fr ((Fr.refl [] wX).drew) (by simp)) H.out.2.2.2.1.leW Hal.out.1 (by have := Hps.out; omega) (by omega)).mono ?_; rintro e w4 ⟨rfl, S', hR4, hst⟩; have K4 := hide (And.intro hR4 hst); have hA4 := row_fr (H.out.2.2.2.2.2.2.drew) hst.1 (fun b hb => by (have hb' : gA = b := by simpa [Value.ownBlock] using hb); subst hb'; exact He.out.2.2.1); have fA4 := row_frozen hA4 (j); have HA4 := hide hA4; clear hA4 hR4 hst))
                all_goals
                  go_wp2_with fail
                  go_roundw
                  case rel =>
                    obtain ⟨hi, hgi, hR, hC, hgl, hG, hA⟩ := H.out
                    obtain ⟨hR4, hst⟩ := K4.out
                    have hal := hgi.free_al He.out.1 Hal.out.1
                    have hgi' := hgi.free He.out.1 Hal.out.1
                    have hG4 := row_fr (hG.drew) hst.1 (fun b hb => by (have hb' : gG = b := by simpa [Value.ownBlock] using hb); subst hb'; exact He.out.2.1)
                    have hC4 := (hC.none.drew).stp hst fun b hb => (hR4.lt b hb).1
                    have hA5 := row_store HA4.out j (by omega) (.bool false)
                    have hap : ∀ b ∈ S', b ∉ [gA] := by
                      intro b hb hm
                      have : b = gA := by simpa using hm
                      subst this
                      exact hR4.apart HA4.out (by decide) (by decide) (by decide) b rfl hb
                    have hfr : Fr [gA] w4 (w4.setCell ⟨gA, j, none⟩ (.bool false)) := (Fr.refl _ _).setCell (by simp) _
                    refine ⟨k + 1, m, given, by omega, by omega, by go_num, _, _, S', (hi.free Hal.out.1).mono (by omega), hgi', hR4.fr hfr hap, hC4.go2 hfr (by
                      intro b hb
                      have : b = gA := by simpa using hb
                      subst this
                      exact (row_lt hA rfl).2) hap, hgl, row_far hG4 (p := ⟨gA, j, none⟩) (by have := He.out.2.2.2; simpa [Value.ownBlock] using this) _, ?_, ⟨_, _, rfl⟩, ⟨_, _, rfl⟩⟩
                    rw [hal, List.map_set]
                    exact hA5
                  case measure => simp [intOf]; omega
              | false =>
                rw [hb] at e2
                have hal : aliveB ps ei eg = false := by rw [aliveB_al, hb]
                have Hal := hide (And.intro hal hb)
                clear hal hb E hX
                go_region_held3 (fun w' => w'.cell? ⟨gG, j * 2, none⟩ = some (.int .i64 ei) ∧ w'.cell? ⟨gG, j * 2 + 1, none⟩ = some (.int .i64 eg) ∧ w'.cell? ⟨gA, j, none⟩ = some (.bool false))
                  (first | go_keep | exact ⟨(K4.out.2.cell (p := ⟨gG, j * 2, none⟩) lG (by simp)).trans e0, (K4.out.2.cell (p := ⟨gG, j * 2 + 1, none⟩) lG (by simp)).trans e1, (K4.out.2.cell (p := ⟨gA, j, none⟩) lA (by simp)).trans e2⟩)
                  (first | (go_at_call 10; refine (free_dead (H.out.2.2.2.1.drew.sents) h17 (H.out.2.2.1.fr ((Fr.refl [] wX).drew) (by simp)) Hal.out.1 (by have := Hps.out; omega)).mono ?_; rintro e w4 ⟨v, rfl, hn4, hf4⟩; have K4 := hide (And.intro hn4 hf4); have hA4 := row_fr (H.out.2.2.2.2.2.2.drew) hf4 (by simp); have fA4 := row_frozen hA4 j; have HA4 := hide hA4; clear hA4; obtain ⟨tv, av, rfl⟩ := hn4.form; clear hn4 hf4))
                all_goals
                  go_wp2_with fail
                  go_roundw
                  case rel =>
                    obtain ⟨hi, hgi, hR, hC, hgl, hG, hA⟩ := H.out
                    obtain ⟨hn4, hf4⟩ := K4.out
                    have hG4 := row_fr (hG.drew) hf4 (by simp)
                    have hR4 := (hR.fr ((Fr.refl [] wX).drew) (by simp)).fr hf4 (by simp)
                    have hC4 := (hC.none.drew).fr0 hf4
                    have hA5 := row_store HA4.out j (by omega) (.bool false)
                    have hap : ∀ b ∈ S, b ∉ [gA] := by
                      intro b hb hm
                      have : b = gA := by simpa using hm
                      subst this
                      exact He.out.2.2.1 hb
                    have hfr : Fr [gA] w4 (w4.setCell ⟨gA, j, none⟩ (.bool false)) := (Fr.refl _ _).setCell (by simp) _
                    rw [← List.map_set, set_same (by rw [List.getElem?_map, He.out.1]; simp [Hal.out.2])] at hA5
                    exact ⟨k + 1, m, given, by omega, by omega, by go_num, _, _, S, hi.mono (by omega), hgi, hR4.fr hfr hap, hC4.go2 hfr (by
                      intro b hb
                      have : b = gA := by simpa using hb
                      subst this
                      exact (row_lt hA rfl).2) hap, hgl, row_far hG4 (p := ⟨gA, j, none⟩) (by have := He.out.2.2.2; simpa [Value.ownBlock] using this) _, hA5, ⟨_, _, rfl⟩, ⟨_, _, rfl⟩⟩
                  case measure => simp [intOf]; omega
        · go_wp2_with fail
          go_meet
          obtain ⟨ps, row, S, hi, hrest⟩ := HI.out
          exact ⟨m, given, by omega, ps, row, S, hi.mono (by omega), hrest⟩
      · go_wp2_with fail
        go_meet
        obtain ⟨ps, row, S, hi, hrest⟩ := HI.out
        exact ⟨m, given, by omega, ps, row, S, hi.mono (by omega), hrest⟩
  case rest =>
    obtain ⟨m, given, hm, ps, row, S, hi, hgi, hR, hC, hgl, hG, hA, ⟨gG, cG, rfl⟩, gA, cA, rfl⟩ := hcut
    have hps := hi.len
    have hcnt := hi.cnt
    have hgc := hgi.cnt
    have hgA : gG ≠ gA := fun e => row_row_ne hG hA (by decide) gG rfl (by rw [e]; rfl)
    have H := hide (And.intro hR (And.intro hC (And.intro hG (And.intro hA (And.intro hgl (And.intro hps (And.intro hcnt hgc)))))))
    clear HI0 Hr Hok Hl hi hgi hR hC hG hA hgl hps hcnt hgc
    go_wp2_with fail
    go_loopw [15, 16] (fun s15 s16 wr => ∃ k : Nat, k ≤ m ∧ s16 = .int .i64 k ∧ s15 = .int .i64 (((given.take k).countP (al ps) : Nat) : Int) ∧ RollR w.heap.size wr g ps row S ∧ Cx K w.heap.size ad w wr S [] ∧
      wr.ownsRow w.heap.size 31 2 (.slice (some ⟨gG, 0, none⟩) m cG) m (given.flatMap encE) ∧ wr.ownsRow w.heap.size 4 1 (.slice (some ⟨gA, 0, none⟩) m cA) m ((given.map (al ps)).map Value.bool)) (fun _ s16 _ => m - (intOf s16).toNat)
    case atStart => exact ⟨0, by omega, rfl, by simp, H.out.1, H.out.2.1, H.out.2.2.1, H.out.2.2.2.1⟩
    case round =>
      obtain ⟨k, hk, rfl, rfl, hR, hC, hG, hA⟩ := hrel
      by_cases hkm : k < m
      · obtain ⟨⟨ei, eg⟩, he⟩ : ∃ e, given[k]? = some e := ⟨given[k]'(by have := H.out.2.2.2.2.1; omega), by simp⟩
        have e0 := row_cell hG (i := k * 2 + 0) (u := .int .i64 ei) (by rw [flat_get encE_len he 0 (by omega)]; rfl)
        have e1 := row_cell hG (i := k * 2 + 1) (u := .int .i64 eg) (by rw [flat_get encE_len he 1 (by omega)]; rfl)
        have e2 := row_cell hA (i := k) (u := .bool (al ps (ei, eg))) (by simp [he])
        rw [Nat.add_zero] at e0
        have n0 := World.new_ne _ _ e0
        have n2 := World.new_ne _ _ e2
        have lG := World.block_lt_of_cell? _ _ e0
        have lA := World.block_lt_of_cell? _ _ e2
        have k0 : (0 : Int) ≤ (k : Int) := by omega
        have k1 : (k : Int) < (m : Int) := by omega
        have hct : (given.take (k + 1)).countP (al ps) = (given.take k).countP (al ps) + if al ps (ei, eg) then 1 else 0 := by
          rw [List.take_add_one, he, List.countP_append]
          simp [List.countP_cons]
        have hctl : (given.take k).countP (al ps) ≤ 200 := Nat.le_trans List.countP_le_length (by rw [List.length_take]; omega)
        have Hct := hide hct
        have HB := hide (And.intro hR (And.intro hC (And.intro hG hA)))
        clear hR hC hG hA hct he
        generalize hcc : (given.take k).countP (al ps) = cc at *
        clear hcc
        cases hb : al ps (ei, eg) with
        | true =>
          rw [hb] at e2 Hct
          simp only [if_true] at Hct
          have Hal : Hid (aliveB ps ei eg = true) := hide (by rw [aliveB_al, hb])
          clear hb
          go_wp2_with fail
          go_region_held3 (fun w' => w'.cell? ⟨gG, k * 2, none⟩ = some (.int .i64 ei) ∧ w'.cell? ⟨gG, k * 2 + 1, none⟩ = some (.int .i64 eg) ∧ w'.cell? ⟨gA, k, none⟩ = some (.bool true))
            (first | go_keep | exact ⟨(K4.out.cell (p := ⟨gG, k * 2, none⟩) lG (by simp)).trans e0, (K4.out.cell (p := ⟨gG, k * 2 + 1, none⟩) lG (by simp)).trans e1, (K4.out.cell (p := ⟨gA, k, none⟩) lA (by simp)).trans e2⟩)
            (first | (go_at_call 12; refine (alive_calls (HB.out.1.fr ((Fr.refl [] _).drew) (by simp)) (by have := H.out.2.2.2.2.2.1; omega) ei eg).mono ?_; rw [Hal.out]; rintro e w4 ⟨rfl, hf4⟩; have K4 := hide hf4; have z2 := (hf4.cell (p := ⟨gA, k, none⟩) lA (by simp)).trans e2; have z0 := (hf4.cell (p := ⟨gG, k * 2, none⟩) lG (by simp)).trans e0; have z1 := (hf4.cell (p := ⟨gG, k * 2 + 1, none⟩) lG (by simp)).trans e1; clear hf4))
          all_goals
            go_wp2_with fail
            go_roundw
            case rel =>
              exact ⟨k + 1, by omega, by go_num, by rw [Hct.out]; go_num, (HB.out.1.fr ((Fr.refl [] _).drew) (by simp)).fr K4.out (by simp), HB.out.2.1.drew.fr0 K4.out, row_fr HB.out.2.2.1.drew K4.out (by simp), row_fr HB.out.2.2.2.drew K4.out (by simp)⟩
            case measure => simp [intOf]; omega
        | false =>
          rw [hb] at e2 Hct
          simp only [Bool.false_eq_true, if_false, Nat.add_zero] at Hct
          have Hal : Hid (aliveB ps ei eg = false) := hide (by rw [aliveB_al, hb])
          clear hb
          go_wp2_with fail
          go_region_held3 (fun w' => w'.cell? ⟨gG, k * 2, none⟩ = some (.int .i64 ei) ∧ w'.cell? ⟨gG, k * 2 + 1, none⟩ = some (.int .i64 eg) ∧ w'.cell? ⟨gA, k, none⟩ = some (.bool false))
            (first | go_keep | exact ⟨(K4.out.cell (p := ⟨gG, k * 2, none⟩) lG (by simp)).trans e0, (K4.out.cell (p := ⟨gG, k * 2 + 1, none⟩) lG (by simp)).trans e1, (K4.out.cell (p := ⟨gA, k, none⟩) lA (by simp)).trans e2⟩)
            (first | (go_at_call 12; refine (alive_calls (HB.out.1.fr ((Fr.refl [] _).drew) (by simp)) (by have := H.out.2.2.2.2.2.1; omega) ei eg).mono ?_; rw [Hal.out]; rintro e w4 ⟨rfl, hf4⟩; have K4 := hide hf4; have z2 := (hf4.cell (p := ⟨gA, k, none⟩) lA (by simp)).trans e2; have z0 := (hf4.cell (p := ⟨gG, k * 2, none⟩) lG (by simp)).trans e0; have z1 := (hf4.cell (p := ⟨gG, k * 2 + 1, none⟩) lG (by simp)).trans e1; clear hf4))
          all_goals
            go_wp2_with fail
            go_roundw
            case rel =>
              exact ⟨k + 1, by omega, by go_num, by rw [Hct.out], (HB.out.1.fr ((Fr.refl [] _).drew) (by simp)).fr K4.out (by simp), HB.out.2.1.drew.fr0 K4.out, row_fr HB.out.2.2.1.drew K4.out (by simp), row_fr HB.out.2.2.2.drew K4.out (by simp)⟩
            case measure => simp [intOf]; omega
      · have hkm' : k = m := by omega
        subst hkm'
        have hcc : (given.take k).countP (al ps) = ps.countP (·.2) := by
          rw [List.take_of_length_le (by have := H.out.2.2.2.2.1; omega), H.out.2.2.2.2.2.2.2]
        rw [hcc]
        have HB := hide (And.intro hR hC)
        have hn1 := H.out.2.2.2.2.2.1
        have hn2 := H.out.2.2.2.2.2.2.1
        have hll := listOf_len ps
        clear hR hC hG hA hcc
        generalize hq : ps.countP (·.2) = q at *
        have hq1 : (ps.length : Int) - row.length = q := by omega
        have Hq := hide (And.intro hq1 hll)
        clear hq hq1 hll
        go_wp2_with fail
        refine (count_calls HB.out.1 (by omega) (by omega)).mono ?_
        rw [Hq.out.1]
        rintro e w4 ⟨rfl, hf4⟩
        have HB4 := hide (And.intro (HB.out.1.fr hf4 (by simp)) (HB.out.2.fr0 hf4))
        clear hf4
        go_wp2_with fail
        refine (list_calls HB4.out.1 HB4.out.2.leW (by omega)).mono ?_
        rw [Hq.out.2]
        rintro e w5 ⟨v, rfl, hl5, hf5, _⟩
        have Hf := hide ((HB4.out.2.fr0 hf5).fr.below (B := w.heap.size) (by simp) (Nat.le_refl _))
        rcases row_form hl5 with ⟨rfl, rfl, _⟩ | ⟨gl, cl, rfl, _⟩
        all_goals
          clear hl5 hf5
          go_wp2_with fail
          go_ret
          exact ⟨rfl, Hf.out⟩
end Go.Proofs.YtghffjlgiclieaaDoor
