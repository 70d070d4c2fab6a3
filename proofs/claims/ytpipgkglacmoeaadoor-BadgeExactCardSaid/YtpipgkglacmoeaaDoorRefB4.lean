/- The reference's badges by contracts: Drop. -/
import Derived.Test.YtpipgkglacmoeaaDoorRefB3
namespace Go.Proofs.YtpipgkglacmoeaaDoor
open Go.RowKit
theorem drop_snoc {ls : List (Int × Ent)} {k : Nat} {x : Int × Ent} (hx : ls[k]? = some x) (id : Int) : dropP (ls.take (k + 1)) id = dropP (ls.take k) id ++ (if x.1 = id then [] else [x]) := by
  unfold dropP
  rw [List.take_add_one, hx, Option.toList_some, List.filter_append]
  by_cases h : x.1 = id
  · rw [if_pos h]; simp [h]
  · rw [if_neg h]; simp [h]
theorem RR.far2 {B : Nat} {w w5 : World} {g : Nat} {ls : List (Int × Ent)} {nx : Int} {S S' : List Nat} (h : RR B w5 g ls nx S' ∧ Stp S S' w w5) {b : Nat} (hb : w.heap.size ≤ b) (hn : b ∉ S') (u v : Value) :
    RR B ((w5.setCell ⟨b, 0, none⟩ u).setCell ⟨b, 1, none⟩ v) g ls nx S' ∧ Stp S S' w ((w5.setCell ⟨b, 0, none⟩ u).setCell ⟨b, 1, none⟩ v) := by
  have hf : Fr [b] w5 ((w5.setCell ⟨b, 0, none⟩ u).setCell ⟨b, 1, none⟩ v) := ((Fr.refl [b] w5).setCell (.inl (by simp)) _).setCell (.inl (by simp)) _
  exact ⟨h.1.fr hf fun x hx hm => hn (by rw [← List.mem_singleton.mp hm]; exact hx), (h.2.1.setCell (.inr hb) _).setCell (.inr hb) _, h.2.2⟩
def RdropPost (B : Nat) (w : World) (g : Nat) (ls : List (Int × Ent)) (nx : Int) (S : List Nat) (id : Int) (e : Ending) (w' : World) : Prop :=
  (ownOf ls id = none ∧ e = .returned (.tuple #[encE (0, 0), .int .i64 7]) ∧ Fr [] w w') ∨ ∃ x, ownOf ls id = some x ∧ e = .returned (.tuple #[encE x, .int .i64 0]) ∧ ∃ S', RR B w' g (dropP ls id) nx S' ∧ Stp S S' w w'
set_option maxRecDepth 100000 in
set_option maxHeartbeats 4000000 in
theorem rdrop_calls {B : Nat} {w : World} {g : Nat} {ls : List (Int × Ent)} {nx : Int} {S : List Nat} (h : RR B w g ls nx S) (hl : ls.length ≤ 100000) (id : Int) :
    Calls Tryd.prog 22 #[.pointer (some ⟨g, 0, none⟩), .int .i64 id] w (RdropPost B w g ls nx S id) := by
  obtain ⟨A, c, hg, hcell⟩ := h.form
  have lg := hg.lt
  have Hg := hide hg
  have Hc := hide hcell
  have H := hide h
  clear h hcell hg
  obtain ⟨i8, hi8, hz8, hs8, hb8⟩ := info_parts infoPair
  go_enter Tryd.func22, Tryd.ntmps22
  go_upto_region 1 with (fail)
  have hf0 : Fr [] w (w.alloc (.cells #[.int .i64 0, .int .i64 0] 27)) := (Fr.refl _ _).alloc _
  have hb0 := Blk.new w 27 #[.int .i64 0, .int .i64 0]
  generalize World.alloc w _ = w0 at hf0 hb0 ⊢
  have Hf0 := hide hf0
  have Hb0 := hide hb0
  clear hf0 hb0
  go_wp2_with fail
  refine (rentity_calls (H.out.fr0 Hf0.out) (by omega) id).mono ?_
  rintro e w1 ⟨rfl, hf⟩
  have Hf1 := hide (Hf0.out.trans hf)
  have Hb1 := hide (Hb0.out.fr0 hf)
  clear hf Hf0 Hb0
  cases ho : ownOf ls id with
  | none =>
    have Ho := hide ho
    clear ho
    simp only [Option.getD_none, Option.isSome_none, encE]
    go_upto_region 2 with (fail)
    have hf2 := Hf1.out.alloc (.cells #[.int .i64 0, .int .i64 0] 27)
    have hb2 := Hb1.out.alloc (.cells #[.int .i64 0, .int .i64 0] 27)
    have hc2 := Blk.new w1 27 #[.int .i64 0, .int .i64 0]
    have hne : w1.heap.size ≠ w.heap.size := by have := Hb1.out.lt; omega
    generalize World.alloc w1 _ = w2 at hf2 hb2 hc2 ⊢
    have lb := hb2.lt
    have fb := hb2.frozen
    have lc := hc2.lt
    have b0 := hb2.at_ 0 (v := .int .i64 0) rfl
    have b1 := hb2.at_ 1 (v := .int .i64 0) rfl
    have c0 := hc2.at_ 0 (v := .int .i64 0) rfl
    have c1 := hc2.at_ 1 (v := .int .i64 0) rfl
    have hne' := hne.symm
    obtain ⟨q0, q1⟩ := cells2_reads hb2 (.int .i64 0) (.int .i64 0)
    have HE := hide ((hf2.setCell (p := ⟨w.heap.size, 0, none⟩) (.inr (Nat.le_refl _)) (.int .i64 0)).setCell (p := ⟨w.heap.size, 1, none⟩) (.inr (Nat.le_refl _)) (.int .i64 0))
    clear hf2 hb2 hc2
    go_wp2_with fail
    refine bodyPost_ret (v := .tuple #[.agg #[.int .i64 0, .int .i64 0], .int .i64 7]) (by simp [results, Tryd.results22, go_sem, q0, q1]) rfl (.inl ⟨Ho.out, rfl, HE.out⟩)
  | some x =>
    obtain ⟨e1, e2⟩ := x
    have Ho := hide ho
    clear ho
    simp only [Option.getD_some, Option.isSome_some, encE]
    go_upto_region 2 with (fail)
    have hf2 := Hf1.out.alloc (.cells #[.int .i64 e1, .int .i64 e2] 27)
    have hb2 := Hb1.out.alloc (.cells #[.int .i64 e1, .int .i64 e2] 27)
    have hc2 := Blk.new w1 27 #[.int .i64 e1, .int .i64 e2]
    have hne : w1.heap.size ≠ w.heap.size := by have := Hb1.out.lt; omega
    generalize World.alloc w1 _ = w2 at hf2 hb2 hc2 ⊢
    have HO := hide (row_mk (Blk.new w2 _ _) (Nat.le_refl _) (Nat.le_refl _) (by simp [maxLen]) rfl rfl : (w2.alloc (.cells #[] 77)).ownsRow w2.heap.size 77 3 (.slice (some ⟨w2.heap.size, 0, none⟩) 0 0) (dropP (ls.take 0) id).length ((dropP (ls.take 0) id).flatMap encP3))
    have Hf2 := hide hf2
    have Hb2 := hide hb2
    have Hc2 := hide hc2
    have Hne := hide hne
    clear hf2 hb2 hc2 hne
    go_wp2_with fail
    go_loopw [8, 9] (fun s8 s9 wr => ∃ k : Nat, k ≤ ls.length ∧ s9 = .int .i64 k ∧ wr.ownsRow w2.heap.size 77 3 s8 (dropP (ls.take k) id).length ((dropP (ls.take k) id).flatMap encP3) ∧ Fr [] w2 wr) (fun _ s9 _ => ls.length - (intOf s9).toNat)
    case atStart => exact ⟨0, by omega, rfl, HO.out, (Fr.refl _ _).alloc _⟩
    case round =>
      obtain ⟨k, hk, rfl, hr, hf⟩ := hrel
      have hg1 := (Hg.out.fr0 Hf2.out).fr0 hf
      have c0 := hg1.at_ 0 (v := .slice A ls.length c) rfl
      have lg1 := hg1.lt
      have hsz1 := hf.size
      have hfl : (dropP (ls.take k) id).length ≤ k := Nat.le_trans (List.length_filter_le ..) (by rw [List.length_take]; omega)
      by_cases hkl : k < ls.length
      · obtain ⟨x, hx⟩ : ∃ x, ls[k]? = some x := ⟨_, List.getElem?_eq_getElem hkl⟩
        obtain ⟨b, rfl, lb2, x0, x1, x2⟩ := Hc.out k x hx
        have hfw := Hf2.out.trans hf
        have hsz := hfw.size
        have k0 : (0 : Int) ≤ (k : Int) := by omega
        have k1 : (k : Int) < (ls.length : Int) := by omega
        replace x0 := (hfw.cell (p := ⟨b, k * 3, none⟩) lb2 (by simp)).trans x0
        replace x1 := (hfw.cell (p := ⟨b, k * 3 + 1, none⟩) lb2 (by simp)).trans x1
        replace x2 := (hfw.cell (p := ⟨b, k * 3 + 2, none⟩) lb2 (by simp)).trans x2
        have lb3 := Nat.lt_of_lt_of_le lb2 hsz
        have hst := drop_snoc hx id
        generalize dropP (ls.take k) id = out at *
        obtain ⟨d, x1', x2'⟩ := x
        simp only at x0 x1 x2 hst
        have Hr := hide hr
        have Hf := hide hf
        clear hr hf hx hg1 hfw
        by_cases hd : d = id
        · rw [if_pos hd, List.append_nil] at hst
          have Hst := hide hst
          clear hst
          go_wp2_with fail
          go_roundw
          case rel => exact ⟨k + 1, by omega, by go_num, by rw [Hst.out]; exact Hr.out, Hf.out⟩
          case measure => simp [intOf]; omega
        · rw [if_neg hd] at hst
          have Hst := hide hst
          clear hst
          go_wp2_with (at_builtin; refine wpList_append_lies _ rfl _ _ _ rfl w2.heap.size 77 i8 _ 3 24 Tryd.underlying59 hi8 hz8 hs8 hb8 rfl (by omega) (u8) (out.length) (out.flatMap encP3) rfl ((Hr.out.alloc _)) ⟨wr.heap.size, 0, none⟩ 1 1 [.int .i64 d, .int .i64 x1', .int .i64 x2'] rfl rfl (World.news_of_block (cs := #[.int .i64 d, .int .i64 x1', .int .i64 x2']) (t := 77) (fr := (0, 0)) (Blk.new_at _ _ _ _ (by simp))) (by simp [Value.oneCell']) (by omega) (by unfold maxLen; omega) (by omega) (by simp; omega) (wr.heap.size + 1) (by simp) ?_; intro ag8 ac8 aw8 aown8 agrow8 aat8 alt8)
          go_roundw
          case rel =>
            refine ⟨k + 1, by omega, by go_num, ?_, (Hf.out.alloc _).grown agrow8 (fun b hb => .inr (row_lt Hr.out hb).2)⟩
            rw [Hst.out]
            simp only [List.length_append, List.length_singleton, List.flatMap_append, List.flatMap_singleton]
            exact aown8
          case measure => simp [intOf]; omega
      · obtain rfl : k = ls.length := by omega
        have k1 : ¬ (ls.length : Int) < (ls.length : Int) := by omega
        rw [List.take_length] at hr hfl
        have gf := hg1.frozen 0
        have hfw := Hf2.out.trans hf
        have hp := H.out.put (w1 := wr) hfw (row_base hr Hf2.out.size)
        have hb3 := Hb2.out.fr0 hf
        have hc3 := Hc2.out.fr0 hf
        have hng : ∀ b, w.heap.size ≤ b → g ≠ b := fun b hb => by omega
        have hform := row_form hr
        generalize hws : wr.setCell ⟨g, 0, none⟩ u8 = w5 at hp
        have hb5 : Blk w5 w.heap.size 27 #[.int .i64 0, .int .i64 0] := by rw [← hws]; exact hb3.far (Ne.symm (hng _ (Nat.le_refl _))) _
        have hc5 : Blk w5 w1.heap.size 27 #[.int .i64 e1, .int .i64 e2] := by rw [← hws]; exact hc3.far (Ne.symm (hng _ Hf1.out.size)) _
        have HH := hide (And.intro hr (And.intro hp (And.intro hb5 hc5)))
        have Hws := hide hws
        clear hr hf hp hb3 hc3 hb5 hc5 hfw hg1 hws
        rcases hform with ⟨rfl, h0, -⟩ | ⟨bb, cap, rfl, -, hlb, -, -⟩
        all_goals
          go_upto_region 11 with (fail)
          rw [Hws.out]
          have lb := HH.out.2.2.1.lt
          have fb := HH.out.2.2.1.frozen
          have lc := HH.out.2.2.2.lt
          have b0 := HH.out.2.2.1.at_ 0 (v := .int .i64 0) rfl
          have b1 := HH.out.2.2.1.at_ 1 (v := .int .i64 0) rfl
          have c0' := HH.out.2.2.2.at_ 0 (v := .int .i64 e1) rfl
          have c1' := HH.out.2.2.2.at_ 1 (v := .int .i64 e2) rfl
          have hne' := Hne.out
          have hne2 := Hne.out.symm
          obtain ⟨q0, q1⟩ := cells2_reads HH.out.2.2.1 (.int .i64 e1) (.int .i64 e2)
          have HE := hide (RR.far2 HH.out.2.1 (Nat.le_refl _) (by
            intro hm
            rcases List.mem_cons.mp hm with e | hm
            · exact hng _ (Nat.le_refl _) e.symm
            · have := (row_lt HH.out.1 (by simpa using hm)).2
              have := Hb2.out.lt
              omega) (.int .i64 e1) (.int .i64 e2))
          go_wp2_with fail
          refine bodyPost_ret (v := .tuple #[.agg #[.int .i64 e1, .int .i64 e2], .int .i64 0]) (by simp [results, Tryd.results22, go_sem, q0, q1]) rfl (.inr ⟨_, Ho.out, rfl, _, HE.out⟩)
end Go.Proofs.YtpipgkglacmoeaaDoor
