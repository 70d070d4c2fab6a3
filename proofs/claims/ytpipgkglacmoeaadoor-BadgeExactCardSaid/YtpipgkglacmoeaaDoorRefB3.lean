/- The reference's badges by contracts: add. -/
import Derived.Test.YtpipgkglacmoeaaDoorRefB2
import Derived.Deep.CutBlock
import Derived.Deep.DeepCutAuto
namespace Go.Proofs.YtpipgkglacmoeaaDoor
open Go.RowKit
theorem row_base {w : World} {B B' : Nat} {t : TypeId} {size n : Nat} {v : Value} {xs : List Value} (h : w.ownsRow B t size v n xs) (hb : B' ≤ B) : w.ownsRow B' t size v n xs := by
  refine ⟨h.1, ?_⟩
  rcases h.2 with h0 | ⟨k, cap, cur, hv, hb', hg, q1, q2, q3, q4⟩
  · exact .inl h0
  · exact .inr ⟨k, cap, cur, hv, by omega, hg, q1, q2, q3, q4⟩
section
variable {B : Nat} {w w' w1 : World} {g : Nat} {ls ls' : List (Int × Ent)} {nx : Int} {S T : List Nat}
theorem RR.form (h : RR B w g ls nx S) : ∃ A c, Blk w g 61 #[.slice A ls.length c, .int .i64 nx] ∧
    ∀ k x, ls[k]? = some x → ∃ b, A = some ⟨b, 0, none⟩ ∧ b < w.heap.size ∧ w.cell? ⟨b, k * 3, none⟩ = some (.int .i64 x.1) ∧ w.cell? ⟨b, k * 3 + 1, none⟩ = some (.int .i64 x.2.1) ∧ w.cell? ⟨b, k * 3 + 2, none⟩ = some (.int .i64 x.2.2) := by
  obtain ⟨A, c, g0, g1, lg, -, hc⟩ := h.see
  obtain ⟨vs, h1, -⟩ := h
  have := (h1.at_ 0 (v := vs) rfl).symm.trans g0
  obtain rfl := Option.some.inj this
  exact ⟨A, c, h1, hc⟩
theorem RR.put (h : RR B w g ls nx S) (hf : Fr [] w w1) {v : Value} (hr : w1.ownsRow w.heap.size 77 3 v ls'.length (ls'.flatMap encP3)) :
    RR B (w1.setCell ⟨g, 0, none⟩ v) g ls' nx (g :: v.ownBlock.toList) ∧ Stp S (g :: v.ownBlock.toList) w (w1.setCell ⟨g, 0, none⟩ v) := by
  obtain ⟨vs, h1, h2, h3, rfl⟩ := h
  have lg := h1.lt
  have hn : ∀ k, v.ownBlock = some k → w.heap.size ≤ k := fun k hk => (row_lt hr hk).2
  have hr' := row_far hr (p := ⟨g, 0, none⟩) (fun e => by have := hn _ e; simp only at this; omega) v
  refine ⟨⟨v, by simpa using (h1.fr0 hf).set_ 0 v, ⟨hr'.1, ?_⟩, h3, rfl⟩, (hf.any _).setCell (.inl (by simp)) _, fun b hb => ?_⟩
  · rcases hr'.2 with h0 | ⟨k, cap, cur, hv, hb, hg, q1, q2, q3, q4⟩
    · exact .inl h0
    · exact .inr ⟨k, cap, cur, hv, by omega, hg, q1, q2, q3, q4⟩
  · rcases List.mem_cons.mp hb with rfl | hb
    · exact .inl (by simp)
    · exact .inr (hn b (by simpa using hb))
end
set_option maxRecDepth 100000 in
set_option maxHeartbeats 4000000 in
theorem radd_calls {B : Nat} {w : World} {g : Nat} {ls : List (Int × Ent)} {nx : Int} {S : List Nat} (h : RR B w g ls nx S) (hl : ls.length ≤ 100000) (id : Int) (e : Ent) :
    Calls Tryd.prog 36 #[.pointer (some ⟨g, 0, none⟩), .int .i64 id, encE e] w fun e' w' => e' = .returned (.tuple #[]) ∧ ∃ S', RR B w' g (addL id e ls) nx S' ∧ Stp S S' w w' := by
  obtain ⟨e1, e2⟩ := e
  obtain ⟨A, c, hg, hcell⟩ := h.form
  have lg := hg.lt
  have Hg := hide hg
  have Hc := hide hcell
  have H := hide h
  clear h hcell hg
  obtain ⟨i8, hi8, hz8, hs8, hb8⟩ := info_parts infoPair
  obtain ⟨i9, hi9, hz9, hs9, hb9⟩ := info_parts infoPair
  simp only [encE]
  go_enter Tryd.func36, Tryd.ntmps36
  go_upto_region 1 with (fail)
  have hf0 : Fr [] w (w.alloc (.cells #[.int .i64 e1, .int .i64 e2] 27)) := (Fr.refl _ _).alloc _
  have hb0 := Blk.new w 27 #[.int .i64 e1, .int .i64 e2]
  generalize World.alloc w _ = w1 at hf0 hb0 ⊢
  have lb := hb0.lt
  have b0 := hb0.at_ 0 (v := .int .i64 e1) rfl
  have b1 := hb0.at_ 1 (v := .int .i64 e2) rfl
  have HO := hide (row_mk (Blk.new w1 _ _) (Nat.le_refl _) (Nat.le_refl _) (by simp [maxLen]) rfl rfl : (w1.alloc (.cells #[] 77)).ownsRow w1.heap.size 77 3 (.slice (some ⟨w1.heap.size, 0, none⟩) 0 0) (foldA id (e1, e2) (ls.take 0)).1.length ((foldA id (e1, e2) (ls.take 0)).1.flatMap encP3))
  have Hf0 := hide hf0
  have Hb0 := hide hb0
  clear hf0 hb0
  go_wp2_with fail
  go_loopw [6, 7, 8] (fun s6 s7 s8 wr => ∃ k : Nat, k ≤ ls.length ∧ s8 = .int .i64 k ∧ s7 = .bool (foldA id (e1, e2) (ls.take k)).2 ∧ wr.ownsRow w1.heap.size 77 3 s6 (foldA id (e1, e2) (ls.take k)).1.length ((foldA id (e1, e2) (ls.take k)).1.flatMap encP3) ∧ Fr [] w1 wr) (fun _ _ s8 _ => ls.length - (intOf s8).toNat)
  case atStart => exact ⟨0, by omega, rfl, rfl, HO.out, (Fr.refl _ _).alloc _⟩
  case round =>
    obtain ⟨k, hk, rfl, rfl, hr, hf⟩ := hrel
    clear b0 b1 lb
    have hg1 := (Hg.out.fr0 Hf0.out).fr0 hf
    have hb1 := Hb0.out.fr0 hf
    have c0 := hg1.at_ 0 (v := .slice A ls.length c) rfl
    have lg1 := hg1.lt
    have lb := hb1.lt
    have b0 := hb1.at_ 0 (v := .int .i64 e1) rfl
    have b1 := hb1.at_ 1 (v := .int .i64 e2) rfl
    have hsz := Nat.le_trans Hf0.out.size hf.size
    have hsz1 := hf.size
    have hfl := fold_len id (e1, e2) (ls.take k) ([], false)
    rw [List.length_take] at hfl
    change (foldA id (e1, e2) (ls.take k)).1.length ≤ _ at hfl
    have ngw : g ≠ wr.heap.size := by omega
    by_cases hkl : k < ls.length
    · obtain ⟨x, hx⟩ : ∃ x, ls[k]? = some x := ⟨_, List.getElem?_eq_getElem hkl⟩
      obtain ⟨b, rfl, lb2, x0, x1, x2⟩ := Hc.out k x hx
      have hfw := Hf0.out.trans hf
      have k0 : (0 : Int) ≤ (k : Int) := by omega
      have k1 : (k : Int) < (ls.length : Int) := by omega
      replace x0 := (hfw.cell (p := ⟨b, k * 3, none⟩) lb2 (by simp)).trans x0
      replace x1 := (hfw.cell (p := ⟨b, k * 3 + 1, none⟩) lb2 (by simp)).trans x1
      replace x2 := (hfw.cell (p := ⟨b, k * 3 + 2, none⟩) lb2 (by simp)).trans x2
      have lb3 := Nat.lt_of_lt_of_le lb2 hsz
      have hst := fold_succ id (e1, e2) hx
      generalize foldA id (e1, e2) (ls.take k) = s at *
      obtain ⟨out, dn⟩ := s
      simp only at hr hfl
      have hfl2 : out.length ≤ 200000 := by
        simp only [List.length_nil] at hfl
        omega
      obtain ⟨d, x1', x2'⟩ := x
      simp only at x0 x1 x2
      have Hr := hide hr
      have Hf := hide hf
      have Hgw := hide (And.intro hg1 hb1)
      clear hr hf hx hfl hg1 hb1 hfw
      by_cases hcond : dn = false ∧ id < d
      · obtain ⟨rfl, hid⟩ := hcond
        have hst' : Hid (foldA id (e1, e2) (ls.take (k + 1)) = (out ++ [(id, e1, e2), (d, x1', x2')], true)) := hide (by rw [hst]; unfold stepA; rw [if_pos ⟨rfl, hid⟩])
        clear hst
        go_upto_region 8 with (at_builtin; refine wpList_append_lies _ rfl _ _ _ rfl w1.heap.size 77 i8 _ 3 24 Tryd.underlying59 hi8 hz8 hs8 hb8 rfl (by omega) (u6) (out.length) (out.flatMap encP3) rfl ((Hr.out.alloc _)) ⟨wr.heap.size, 0, none⟩ 1 1 [.int .i64 id, .int .i64 e1, .int .i64 e2] rfl rfl (World.news_of_block (cs := #[.int .i64 id, .int .i64 e1, .int .i64 e2]) (t := 77) (fr := (0, 0)) (Blk.new_at _ _ _ _ (by simp))) (by simp [Value.oneCell']) (by omega) (by unfold maxLen; omega) (by omega) (by simp; omega) (wr.heap.size + 1) (by simp) ?_; intro ag8 ac8 aw8 aown8 agrow8 aat8 alt8)
        have hf2 : Fr [] w1 aw8 := (Hf.out.alloc _).grown agrow8 (fun b hb => .inr (row_lt Hr.out hb).2)
        have hf2r8 : Fr (u6.ownBlock.toList) wr aw8 := ((Fr.refl _ wr).alloc _).grown agrow8 (fun b hb => .inl (by simp [hb]))
        have hfw := Hf0.out.trans hf2
        have hnb : b ∉ u6.ownBlock.toList := fun hm => by have := (row_lt Hr.out (by simpa using hm)).2; have := Hf0.out.size; omega
        have hg2 := (Hg.out.fr0 Hf0.out).fr0 hf2
        have c0' := hg2.at_ 0 (v := .slice (some ⟨b, 0, none⟩) ls.length c) rfl
        have lg2 := hg2.lt
        have y0 := (hf2r8.cell (p := ⟨b, k * 3, none⟩) lb3 hnb).trans x0
        have y1 := (hf2r8.cell (p := ⟨b, k * 3 + 1, none⟩) lb3 hnb).trans x1
        have y2 := (hf2r8.cell (p := ⟨b, k * 3 + 2, none⟩) lb3 hnb).trans x2
        have lb4 := Nat.lt_of_lt_of_le lb2 hfw.size
        have hsz2 := hf2.size
        have Hf2 := hide hf2
        clear hfw hf2 hf2r8 hg2 agrow8 aat8 c0 lg1 x0 x1 x2 b0 b1 lb
        go_wp2_with (at_builtin; refine wpList_append_lies _ rfl _ _ _ rfl w1.heap.size 77 i9 _ 3 24 Tryd.underlying59 hi9 hz9 hs9 hb9 rfl (by omega) (.slice (some ⟨ag8, 0, none⟩) (out.length + 1) ac8) (out.length + 1) (out.flatMap encP3 ++ [.int .i64 id, .int .i64 e1, .int .i64 e2]) rfl ((aown8.alloc _)) ⟨aw8.heap.size, 0, none⟩ 1 1 [.int .i64 d, .int .i64 x1', .int .i64 x2'] rfl rfl (World.news_of_block (cs := #[.int .i64 d, .int .i64 x1', .int .i64 x2']) (t := 77) (fr := (0, 0)) (Blk.new_at _ _ _ _ (by simp))) (by simp [Value.oneCell']) (by omega) (by unfold maxLen; omega) (by omega) (by simp; omega) (aw8.heap.size + 1) (by simp) ?_; intro ag9 ac9 aw9 aown9 agrow9 aat9 alt9)
        go_roundw
        case rel =>
          refine ⟨k + 1, by omega, by go_num, by rw [hst'.out], ?_, (Hf2.out.alloc _).grown agrow9 (fun b hb => .inr (row_lt aown8 hb).2)⟩
          rw [hst'.out]
          simp only [List.length_append, List.length_cons, List.length_nil, List.flatMap_append, List.flatMap_cons, List.flatMap_nil, List.append_nil]
          rw [← List.append_assoc]
          exact aown9
        case measure => simp [intOf]; omega
      · have hst' : Hid (foldA id (e1, e2) (ls.take (k + 1)) = (out ++ [(d, x1', x2')], dn)) := hide (by rw [hst]; unfold stepA; rw [if_neg hcond])
        clear hst
        have hD : Hid (dn = true ∨ dn = false ∧ ¬ id < d) := hide (by
          cases dn with
          | true => exact .inl rfl
          | false => exact .inr ⟨rfl, fun h => hcond ⟨rfl, h⟩⟩)
        clear hcond
        rcases hD.out with rfl | ⟨rfl, hid⟩
        all_goals
          go_wp2_with (at_builtin; refine wpList_append_lies _ rfl _ _ _ rfl w1.heap.size 77 i8 _ 3 24 Tryd.underlying59 hi8 hz8 hs8 hb8 rfl (by omega) (u6) (out.length) (out.flatMap encP3) rfl ((Hr.out.alloc _)) ⟨wr.heap.size, 0, none⟩ 1 1 [.int .i64 d, .int .i64 x1', .int .i64 x2'] rfl rfl (World.news_of_block (cs := #[.int .i64 d, .int .i64 x1', .int .i64 x2']) (t := 77) (fr := (0, 0)) (Blk.new_at _ _ _ _ (by simp))) (by simp [Value.oneCell']) (by omega) (by unfold maxLen; omega) (by omega) (by simp; omega) (wr.heap.size + 1) (by simp) ?_; intro ag8 ac8 aw8 aown8 agrow8 aat8 alt8)
          go_roundw
          case rel =>
            refine ⟨k + 1, by omega, by go_num, by rw [hst'.out], ?_, (Hf.out.alloc _).grown agrow8 (fun b hb => .inr (row_lt Hr.out hb).2)⟩
            rw [hst'.out]
            simp only [List.length_append, List.length_singleton, List.flatMap_append, List.flatMap_singleton]
            exact aown8
          case measure => simp [intOf]; omega
    · obtain rfl : k = ls.length := by omega
      have k1 : ¬ (ls.length : Int) < (ls.length : Int) := by omega
      rw [List.take_length] at hr hfl ⊢
      have hend := fold_end id (e1, e2) ls
      generalize foldA id (e1, e2) ls = s at *
      obtain ⟨out, dn⟩ := s
      simp only at hr hfl hend
      have hfl2 : out.length ≤ 200000 := by
        simp only [List.length_nil] at hfl
        omega
      have gf := hg1.frozen 0
      have Hf := hide hf
      have Hgw := hide hg1
      have Hr := hide hr
      clear hf hfl hr hg1 hb1
      cases dn with
      | true =>
        have Hend : Hid (out = addL id (e1, e2) ls) := hide (by simpa using hend)
        clear hend
        have hp := hide (H.out.put (w1 := wr) (v := u6) (ls' := out) (Hf0.out.trans Hf.out) (row_base Hr.out Hf0.out.size))
        clear b0 b1 lb
        rcases row_form Hr.out with ⟨rfl, h0, -⟩ | ⟨bb, cap, rfl, -, hlb, -, -⟩
        · go_wp2_with fail
          go_end0
          refine ⟨rfl, ?_⟩
          rw [← Hend.out]
          exact ⟨_, hp.out⟩
        · go_wp2_with fail
          go_end0
          refine ⟨rfl, ?_⟩
          rw [← Hend.out]
          exact ⟨_, hp.out⟩
      | false =>
        have Hend : Hid (out ++ [(id, e1, e2)] = addL id (e1, e2) ls) := hide (by simpa using hend)
        clear hend
        go_upto_region 12 with (at_builtin; refine wpList_append_lies _ rfl _ _ _ rfl w1.heap.size 77 i8 _ 3 24 Tryd.underlying59 hi8 hz8 hs8 hb8 rfl (by omega) (u6) (out.length) (out.flatMap encP3) rfl ((Hr.out.alloc _)) ⟨wr.heap.size, 0, none⟩ 1 1 [.int .i64 id, .int .i64 e1, .int .i64 e2] rfl rfl (World.news_of_block (cs := #[.int .i64 id, .int .i64 e1, .int .i64 e2]) (t := 77) (fr := (0, 0)) (Blk.new_at _ _ _ _ (by simp))) (by simp [Value.oneCell']) (by omega) (by unfold maxLen; omega) (by omega) (by simp; omega) (wr.heap.size + 1) (by simp) ?_; intro ag8 ac8 aw8 aown8 agrow8 aat8 alt8)
        have hf2 : Fr [] w1 aw8 := (Hf.out.alloc _).grown agrow8 (fun b hb => .inr (row_lt Hr.out hb).2)
        have hg2 := (Hg.out.fr0 Hf0.out).fr0 hf2
        have lg2 := hg2.lt
        have gf2 := hg2.frozen 0
        have c2 := hg2.at_ 0 (v := .slice A ls.length c) rfl
        have hrow : aw8.ownsRow w1.heap.size 77 3 (.slice (some ⟨ag8, 0, none⟩) (out.length + 1) ac8) (out ++ [(id, e1, e2)]).length ((out ++ [(id, e1, e2)]).flatMap encP3) := by
          simp only [List.length_append, List.length_singleton, List.flatMap_append, List.flatMap_singleton]
          exact aown8
        have hp := hide (H.out.put (w1 := aw8) (ls' := out ++ [(id, e1, e2)]) (Hf0.out.trans hf2) (row_base hrow Hf0.out.size))
        clear hf2 hg2 agrow8 aat8 aown8 hrow c0 lg1 gf b0 b1 lb
        go_wp2_with fail
        go_end0
        refine ⟨rfl, ?_⟩
        rw [← Hend.out]
        exact ⟨_, hp.out⟩
end Go.Proofs.YtpipgkglacmoeaaDoor
