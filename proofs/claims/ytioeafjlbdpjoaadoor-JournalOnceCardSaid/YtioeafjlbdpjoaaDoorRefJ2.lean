/- The journal of the reference: Mark that marks; Note. -/
import Derived.Test.YtioeafjlbdpjoaaDoorRefJ
import Derived.Test.YtioeafjlbdpjoaaDoorAppCopy
import Derived.Deep.QuietTactic
namespace Go.Proofs.YtioeafjlbdpjoaaDoor
open Go.RowKit
/-- other marks -/
theorem rj_marks {B : Nat} {w w6 : World} {u : Nat} {most : Int} {ms ms' : List Int} {L : List (Int × Un)} {T : List Nat} {v : Value} (h : RJ B w u most ms L T) (hf : Fr [] w w6) (hr : w6.ownsRow B 3 1 v ms'.length (ints ms')) (hv : ∀ b, v.ownBlock = some b → w.heap.size ≤ b) :
    ∃ T', RJ B (w6.setCell ⟨u, 1, none⟩ v) u most ms' L T' ∧ Stp T T' w (w6.setCell ⟨u, 1, none⟩ v) := by
  have h' := h.fr0 hf
  have hmem := h.mem
  obtain ⟨mv, lv, es, h1, h2, h3, h4, h5, h6, rfl⟩ := h'
  have hfin : Fr [u] w6 (w6.setCell ⟨u, 1, none⟩ v) := (Fr.refl _ _).setCell (.inl (by simp)) _
  refine ⟨u :: (v.ownBlock.toList ++ lv.ownBlock.toList), ⟨v, lv, es, by simpa using h1.set_ 1 v, row_fr hr hfin (fun k hk hm => row_blk_ne hr h1 (by decide) (by rw [hk]; simpa using hm)), row_fr h3 hfin (fun k hk hm => row_blk_ne h3 h1 (by decide) (by rw [hk]; simpa using hm)), h4, fun e he => (h5 e he).keep hfin (fun b hb hm => by simp at hm; omega), h6, rfl⟩,
    (hf.any _).setCell (.inl (by simp)) _, fun b hb => ?_⟩
  simp only [List.mem_cons, List.mem_append, Option.mem_toList] at hb ⊢
  rcases hb with rfl | hb | hb
  · exact .inl (.inl rfl)
  · exact .inr (hv b hb)
  · exact .inl (.inr (.inr hb))
/-- other entries -/
theorem rj_entries {B : Nat} {w w6 : World} {u : Nat} {most : Int} {ms : List Int} {L L' : List (Int × Un)} {T : List Nat} {v : Value} {es' : List En} (h : RJ B w u most ms L T) (hf : Fr [] w w6) (hr : w6.ownsRow B 95 12 v L'.length (es'.flatMap En.cells)) (hL : es'.map En.say = L') (hok : ∀ e ∈ es', PsOk (· < B) w6 e.d) (hv : ∀ b, v.ownBlock = some b → w.heap.size ≤ b) :
    ∃ T', RJ B (w6.setCell ⟨u, 2, none⟩ v) u most ms L' T' ∧ Stp T T' w (w6.setCell ⟨u, 2, none⟩ v) := by
  have h' := h.fr0 hf
  obtain ⟨mv, lv, es, h1, h2, h3, h4, h5, h6, rfl⟩ := h'
  have hfin : Fr [u] w6 (w6.setCell ⟨u, 2, none⟩ v) := (Fr.refl _ _).setCell (.inl (by simp)) _
  refine ⟨u :: (mv.ownBlock.toList ++ v.ownBlock.toList), ⟨mv, v, es', by simpa using h1.set_ 2 v, row_fr h2 hfin (fun k hk hm => row_blk_ne h2 h1 (by decide) (by rw [hk]; simpa using hm)), row_fr hr hfin (fun k hk hm => row_blk_ne hr h1 (by decide) (by rw [hk]; simpa using hm)), hL, fun e he => (hok e he).keep hfin (fun b hb hm => by simp at hm; omega), h6, rfl⟩,
    (hf.any _).setCell (.inl (by simp)) _, fun b hb => ?_⟩
  simp only [List.mem_cons, List.mem_append, Option.mem_toList] at hb ⊢
  rcases hb with rfl | hb | hb
  · exact .inl (.inl rfl)
  · exact .inl (.inr (.inl hb))
  · exact .inr (hv b hb)
theorem infoIntR : (Tryd.prog.info? 3).map (fun i => (i.zero, i.size, i.bytes)) = some (some (.int .i64 0), 1, 8) := by kernel_rfl
theorem ints_oneR (xs : List Int) : ∀ v ∈ ints xs, v.oneCell' = true := by
  intro v hv
  obtain ⟨x, -, rfl⟩ := List.mem_map.mp hv
  rfl
def RMPost (B : Nat) (w : World) (u : Nat) (most : Int) (ms : List Int) (L : List (Int × Un)) (T : List Nat) (k : Int) (e : Ending) (w' : World) : Prop := e = .returned (.int .i64 k) ∧ ∃ T', RJ B w' u most ms L T' ∧ Stp T T' w w'
set_option maxRecDepth 100000 in
set_option maxHeartbeats 4000000 in
theorem rmark_calls {B : Nat} {w : World} {u : Nat} {most : Int} {ms : List Int} {L : List (Int × Un)} {T : List Nat} (h : RJ B w u most ms L T) (hB : B ≤ w.heap.size) (hn : ms.length ≤ 1000000) {f : Int} (hok : RMarkOk ms f) :
    Calls Tryd.prog 21 #[ptr u, .int .i64 f] w (RMPost B w u most (ms ++ [f]) L T 0) := by
  have HH := hide h
  obtain ⟨i0, hi0, hz0, hs0, hb0⟩ := info_parts infoIntR
  have HL := hide (rlast_calls h hn)
  obtain ⟨f0, f1, f2⟩ := hok
  have h1 : decide (f < 0) = false := decide_eq_false (by omega)
  have h2 : decide (1073741824 < f) = false := decide_eq_false (by omega)
  have h3 : decide (f ≤ lastI ms) = false := decide_eq_false (by omega)
  obtain ⟨mv, lv, es, q1, q2, -⟩ := h
  have lu := q1.lt
  have HQ := hide (And.intro q1 q2)
  have z1 := q1.frozen 1
  have c1 := q1.at_ 1 (v := mv) rfl
  clear q1 q2 f0 f1 f2
  generalize lastI ms = lm at *
  go_enter Tryd.func21, Tryd.ntmps21
  go_wp2_with fail
  refine HL.out.mono ?_
  rintro e w1 ⟨rfl, nq, rfl⟩
  have c1' := ((HQ.out.1.fr0 (((Fr.refl [] w).drewN nq).alloc (.cells #[] 3)))).at_ 1 (v := mv) rfl
  go_wp2_with (first
    | (at_builtin; refine wpList_append_copy rfl _ _ _ rfl B B 3 i0 _ 1 8 Tryd.underlying22 hi0 hz0 hs0 hb0 rfl (by omega) w.heap.size rfl (Blk.new_at (w.drewN nq) _ _ _ (by simp)) hB mv ms.length (ints ms) rfl (row_fr HQ.out.2 (((Fr.refl [] w).drewN nq).alloc (.cells #[] 3)) (by simp)) (ints_oneR ms) (by unfold maxLen; omega) (by omega) (w.heap.size + 1) (by simp) ?_; intro g1 k1 w4 hown1 hgrow1 hat1 hlt1; have H4 := hide (And.intro hown1 (And.intro (show Fr [] w w4 from (((Fr.refl [] w).drewN nq).alloc (.cells #[] 3)).grown hgrow1 (fun k hk => .inr (Nat.le_of_eq (Option.some.inj hk)))) (show w.heap.size ≤ g1 by omega))); have hs4 := H4.out.2.1.size; clear hown1 hgrow1 hat1 hlt1)
    | (at_builtin; refine wpList_append_lies _ rfl _ _ _ rfl B 3 i0 _ 1 8 Tryd.underlying22 hi0 hz0 hs0 hb0 rfl (by omega) (.slice (some ⟨g1, 0, none⟩) ms.length k1) ms.length (ints ms) rfl (H4.out.1.alloc _) ⟨w4.heap.size, 0, none⟩ 1 1 [.int .i64 f] rfl rfl (World.news_of_block (cs := #[.int .i64 f]) (t := 3) (fr := (0, 0)) (Blk.new_at _ _ _ _ (by simp))) (by simp [Value.oneCell']) (by omega) (by unfold maxLen; omega) (by omega) (by simp; omega) (w4.heap.size + 1) (by simp) ?_; intro g2 c2 w6 hown hgrow hat hlt6; have hf6 := (H4.out.2.1.alloc (.cells #[.int .i64 f] 3)).grown hgrow (fun k hk => .inr (by have e9 : g1 = k := Option.some.inj hk; have := H4.out.2.2; omega)); have g6 := HQ.out.1.fr0 hf6; have c6 := g6.at_ 1 (v := mv) rfl; have z6 := g6.frozen 1; have l6 := g6.lt; have HG := hide (And.intro hown (And.intro hf6 (show w.heap.size ≤ g2 by rcases hat with e | e; (have e9 : g1 = g2 := Option.some.inj e; have := H4.out.2.2; omega); omega))); clear hown hgrow hat hlt6 g6 hf6))
  go_ret
  obtain ⟨hown, hf6, hge⟩ := HG.out
  exact ⟨rfl, rj_marks HH.out hf6 (ms' := ms ++ [f]) (by rw [List.length_append]; simpa [ints] using hown) (fun b hb => by
    have e : g2 = b := Option.some.inj hb
    omega)⟩
end Go.Proofs.YtioeafjlbdpjoaaDoor
