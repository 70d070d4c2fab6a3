/- Package pasodobleref07 by contracts: Push. -/
import Derived.Test.YtgifeligogjfiaaDoorRC
import Derived.Test.YtgifeligogjfiaaDoorAppends
import Derived.Deep.RegionLaw
namespace Go.Proofs.YtgifeligogjfiaaDoor
open Go.RowKit

theorem encBs_one (ps : List Pt) : ∀ u ∈ ps.flatMap encB, u.oneCell' = true := by
  intro u hu
  obtain ⟨p, _, hp⟩ := List.mem_flatMap.1 hu
  simp only [encB, List.mem_cons, List.not_mem_nil, or_false] at hp
  rcases hp with rfl | rfl | rfl | rfl | rfl | rfl <;> rfl

set_option maxHeartbeats 2000000 in
theorem rcpush_err {B : Nat} {w : World} {g : Nat} {comp : Int} {k : Nat} {ps : List Pt} {S : List Nat} (h : RefC B w g comp k ps S) (h2 : 1 ≤ k) (h3 : k ≤ 4) (p : Pt) (hp : ¬ Fits comp k p) :
    Calls Tryd.prog 18 #[.pointer (some ⟨g, 0, none⟩), encP p] w fun e w' => e = .returned (.tuple #[.int .i64 0, .int .i64 1]) ∧ Fr [] w w' := by
  have Hf := hide (rcfits (h.alloc (.cells (boxP p) 35)) h2 h3 p)
  rw [decide_eq_false hp] at Hf
  have H0 := hide ((Fr.refl [] w).alloc (.cells (boxP p) 35))
  clear h hp
  obtain ⟨c, v0, v1, v2, v3, t⟩ := p
  simp only [encP, boxP] at *
  go_enter Tryd.func18, Tryd.ntmps18
  go_wp2_with fail
  refine Hf.out.mono ?_
  rintro e w1 ⟨rfl, hf⟩
  have H1 := hide (H0.out.trans hf)
  clear hf Hf H0
  go_wp2_with fail
  go_ret2
  exact ⟨rfl, H1.out⟩

theorem rcpush_end {B : Nat} {w w2 w4 : World} {g gB capB : Nat} {comp : Int} {k : Nat} {ps : List Pt} {p : Pt} {vL : Value} (hBg : B ≤ g) (hlg : g < w2.heap.size) (hg : Blk w2 g 61 #[.int .i64 comp, .int .i64 k, vL])
    (hr : w2.ownsRow B 35 6 vL ps.length (ps.flatMap encB)) (hf : Fr [] w w2) (hF : Fr [] w2 w4) (hB : w2.heap.size ≤ gB)
    (hO : w4.ownsRow B 35 6 (.slice (some ⟨gB, 0, none⟩) (ps.length + 1) capB) (ps.length + 1) (ps.flatMap encB ++ encB p)) :
    ∃ S', RefC B (w4.setCell ⟨g, 2, none⟩ (.slice (some ⟨gB, 0, none⟩) (ps.length + 1) capB)) g comp k (ps ++ [p]) S' ∧ Stp (g :: vL.ownBlock.toList) S' w (w4.setCell ⟨g, 2, none⟩ (.slice (some ⟨gB, 0, none⟩) (ps.length + 1) capB)) := by
  have n1 : g ≠ gB := by omega
  have hs := hf.size
  refine ⟨[g, gB], ⟨.slice (some ⟨gB, 0, none⟩) (ps.length + 1) capB, hBg, (hg.fr0 hF).set_ 2 _, ?_, by simp [Value.ownBlock]⟩, ?_, ?_⟩
  · rw [List.length_append, List.length_singleton, List.flatMap_append, List.flatMap_singleton]
    exact row_far hO (p := ⟨g, 2, none⟩) (by simp [Value.ownBlock]; omega) _
  · exact ((hf.trans hF).any _).setCell (p := ⟨g, 2, none⟩) (by simp) _
  · intro b hb
    simp only [List.mem_cons, List.not_mem_nil, or_false] at hb
    rcases hb with rfl | rfl
    · exact .inl (by simp)
    · exact .inr (by omega)

set_option maxRecDepth 100000 in
set_option maxHeartbeats 4000000 in
theorem rcpush_ok {B : Nat} {w : World} {g : Nat} {comp : Int} {k : Nat} {ps : List Pt} {S : List Nat} (h : RefC B w g comp k ps S) (hB : B ≤ w.heap.size) (h2 : 1 ≤ k) (h3 : k ≤ 4) (p : Pt) (hp : Fits comp k p) (hl : ps.length ≤ 1000000) :
    Calls Tryd.prog 18 #[.pointer (some ⟨g, 0, none⟩), encP p] w fun e w' => e = .returned (.tuple #[.int .i64 ps.length, .int .i64 0]) ∧ ∃ S', RefC B w' g comp k (ps ++ [p]) S' ∧ Stp S S' w w' := by
  have Hf := hide (rcfits (h.alloc (.cells (boxP p) 35)) h2 h3 p)
  rw [decide_eq_true hp] at Hf
  obtain ⟨i0, hi0, hz0, hz1, hz2⟩ := info_parts infoPart
  have H0 := hide (And.intro ((Fr.refl [] w).alloc (.cells (boxP p) 35)) (And.intro h (Blk.new w 35 (boxP p))))
  clear h hp
  obtain ⟨c, v0, v1, v2, v3, t⟩ := p
  simp only [encP, boxP] at Hf H0 ⊢
  go_enter Tryd.func18, Tryd.ntmps18
  go_wp2_with fail
  refine Hf.out.mono ?_
  rintro e w2 ⟨rfl, hf⟩
  obtain ⟨hf0, h, hbx⟩ := H0.out
  have hfw := hf0.trans hf
  have hb2 := hbx.fr0 hf
  obtain ⟨vL, hBg, hg, hr, rfl⟩ := h.fr0 hfw
  have hB2 : B ≤ w2.heap.size := Nat.le_trans hB hfw.size
  have H2 := hide (And.intro hg (And.intro hr (And.intro hb2 hfw)))
  obtain ⟨x0, x1, x2, x3, x4, x5⟩ := blk6 hb2
  have lx := hb2.lt
  have lg := hg.lt
  have c2 := hg.at_ 2 (v := vL) (by rfl)
  have fg := hg.frozen
  have q0 := World.new_ne w2 _ c2
  have q1 := World.new_ne w2 _ x0
  clear hf0 h hbx hfw hb2 hg hr hf Hf H0
  have e0 : ((w2.alloc (.cells #[] 35)).drew).ownsRow B 35 6 (.slice (some ⟨w2.heap.size, 0, none⟩) 0 0) 0 [] := row_mk (Blk.new w2 35 #[]).drew (by omega) (Nat.le_refl _) (by simp [maxLen]) rfl rfl
  have e1 : (((w2.alloc (.cells #[] 35)).alloc (.cells #[.int .i64 c, .int .i64 v0, .int .i64 v1, .int .i64 v2, .int .i64 v3, .int .i64 t] 35)).drew).ownsRow B 35 6 (.slice (some ⟨w2.heap.size, 0, none⟩) 0 0) 0 [] := row_mk ((Blk.new w2 35 #[]).alloc _).drew (by omega) (Nat.le_refl _) (by simp [maxLen]) rfl rfl
  have e2 : (((w2.alloc (.cells #[.int .i64 c, .int .i64 v0, .int .i64 v1, .int .i64 v2, .int .i64 v3, .int .i64 t] 35)).alloc (.cells #[] 35)).drew).ownsRow B 35 6 (.slice (some ⟨w2.heap.size + 1, 0, none⟩) 0 0) 0 [] := row_mk (Blk.new_at _ 35 #[] _ (by simp)).drew (by omega) (Nat.le_refl _) (by simp [maxLen]) rfl rfl
  have E := hide (And.intro e0 (And.intro e1 e2))
  clear e0 e1 e2
  by_cases hr0 : ps = []
  · subst hr0
    have hv : ∃ A c, vL = .slice A 0 c := by
      rcases row_form H2.out.2.1 with ⟨rfl, _⟩ | ⟨gt, ct, rfl, _⟩
      · exact ⟨_, _, rfl⟩
      · exact ⟨_, _, rfl⟩
    obtain ⟨A, cc, rfl⟩ := hv
    go_wp2_with fail
    go_region_law
      ((first
        | (refine step_append_zero (by rfl) _ _ _ (by rfl) 35 i0 Tryd.underlying44 hi0 w2.heap.size A cc (by rfl) (by rfl) ?_)
        | (refine step_append_zero (by rfl) _ _ _ (by rfl) 35 i0 Tryd.underlying44 hi0 (w2.heap.size + 1) A cc (by rfl) (by rfl) ?_)
        | (refine step_append_lies _ (by rfl) _ _ _ (by rfl) B 35 i0 _ 6 48 Tryd.underlying44 hi0 hz0 hz1 hz2 rfl (by omega) (.slice (some ⟨w2.heap.size, 0, none⟩) 0 0) 0 [] (by rfl) E.out.2.1 ⟨(w2.heap.size + 1), 0, none⟩ 1 1 [.int .i64 c, .int .i64 v0, .int .i64 v1, .int .i64 v2, .int .i64 v3, .int .i64 t] (by rfl) (by rfl) (blk_news ((Blk.new_at (w2.alloc (.cells #[] 35)) 35 #[.int .i64 c, .int .i64 v0, .int .i64 v1, .int .i64 v2, .int .i64 v3, .int .i64 t] (w2.heap.size + 1) (by simp)).drew) 0 (fun j v hv => by simpa using hv)) (by simp [Value.oneCell']) (by omega) (by unfold maxLen; omega) (by omega) (by simp; omega) (w2.heap.size + 1 + 1) (by simp) ?_; intro gB capB w4 hownB hgrowB hatB hltB; have hF4 := hide (And.intro (grown_new ((((Fr.refl [] w2).alloc (.cells #[] 35)).alloc (.cells #[.int .i64 c, .int .i64 v0, .int .i64 v1, .int .i64 v2, .int .i64 v3, .int .i64 t] 35)).drew) hgrowB (fun b hb => by (have hb' : w2.heap.size = b := by simpa [Value.ownBlock] using hb); omega)) (at_new (B := w2.heap.size) hatB (fun b hb => by (have hb' : w2.heap.size = b := by simpa [Value.ownBlock] using hb); omega) (by omega))); have hOB := hide hownB; have hg4 := hide (H2.out.1.fr0 hF4.out.1); have c4 := hg4.out.at_ 2 (v := .slice A 0 cc) (by rfl); have f4 := hg4.out.frozen 2; clear hownB hgrowB hatB)
        | (refine step_append_lies _ (by rfl) _ _ _ (by rfl) B 35 i0 _ 6 48 Tryd.underlying44 hi0 hz0 hz1 hz2 rfl (by omega) (.slice (some ⟨w2.heap.size + 1, 0, none⟩) 0 0) 0 [] (by rfl) E.out.2.2 ⟨w2.heap.size, 0, none⟩ 1 1 [.int .i64 c, .int .i64 v0, .int .i64 v1, .int .i64 v2, .int .i64 v3, .int .i64 t] (by rfl) (by rfl) (blk_news (((Blk.new w2 35 #[.int .i64 c, .int .i64 v0, .int .i64 v1, .int .i64 v2, .int .i64 v3, .int .i64 t]).alloc (.cells #[] 35)).drew) 0 (fun j v hv => by simpa using hv)) (by simp [Value.oneCell']) (by omega) (by unfold maxLen; omega) (by omega) (by simp; omega) (w2.heap.size + 1 + 1) (by simp) ?_; intro gB capB w4 hownB hgrowB hatB hltB; have hF4 := hide (And.intro (grown_new ((((Fr.refl [] w2).alloc (.cells #[.int .i64 c, .int .i64 v0, .int .i64 v1, .int .i64 v2, .int .i64 v3, .int .i64 t] 35)).alloc (.cells #[] 35)).drew) hgrowB (fun b hb => by (have hb' : w2.heap.size + 1 = b := by simpa [Value.ownBlock] using hb); omega)) (at_new (B := w2.heap.size) hatB (fun b hb => by (have hb' : w2.heap.size + 1 = b := by simpa [Value.ownBlock] using hb); omega) (by omega))); have hOB := hide hownB; have hg4 := hide (H2.out.1.fr0 hF4.out.1); have c4 := hg4.out.at_ 2 (v := .slice A 0 cc) (by rfl); have f4 := hg4.out.frozen 2; clear hownB hgrowB hatB)))
    all_goals
      have hg5 := hide (hg4.out.set_ 2 (.slice (some ⟨gB, 0, none⟩) (0 + 1) capB))
      have c5 := hg5.out.at_ 2 (v := .slice (some ⟨gB, 0, none⟩) (0 + 1) capB) (by rfl)
      go_wp2_with fail
      go_ret2
      have q := rcpush_end (ps := []) (p := ⟨c, v0, v1, v2, v3, t⟩) (capB := capB) hBg lg H2.out.1 H2.out.2.1 H2.out.2.2.2 hF4.out.1 hF4.out.2 (by simpa [encB] using hOB.out)
      exact ⟨by simp, by simpa using q⟩
  · rcases row_form H2.out.2.1 with ⟨_, h0, _⟩ | ⟨gf, cf, rfl, _, lgf, hcf, hmf⟩
    · exact absurd (List.eq_nil_of_length_eq_zero h0) hr0
    have hr1 : 0 < ps.length := by
      rcases Nat.eq_zero_or_pos ps.length with h | h
      · exact absurd (List.eq_nil_of_length_eq_zero h) hr0
      · exact h
    clear hcf hmf hr0
    go_wp2_with fail
    go_region_law
      ((first
        | (refine step_append_lies _ (by rfl) _ _ _ (by rfl) B 35 i0 _ 6 48 Tryd.underlying44 hi0 hz0 hz1 hz2 rfl (by omega) (.slice (some ⟨w2.heap.size, 0, none⟩) 0 0) 0 [] (by rfl) E.out.1 ⟨gf, 0, none⟩ ps.length cf (ps.flatMap encB) (by rfl) (flat_len encB_len ps) (row_news ((H2.out.2.1.alloc (.cells #[] 35)).drew) 0 (fun j v hv => by simpa using hv)) (encBs_one ps) (by omega) (by unfold maxLen; omega) (by omega) (by simp; omega) (w2.heap.size + 1) (by simp) ?_; intro gA capA w3 hownA hgrowA hatA hltA; have hF3 := hide (And.intro (grown_new (((Fr.refl [] w2).alloc (.cells #[] 35)).drew) hgrowA (fun b hb => by (have hb' : w2.heap.size = b := by simpa [Value.ownBlock] using hb); omega)) (at_new (B := w2.heap.size) hatA (fun b hb => by (have hb' : w2.heap.size = b := by simpa [Value.ownBlock] using hb); omega) (by omega))); have hOA : Hid (w3.ownsRow B 35 6 (.slice (some ⟨gA, 0, none⟩) ps.length capA) ps.length (ps.flatMap encB)) := hide (by simpa using hownA); have x03 := (hF3.out.1.cell (p := ⟨w.heap.size, 0, none⟩) lx (by simp)).trans x0; have x13 := (hF3.out.1.cell (p := ⟨w.heap.size, 1, none⟩) lx (by simp)).trans x1; have x23 := (hF3.out.1.cell (p := ⟨w.heap.size, 2, none⟩) lx (by simp)).trans x2; have x33 := (hF3.out.1.cell (p := ⟨w.heap.size, 3, none⟩) lx (by simp)).trans x3; have x43 := (hF3.out.1.cell (p := ⟨w.heap.size, 4, none⟩) lx (by simp)).trans x4; have x53 := (hF3.out.1.cell (p := ⟨w.heap.size, 5, none⟩) lx (by simp)).trans x5; have lx3 : w.heap.size < w3.heap.size := Nat.lt_of_lt_of_le lx hF3.out.1.size; have c3 := (H2.out.1.fr0 hF3.out.1).at_ 2 (v := .slice (some ⟨gf, 0, none⟩) ps.length cf) (by rfl); have f3 := (H2.out.1.fr0 hF3.out.1).frozen 2; clear hownA hgrowA hatA)
        | (refine step_append_lies _ (by rfl) _ _ _ (by rfl) B 35 i0 _ 6 48 Tryd.underlying44 hi0 hz0 hz1 hz2 rfl (by omega) (.slice (some ⟨w2.heap.size, 0, none⟩) 0 0) 0 [] (by rfl) E.out.2.1 ⟨gf, 0, none⟩ ps.length cf (ps.flatMap encB) (by rfl) (flat_len encB_len ps) (row_news (((H2.out.2.1.alloc (.cells #[] 35)).alloc (.cells #[.int .i64 c, .int .i64 v0, .int .i64 v1, .int .i64 v2, .int .i64 v3, .int .i64 t] 35)).drew) 0 (fun j v hv => by simpa using hv)) (encBs_one ps) (by omega) (by unfold maxLen; omega) (by omega) (by simp; omega) (w2.heap.size + 1 + 1) (by simp) ?_; intro gA capA w3 hownA hgrowA hatA hltA; have hF3 := hide (And.intro (grown_new ((((Fr.refl [] w2).alloc (.cells #[] 35)).alloc (.cells #[.int .i64 c, .int .i64 v0, .int .i64 v1, .int .i64 v2, .int .i64 v3, .int .i64 t] 35)).drew) hgrowA (fun b hb => by (have hb' : w2.heap.size = b := by simpa [Value.ownBlock] using hb); omega)) (at_new (B := w2.heap.size) hatA (fun b hb => by (have hb' : w2.heap.size = b := by simpa [Value.ownBlock] using hb); omega) (by omega))); have hOA : Hid (w3.ownsRow B 35 6 (.slice (some ⟨gA, 0, none⟩) ps.length capA) ps.length (ps.flatMap encB)) := hide (by simpa using hownA); have x03 := (hF3.out.1.cell (p := ⟨w.heap.size, 0, none⟩) lx (by simp)).trans x0; have x13 := (hF3.out.1.cell (p := ⟨w.heap.size, 1, none⟩) lx (by simp)).trans x1; have x23 := (hF3.out.1.cell (p := ⟨w.heap.size, 2, none⟩) lx (by simp)).trans x2; have x33 := (hF3.out.1.cell (p := ⟨w.heap.size, 3, none⟩) lx (by simp)).trans x3; have x43 := (hF3.out.1.cell (p := ⟨w.heap.size, 4, none⟩) lx (by simp)).trans x4; have x53 := (hF3.out.1.cell (p := ⟨w.heap.size, 5, none⟩) lx (by simp)).trans x5; have lx3 : w.heap.size < w3.heap.size := Nat.lt_of_lt_of_le lx hF3.out.1.size; have c3 := (H2.out.1.fr0 hF3.out.1).at_ 2 (v := .slice (some ⟨gf, 0, none⟩) ps.length cf) (by rfl); have f3 := (H2.out.1.fr0 hF3.out.1).frozen 2; have kb := hide (((Blk.new_at (w2.alloc (.cells #[] 35)) 35 #[.int .i64 c, .int .i64 v0, .int .i64 v1, .int .i64 v2, .int .i64 v3, .int .i64 t] (w2.heap.size + 1) (by simp)).drew).grown hgrowA (by simp [Value.ownBlock])); clear hownA hgrowA hatA)
        | (refine step_append_lies _ (by rfl) _ _ _ (by rfl) B 35 i0 _ 6 48 Tryd.underlying44 hi0 hz0 hz1 hz2 rfl (by omega) (.slice (some ⟨w2.heap.size + 1, 0, none⟩) 0 0) 0 [] (by rfl) E.out.2.2 ⟨gf, 0, none⟩ ps.length cf (ps.flatMap encB) (by rfl) (flat_len encB_len ps) (row_news (((H2.out.2.1.alloc (.cells #[.int .i64 c, .int .i64 v0, .int .i64 v1, .int .i64 v2, .int .i64 v3, .int .i64 t] 35)).alloc (.cells #[] 35)).drew) 0 (fun j v hv => by simpa using hv)) (encBs_one ps) (by omega) (by unfold maxLen; omega) (by omega) (by simp; omega) (w2.heap.size + 1 + 1) (by simp) ?_; intro gA capA w3 hownA hgrowA hatA hltA; have hF3 := hide (And.intro (grown_new ((((Fr.refl [] w2).alloc (.cells #[.int .i64 c, .int .i64 v0, .int .i64 v1, .int .i64 v2, .int .i64 v3, .int .i64 t] 35)).alloc (.cells #[] 35)).drew) hgrowA (fun b hb => by (have hb' : w2.heap.size + 1 = b := by simpa [Value.ownBlock] using hb); omega)) (at_new (B := w2.heap.size) hatA (fun b hb => by (have hb' : w2.heap.size + 1 = b := by simpa [Value.ownBlock] using hb); omega) (by omega))); have hOA : Hid (w3.ownsRow B 35 6 (.slice (some ⟨gA, 0, none⟩) ps.length capA) ps.length (ps.flatMap encB)) := hide (by simpa using hownA); have x03 := (hF3.out.1.cell (p := ⟨w.heap.size, 0, none⟩) lx (by simp)).trans x0; have x13 := (hF3.out.1.cell (p := ⟨w.heap.size, 1, none⟩) lx (by simp)).trans x1; have x23 := (hF3.out.1.cell (p := ⟨w.heap.size, 2, none⟩) lx (by simp)).trans x2; have x33 := (hF3.out.1.cell (p := ⟨w.heap.size, 3, none⟩) lx (by simp)).trans x3; have x43 := (hF3.out.1.cell (p := ⟨w.heap.size, 4, none⟩) lx (by simp)).trans x4; have x53 := (hF3.out.1.cell (p := ⟨w.heap.size, 5, none⟩) lx (by simp)).trans x5; have lx3 : w.heap.size < w3.heap.size := Nat.lt_of_lt_of_le lx hF3.out.1.size; have c3 := (H2.out.1.fr0 hF3.out.1).at_ 2 (v := .slice (some ⟨gf, 0, none⟩) ps.length cf) (by rfl); have f3 := (H2.out.1.fr0 hF3.out.1).frozen 2; have kb := hide ((((Blk.new w2 35 #[.int .i64 c, .int .i64 v0, .int .i64 v1, .int .i64 v2, .int .i64 v3, .int .i64 t]).alloc (.cells #[] 35)).drew).grown hgrowA (by simp [Value.ownBlock])); clear hownA hgrowA hatA)
        | (refine step_append_lies _ (by rfl) _ _ _ (by rfl) B 35 i0 _ 6 48 Tryd.underlying44 hi0 hz0 hz1 hz2 rfl (by omega) (.slice (some ⟨gA, 0, none⟩) ps.length capA) ps.length (ps.flatMap encB) (by rfl) (hOA.out.alloc _) ⟨w3.heap.size, 0, none⟩ 1 1 [.int .i64 c, .int .i64 v0, .int .i64 v1, .int .i64 v2, .int .i64 v3, .int .i64 t] (by rfl) (by rfl) (World.news_of_block (cs := #[.int .i64 c, .int .i64 v0, .int .i64 v1, .int .i64 v2, .int .i64 v3, .int .i64 t]) (t := 35) (fr := (0, 0)) (heap_alloc_new w3 _)) (by simp [Value.oneCell']) (by omega) (by unfold maxLen; omega) (by omega) (by have := hF3.out.1.size; simp; omega) (w3.heap.size + 1) (by simp) ?_; intro gB capB w4 hownB hgrowB hatB hltB; have hF4 := hide (And.intro (grown_new (hF3.out.1.alloc (.cells #[.int .i64 c, .int .i64 v0, .int .i64 v1, .int .i64 v2, .int .i64 v3, .int .i64 t] 35)) hgrowB (fun b hb => by (have hb' : gA = b := by simpa [Value.ownBlock] using hb); have := hF3.out.2; omega)) (at_new (B := w2.heap.size) hatB (fun b hb => by (have hb' : gA = b := by simpa [Value.ownBlock] using hb); have := hF3.out.2; omega) (by have := hF3.out.1.size; omega))); have hOB := hide hownB; have hg4 := hide (H2.out.1.fr0 hF4.out.1); have c4 := hg4.out.at_ 2 (v := .slice (some ⟨gf, 0, none⟩) ps.length cf) (by rfl); have f4 := hg4.out.frozen 2; clear hownB hgrowB hatB)
        | (refine step_append_lies _ (by rfl) _ _ _ (by rfl) B 35 i0 _ 6 48 Tryd.underlying44 hi0 hz0 hz1 hz2 rfl (by omega) (.slice (some ⟨gA, 0, none⟩) ps.length capA) ps.length (ps.flatMap encB) (by rfl) hOA.out ⟨(w2.heap.size + 1), 0, none⟩ 1 1 [.int .i64 c, .int .i64 v0, .int .i64 v1, .int .i64 v2, .int .i64 v3, .int .i64 t] (by rfl) (by rfl) (blk_news kb.out 0 (fun j v hv => by simpa using hv)) (by simp [Value.oneCell']) (by omega) (by unfold maxLen; omega) (by omega) (by have := hF3.out.1.size; simp; omega) (w3.heap.size) (by simp) ?_; intro gB capB w4 hownB hgrowB hatB hltB; have hF4 := hide (And.intro (grown_new (hF3.out.1) hgrowB (fun b hb => by (have hb' : gA = b := by simpa [Value.ownBlock] using hb); have := hF3.out.2; omega)) (at_new (B := w2.heap.size) hatB (fun b hb => by (have hb' : gA = b := by simpa [Value.ownBlock] using hb); have := hF3.out.2; omega) (by have := hF3.out.1.size; omega))); have hOB := hide hownB; have hg4 := hide (H2.out.1.fr0 hF4.out.1); have c4 := hg4.out.at_ 2 (v := .slice (some ⟨gf, 0, none⟩) ps.length cf) (by rfl); have f4 := hg4.out.frozen 2; clear hownB hgrowB hatB)
        | (refine step_append_lies _ (by rfl) _ _ _ (by rfl) B 35 i0 _ 6 48 Tryd.underlying44 hi0 hz0 hz1 hz2 rfl (by omega) (.slice (some ⟨gA, 0, none⟩) ps.length capA) ps.length (ps.flatMap encB) (by rfl) hOA.out ⟨w2.heap.size, 0, none⟩ 1 1 [.int .i64 c, .int .i64 v0, .int .i64 v1, .int .i64 v2, .int .i64 v3, .int .i64 t] (by rfl) (by rfl) (blk_news kb.out 0 (fun j v hv => by simpa using hv)) (by simp [Value.oneCell']) (by omega) (by unfold maxLen; omega) (by omega) (by have := hF3.out.1.size; simp; omega) (w3.heap.size) (by simp) ?_; intro gB capB w4 hownB hgrowB hatB hltB; have hF4 := hide (And.intro (grown_new (hF3.out.1) hgrowB (fun b hb => by (have hb' : gA = b := by simpa [Value.ownBlock] using hb); have := hF3.out.2; omega)) (at_new (B := w2.heap.size) hatB (fun b hb => by (have hb' : gA = b := by simpa [Value.ownBlock] using hb); have := hF3.out.2; omega) (by have := hF3.out.1.size; omega))); have hOB := hide hownB; have hg4 := hide (H2.out.1.fr0 hF4.out.1); have c4 := hg4.out.at_ 2 (v := .slice (some ⟨gf, 0, none⟩) ps.length cf) (by rfl); have f4 := hg4.out.frozen 2; clear hownB hgrowB hatB)))
    all_goals
      have hg5 := hide (hg4.out.set_ 2 (.slice (some ⟨gB, 0, none⟩) (ps.length + 1) capB))
      have c5 := hg5.out.at_ 2 (v := .slice (some ⟨gB, 0, none⟩) (ps.length + 1) capB) (by rfl)
      go_wp2_with fail
      go_ret2
      have q := rcpush_end (ps := ps) (p := ⟨c, v0, v1, v2, v3, t⟩) (capB := capB) hBg lg H2.out.1 H2.out.2.1 H2.out.2.2.2 hF4.out.1 hF4.out.2 (by simpa [encB] using hOB.out)
      exact ⟨by simp, by simpa using q⟩

end Go.Proofs.YtgifeligogjfiaaDoor
