/- awake of the statements of layer 1. -/
import Derived.Test.YtmjdnmpiheaidaaDoorTree9
namespace Go.Proofs.YtmjdnmpiheaidaaDoor
open Go.RowKit Go.Extern.Stop Go.Stop Go.Extern
theorem sent_hc {w : World} {ad : Nat → Addr} {k : Nat} (h1 : 1 ≤ k) (h2 : k ≤ 18) : HC w ad (sv (ad k)) ([], k) := ⟨h1, h2, [], .sent⟩
theorem at_hc {w : World} {ad : Nat → Addr} {v : Value} {c : Ch} (h : HC w ad v c) (s : ByteArray) :
    Calls Tryd.prog 17 #[.string s, v] w fun e w' => ∃ b, e = .returned (bv b) ∧ HC w' ad (bv b) (s :: c.1, c.2) ∧ Fr [] w w' := by
  refine (at_ev h.ev s).mono ?_
  rintro e w' ⟨x, rfl, -, hw, hf⟩
  have hw := hw (by simp)
  obtain ⟨b, v0, rfl, -⟩ := id hw
  exact ⟨b, rfl, hw.one, hf⟩
theorem ba_list (a b : ByteArray) : a.toList = b.toList ↔ a = b := ⟨fun h => ByteArray.ext (Array.ext' (by rw [← ByteArray.toList_eq, ← ByteArray.toList_eq]; exact h)), fun h => by rw [h]⟩
theorem eql_leaf (x y : Lf) (W : World) : (binOp .eql 47 (.agg #[.string x.1, .int .i64 x.2]) (.agg #[.string y.1, .int .i64 y.2])).run Tryd.prog W = .ok (.bool (decide (x = y))) W := by
  obtain ⟨a, i⟩ := x
  obtain ⟨b, j⟩ := y
  have hi : ((i : Int) = (j : Int)) ↔ i = j := by omega
  have hb := ba_list a b
  by_cases h1 : a = b <;> by_cases h2 : i = j <;> simp [go_sem, h1, h2, hi, hb]
theorem eql_nil_nil (W : World) : (binOp .eql 26 .nilIface .nilIface).run Tryd.prog W = .ok (.bool true) W := by kernel_rfl
set_option maxRecDepth 100000 in
set_option maxHeartbeats 16000000 in
theorem awake_calls {w : World} {ad : Nat → Addr} (hs : Sents All18 w.heap.size w ad) : Calls Tryd.prog 8 #[] w fun e w' => e = .returned (.bool true) ∧ Fr [] w w' := by
  have H0 := hide hs
  have gl : ∀ k, 1 ≤ k → k ≤ 18 → ∀ W, Fr [] w W → W.cell? ⟨gOf k, 0, none⟩ = some (sv (ad k)) ∧ gOf k < W.heap.size := fun k h1 h2 W hf => ⟨(hs.fr0 hf).cell k (mem_all18 h1 h2), Nat.lt_of_lt_of_le (hs.glob k (mem_all18 h1 h2)) (hs.fr0 hf).le⟩
  have G := hide gl
  have g18 : w.cell? ⟨17, 0, none⟩ = some (sv (ad 18)) := (gl 18 (by omega) (by omega) w (Fr.refl _ _)).1
  have l18 : 17 < w.heap.size := (gl 18 (by omega) (by omega) w (Fr.refl _ _)).2
  have g10 : w.cell? ⟨9, 0, none⟩ = some (sv (ad 10)) := (gl 10 (by omega) (by omega) w (Fr.refl _ _)).1
  have l10 : 9 < w.heap.size := (gl 10 (by omega) (by omega) w (Fr.refl _ _)).2
  clear hs gl
  go_enter Tryd.func8, Tryd.ntmps8
  go_wp2_with fail
  go_region_law (first
    | (have _ := H3; refine step_open (by rfl) ?_; go_wp2_with fail; go_at_call 19; refine (all_ev (css := [[([⟨#[97]⟩], 18)], [], [([⟨#[98]⟩, ⟨#[99]⟩], 10)]]) (vs := [bv b1, .nilIface, bv b3]) (row_mk (Blk.new w3 _ _) (Nat.le_refl _) (Nat.le_refl _) (by simp [maxLen]) rfl rfl) (EL.app (EL.one (H3.out.1.fr0 ((Fr.refl [] w3).alloc _)).ev) (EL.app (EL.one (.inl ⟨rfl, rfl⟩)) (EL.one (H3.out.2.1.fr0 ((Fr.refl [] w3).alloc _)).ev))) (by simp) (by simp)).mono ?_; rintro e w4 ⟨x, rfl, hx, hf4⟩; have H4 := hide (And.intro (show EV w4 ad x [([⟨#[97]⟩], 18), ([⟨#[98]⟩, ⟨#[99]⟩], 10)] from hx) ((H3.out.2.2.alloc _).trans hf4)); clear hx hf4 H3; go_wp2_with fail)
    | (have _ := H2; refine step_open (by rfl) ?_; go_wp2_with fail; go_at_call 17; refine (at_hc H2.out.2.1 ⟨#[98]⟩).mono ?_; rintro e w3 ⟨b3, rfl, hc3, hf3⟩; have H3 := hide (And.intro (H2.out.1.fr0 hf3) (And.intro hc3 (H2.out.2.2.trans hf3))); clear hc3 hf3; go_wp2_with fail)
    | (have _ := H1; refine step_open (by rfl) ?_; go_wp2_with fail; go_at_call 17; refine (at_hc (sent_hc (w := w1) (ad := ad) (k := 10) (by omega) (by omega)) ⟨#[99]⟩).mono ?_; rintro e w2 ⟨b2, rfl, hc2, hf2⟩; have H2 := hide (And.intro (H1.out.1.fr0 hf2) (And.intro hc2 (H1.out.2.trans hf2))); clear hc2 hf2; go_wp2_with fail)
    | (refine step_open (by rfl) ?_; go_wp2_with fail; go_at_call 17; refine (at_hc (sent_hc (w := w.drew) (ad := ad) (k := 18) (by omega) (by omega)) ⟨#[97]⟩).mono ?_; rintro e w1 ⟨b1, rfl, hc1, hf1⟩; have H1 := hide (And.intro hc1 ((Fr.refl [] w).drew.trans hf1)); have g10' : w1.cell? ⟨9, 0, none⟩ = some (sv (ad 10)) := (G.out 10 (by omega) (by omega) w1 H1.out.2).1; clear hc1 hf1; go_wp2_with fail))
  all_goals
    obtain ⟨-, t, a, rfl⟩ := (H4.out.1.form).resolve_left (fun h => by cases h.2)
    go_wp2_with fail
    refine (H4.out.1.leaves (H0.out.fr0 H4.out.2) (by simp) (by intro c hc; simp only [List.mem_cons, List.not_mem_nil, or_false] at hc; rcases hc with rfl | rfl <;> exact ⟨by simp, by decide⟩)).mono ?_
    rintro e w5 ⟨v5, rfl, hr, hf⟩
    have j1 : lf ([⟨#[97]⟩], 18) = (⟨#[97]⟩, 18) := by kernel_rfl
    have j2 : lf ([⟨#[98]⟩, ⟨#[99]⟩], 10) = (⟨#[98, 47, 99]⟩, 10) := by kernel_rfl
    rw [List.map_cons, List.map_cons, List.map_nil, j1, j2] at hr
    change w5.ownsRow w4.heap.size 47 2 v5 2 [.string ⟨#[97]⟩, .int .i64 18, .string ⟨#[98, 47, 99]⟩, .int .i64 10] at hr
    rcases row_form hr with ⟨_, h0, _⟩ | ⟨g5, c5, rfl, _, lg, _, _⟩
    · cases h0
    have H5 := hide (And.intro hr (H4.out.2.trans hf))
    have HE := hide (fun W (hf' : Fr [] w5 W) => (H4.out.1.fr0 hf).fr0 hf')
    have HN := hide (number_ev (H0.out.fr0 H5.out.2) (HE.out w5 (Fr.refl _ _)) (by simp) (k := 10) (.inr ⟨by simp, by omega, by omega, by simp⟩))
    have hq1 := eql_leaf (⟨#[97]⟩, 18) (⟨#[97]⟩, 18)
    have hq2 := eql_leaf (⟨#[98, 47, 99]⟩, 10) (⟨#[98, 47, 99]⟩, 10)
    rw [decide_eq_true rfl] at hq1 hq2
    clear hr hf j1 j2
    go_wp2_with fail
    refine HN.out.mono ?_
    rintro e w6 ⟨rfl, hf⟩
    have hr6 := row_fr H5.out.1 hf (by simp)
    have r0 := row_cell hr6 (i := 0) rfl
    have r1 := row_cell hr6 (i := 1) rfl
    have r2 := row_cell hr6 (i := 2) rfl
    have r3 := row_cell hr6 (i := 3) rfl
    have lg6 := Nat.lt_of_lt_of_le lg hf.size
    have H6 := hide (And.intro hf (H5.out.2.trans hf))
    have q18 : w6.cell? ⟨17, 0, none⟩ = some (sv (ad 18)) := (G.out 18 (by omega) (by omega) w6 H6.out.2).1
    have q18l : 17 < w6.heap.size := (G.out 18 (by omega) (by omega) w6 H6.out.2).2
    have HI := hide (is_ev (H0.out.fr0 H6.out.2) (j := 18) (mem_all18 (by omega) (by omega)) (HE.out w6 H6.out.1) (by simp))
    clear hf hr6
    go_wp2_with fail
    refine HI.out.mono ?_
    rintro e w7 ⟨rfl, hf⟩
    rw [decide_eq_true (by simp)]
    have H7 := hide (And.intro (H6.out.1.trans hf) (H6.out.2.trans hf))
    have q1 : w7.cell? ⟨0, 0, none⟩ = some (sv (ad 1)) := (G.out 1 (by omega) (by omega) w7 H7.out.2).1
    have q1l : 0 < w7.heap.size := (G.out 1 (by omega) (by omega) w7 H7.out.2).2
    have HI1 := hide (is_ev (H0.out.fr0 H7.out.2) (j := 1) (mem_all18 (by omega) (by omega)) (HE.out w7 H7.out.1) (by simp))
    clear hf r0 r1 r2 r3 HI q18 q18l
    go_wp2_with fail
    refine HI1.out.mono ?_
    rintro e w8 ⟨rfl, hf⟩
    rw [decide_eq_false (by simp)]
    have H8 := hide (H7.out.2.trans hf)
    have HA := hide (all_ev (w := w8.alloc (.cells #[.nilIface, .nilIface] 26)) (ad := ad) (css := [[], []]) (vs := [.nilIface, .nilIface]) (row_mk (Blk.new w8 _ _) (Nat.le_refl _) (Nat.le_refl _) (by simp [maxLen]) rfl rfl) (EL.app (EL.one (.inl ⟨rfl, rfl⟩)) (EL.one (.inl ⟨rfl, rfl⟩))) (by simp) (by simp))
    clear hf q1 q1l HI1
    go_wp2_with fail
    refine HA.out.mono ?_
    rintro e w9 ⟨x9, rfl, hx9, hf⟩
    obtain ⟨rfl, -⟩ := hx9.form.resolve_right (fun h => h.1 rfl)
    have H9 := hide ((H8.out.alloc (.cells #[.nilIface, .nilIface] 26)).trans hf)
    have hn := eql_nil_nil
    clear hx9 hf HA
    go_wp2_with fail
    refine (at_ev (w := w9) (ad := ad) (v := .nilIface) (cs := []) (.inl ⟨rfl, rfl⟩) ⟨#[120]⟩).mono ?_
    rintro e w10 ⟨x10, rfl, hx10, -, hf⟩
    obtain rfl := hx10 rfl
    have H10 := hide (H9.out.trans hf)
    clear hx10 hf
    go_wp2_with fail
    go_ret
    exact ⟨rfl, H10.out⟩
end Go.Proofs.YtmjdnmpiheaidaaDoor
