/- Package pasodobleref07 by contracts: Set. -/
import Derived.Test.YtgifeligogjfiaaDoorRC3
namespace Go.Proofs.YtgifeligogjfiaaDoor
open Go.RowKit

theorem zero_frame (w : World) : Fr [] w (w.alloc (.cells #[.int .i64 0, .int .i64 0, .int .i64 0, .int .i64 0, .int .i64 0, .int .i64 0] 35)) := by (repeat (first | exact Fr.refl _ _ | apply Fr.drew | apply Fr.drewN | apply Fr.alloc | (refine Fr.setCell ?_ (by first | (left; simp [Value.ownBlock]; done) | (right; simp; omega) | (right; simp; done)) _)))

set_option maxRecDepth 100000 in
set_option maxHeartbeats 2000000 in
theorem rcset_none {B : Nat} {w : World} {g : Nat} {comp : Int} {k : Nat} {ps : List Pt} {S : List Nat} (h : RefC B w g comp k ps S) (hl : ps.length ≤ 1000000) (n : Int) (hn : n < 0 ∨ (ps.length : Int) ≤ n) (j v fr : Int) :
    Calls Tryd.prog 19 #[.pointer (some ⟨g, 0, none⟩), .int .i64 n, .int .i64 j, .int .i64 v, .int .i64 fr] w fun e w' => e = .returned (.tuple #[encP zP, .int .i64 7]) ∧ Fr [] w w' := by
  have Hh := hide (rchas (h.fr0 (zero_frame w)) hl n)
  rw [show decide (0 ≤ n ∧ n < (ps.length : Int)) = false from by simp; omega] at Hh
  clear h
  go_enter Tryd.func19, Tryd.ntmps19
  go_wp2_with fail
  refine Hh.out.mono ?_
  rintro e w1 ⟨rfl, rfl⟩
  go_wp2_with fail
  refine bodyPost_ret (v := .tuple #[encP zP, .int .i64 7]) (by simp [results, Tryd.results19, go_sem, boxP, zP]) rfl ⟨rfl, ?_⟩
  (repeat (first | exact Fr.refl _ _ | apply Fr.drew | apply Fr.drewN | apply Fr.alloc | (refine Fr.setCell ?_ (by first | (left; simp [Value.ownBlock]; done) | (right; simp; omega) | (right; simp; done)) _)))

set_option maxRecDepth 100000 in
set_option maxHeartbeats 2000000 in
theorem rcset_arg {B : Nat} {w : World} {g : Nat} {comp : Int} {k : Nat} {ps : List Pt} {S : List Nat} (h : RefC B w g comp k ps S) (hl : ps.length ≤ 1000000) {n : Nat} (hn : n < ps.length) (j v fr : Int) (hj : j < 0 ∨ (k : Int) ≤ j) :
    Calls Tryd.prog 19 #[.pointer (some ⟨g, 0, none⟩), .int .i64 n, .int .i64 j, .int .i64 v, .int .i64 fr] w fun e w' => e = .returned (.tuple #[encP zP, .int .i64 1]) ∧ Fr [] w w' := by
  have Hh := hide (rchas (h.fr0 (zero_frame w)) hl n)
  rw [show decide (0 ≤ (n : Int) ∧ (n : Int) < (ps.length : Int)) = true from by simp; omega] at Hh
  obtain ⟨A, c, hg, -, -⟩ := h.form
  have lg := hg.lt
  have c1 := hg.at_ 1 (v := .int .i64 k) (by rfl)
  have n1 := World.new_ne w _ c1
  clear h hg
  by_cases hj1 : j < 0
  all_goals
    try have hj2 : (k : Int) ≤ j := by omega
    clear hj
    go_enter Tryd.func19, Tryd.ntmps19
    go_wp2_with fail
    refine Hh.out.mono ?_
    rintro e w1 ⟨rfl, rfl⟩
    go_wp2_with fail
    refine bodyPost_ret (v := .tuple #[encP zP, .int .i64 1]) (by simp [results, Tryd.results19, go_sem, boxP, zP]) rfl ⟨rfl, ?_⟩
    (repeat (first | exact Fr.refl _ _ | apply Fr.drew | apply Fr.drewN | apply Fr.alloc | (refine Fr.setCell ?_ (by first | (left; simp [Value.ownBlock]; done) | (right; simp; omega) | (right; simp; done)) _)))

set_option maxRecDepth 100000 in
set_option maxHeartbeats 4000000 in
theorem rcset_ok {B : Nat} {w : World} {g : Nat} {comp : Int} {k : Nat} {ps : List Pt} {S : List Nat} (h : RefC B w g comp k ps S) (hB : B ≤ w.heap.size) (h2 : 1 ≤ k) (h3 : k ≤ 4) (hl : ps.length ≤ 1000000) {n : Nat} {p : Pt} (hp : ps[n]? = some p) (hfit : Fits comp k p) {j : Nat} (hj : j < k) (v fr : Int) :
    Calls Tryd.prog 19 #[.pointer (some ⟨g, 0, none⟩), .int .i64 n, .int .i64 j, .int .i64 v, .int .i64 fr] w fun e w' => e = .returned (.tuple #[encP p, .int .i64 0]) ∧ ∃ S', RefC B w' g comp k (ps.set n (setP p j v fr)) S' ∧ Stp S S' w w' := by
  have hn : n < ps.length := (List.getElem?_eq_some_iff.1 hp).1
  have Hh := hide (rchas (h.fr0 (zero_frame w)) hl n)
  rw [show decide (0 ≤ (n : Int) ∧ (n : Int) < (ps.length : Int)) = true from by simp; omega] at Hh
  have Hq := hide (setP_fits hfit hj v fr)
  have hS := h.lt
  have H := hide (And.intro h (And.intro hp hS))
  obtain ⟨A, c, hg, hr, -⟩ := h.form
  rcases row_form hr with ⟨_, h0, _⟩ | ⟨gf, cf, e, _, lgf, _⟩
  · omega
  rw [e] at hg hr
  clear e
  have lg := hg.lt
  have c1 := hg.at_ 1 (v := .int .i64 k) (by rfl)
  have c2 := hg.at_ 2 (v := .slice (some ⟨gf, 0, none⟩) ps.length cf) (by rfl)
  obtain ⟨pc, u0, u1, u2, u3, pt⟩ := p
  have k0 := row_cell hr (i := n * 6 + 0) (u := .int .i64 pc) (by rw [encB_get hp 0 (by omega)]; rfl)
  have k1 := row_cell hr (i := n * 6 + 1) (u := .int .i64 u0) (by rw [encB_get hp 1 (by omega)]; rfl)
  have k2 := row_cell hr (i := n * 6 + 2) (u := .int .i64 u1) (by rw [encB_get hp 2 (by omega)]; rfl)
  have k3 := row_cell hr (i := n * 6 + 3) (u := .int .i64 u2) (by rw [encB_get hp 3 (by omega)]; rfl)
  have k4 := row_cell hr (i := n * 6 + 4) (u := .int .i64 u3) (by rw [encB_get hp 4 (by omega)]; rfl)
  have k5 := row_cell hr (i := n * 6 + 5) (u := .int .i64 pt) (by rw [encB_get hp 5 (by omega)]; rfl)
  rw [Nat.add_zero] at k0
  have i0 : (0 : Int) ≤ (n : Int) := by omega
  have i1 : (n : Int) < (ps.length : Int) := by omega
  have n1 := World.new_ne w _ c1
  have n2 : w.heap.size ≠ gf := by omega
  have n2' := n2.symm
  clear hg hr h hp hfit hS
  obtain hjj | hjj | hjj | hjj : j = 0 ∨ j = 1 ∨ j = 2 ∨ j = 3 := by omega
  all_goals
    subst hjj
    simp only [Int.cast_ofNat_Int]
    have kk : (k : Int) ≤ 4 := by omega
    have k0' : (0 : Int) < (k : Int) := by omega
    try have k1' : (1 : Int) < (k : Int) := by omega
    try have k2' : (2 : Int) < (k : Int) := by omega
    try have k3' : (3 : Int) < (k : Int) := by omega
    go_enter Tryd.func19, Tryd.ntmps19
    go_wp2_with fail
    refine Hh.out.mono ?_
    rintro e w1 ⟨rfl, rfl⟩
    go_wp2_with fail
    obtain ⟨h, hp, hS⟩ := H.out
    refine (rcput_ok ((h.fr0 (zero_frame w)).alloc _) (by simp; omega) h2 h3 hl hp _ Hq.out).mono ?_
    rintro e w2 ⟨rfl, S', hr, hst⟩
    simp only [encP, boxP]
    have hzn : w.heap.size ∉ S := fun hm => by have := (hS _ hm).1; omega
    have hz2 := ((zero6 w).alloc _).fr hst.1 hzn
    have hzn' : w.heap.size ∉ S' := fun hm => (hst.2 _ hm).elim hzn fun hge => by simp at hge; omega
    have hF2 : Fr S w w2 := (((zero_frame w).any S).trans (((Fr.refl S _).alloc _))).trans hst.1
    have hSn : ∀ b ∈ S', b ∈ S ∨ w.heap.size ≤ b := fun b hb => (hst.2 b hb).elim .inl fun hge => .inr (by simp at hge; omega)
    obtain ⟨r0, r1, r2, r3, r4, r5⟩ := blk6 hz2
    have fz := hz2.frozen
    have lz := hz2.lt
    have H2 := hide (And.intro hr (And.intro hz2 (And.intro hzn' (And.intro hF2 hSn))))
    clear hr hst hzn hz2 hzn' hF2 hSn h hp hS
    go_wp2_with fail
    obtain ⟨hr, hz2, hzn', hF2, hSn⟩ := H2.out
    have hst := Fr.set6in (Fr.refl [w.heap.size] w2) (g := w.heap.size) (by simp) (.int .i64 pc) (.int .i64 u0) (.int .i64 u1) (.int .i64 u2) (.int .i64 u3) (.int .i64 pt)
    have hz := hz2.set6 (.int .i64 pc) (.int .i64 u0) (.int .i64 u1) (.int .i64 u2) (.int .i64 u3) (.int .i64 pt)
    have H9 := hide (And.intro (hr.fr hst (fun b hb hm => by rw [List.mem_singleton] at hm; subst hm; exact hzn' hb)) (And.intro (hF2.step hst (by simp)) hSn))
    clear hr hz2 hzn' hF2 hSn hst H2 r0 r1 r2 r3 r4 r5 fz lz
    generalize World.setCell _ _ _ = w9 at H9 hz ⊢
    obtain ⟨z0, z1, z2, z3, z4, z5⟩ := blk6 hz
    exact bodyPost_ret (v := .tuple #[.agg #[.int .i64 pc, .int .i64 u0, .int .i64 u1, .int .i64 u2, .int .i64 u3, .int .i64 pt], .int .i64 0]) (by simp [results, Tryd.results19, go_sem, z0, z1, z2, z3, z4, z5]) rfl ⟨rfl, S', H9.out.1, H9.out.2.1, H9.out.2.2⟩
end Go.Proofs.YtgifeligogjfiaaDoor
