/- Package pasodobleref07 by contracts: Put, Set. -/
import Derived.Test.YtgifeligogjfiaaDoorRC2
import Derived.Deep.RegionHeld3
namespace Go.Proofs.YtgifeligogjfiaaDoor
open Go.RowKit

theorem row_set6 {w : World} {B g n cap i : Nat} {ps : List Pt} {p q : Pt} (h : w.ownsRow B 35 6 (.slice (some ⟨g, 0, none⟩) n cap) n (ps.flatMap encB)) (hn : ps.length = n) (hp : ps[i]? = some p) :
    ((((((w.setCell ⟨g, i * 6, none⟩ (.int .i64 q.c)).setCell ⟨g, i * 6 + 1, none⟩ (.int .i64 q.v0)).setCell ⟨g, i * 6 + 2, none⟩ (.int .i64 q.v1)).setCell ⟨g, i * 6 + 3, none⟩ (.int .i64 q.v2)).setCell ⟨g, i * 6 + 4, none⟩ (.int .i64 q.v3)).setCell ⟨g, i * 6 + 5, none⟩ (.int .i64 q.t)).ownsRow B 35 6 (.slice (some ⟨g, 0, none⟩) n cap) n ((ps.set i q).flatMap encB) := by
  have hi : i < ps.length := (List.getElem?_eq_some_iff.1 hp).1
  have h0 := row_store h (i * 6 + 0) (by omega) (.int .i64 q.c)
  rw [flat_set encB_len hp 0 (by omega) (.int .i64 q.c) (x' := ⟨q.c, p.v0, p.v1, p.v2, p.v3, p.t⟩) rfl] at h0
  have h1 := row_store h0 (i * 6 + 1) (by omega) (.int .i64 q.v0)
  rw [flat_set encB_len (x := ⟨q.c, p.v0, p.v1, p.v2, p.v3, p.t⟩) (by simp [hi]) 1 (by omega) (.int .i64 q.v0) (x' := ⟨q.c, q.v0, p.v1, p.v2, p.v3, p.t⟩) rfl, List.set_set] at h1
  have h2 := row_store h1 (i * 6 + 2) (by omega) (.int .i64 q.v1)
  rw [flat_set encB_len (x := ⟨q.c, q.v0, p.v1, p.v2, p.v3, p.t⟩) (by simp [hi]) 2 (by omega) (.int .i64 q.v1) (x' := ⟨q.c, q.v0, q.v1, p.v2, p.v3, p.t⟩) rfl, List.set_set] at h2
  have h3 := row_store h2 (i * 6 + 3) (by omega) (.int .i64 q.v2)
  rw [flat_set encB_len (x := ⟨q.c, q.v0, q.v1, p.v2, p.v3, p.t⟩) (by simp [hi]) 3 (by omega) (.int .i64 q.v2) (x' := ⟨q.c, q.v0, q.v1, q.v2, p.v3, p.t⟩) rfl, List.set_set] at h3
  have h4 := row_store h3 (i * 6 + 4) (by omega) (.int .i64 q.v3)
  rw [flat_set encB_len (x := ⟨q.c, q.v0, q.v1, q.v2, p.v3, p.t⟩) (by simp [hi]) 4 (by omega) (.int .i64 q.v3) (x' := ⟨q.c, q.v0, q.v1, q.v2, q.v3, p.t⟩) rfl, List.set_set] at h4
  have h5 := row_store h4 (i * 6 + 5) (by omega) (.int .i64 q.t)
  rw [flat_set encB_len (x := ⟨q.c, q.v0, q.v1, q.v2, q.v3, p.t⟩) (by simp [hi]) 5 (by omega) (.int .i64 q.t) (x' := q) rfl, List.set_set] at h5
  simpa using h5
theorem fr_set6r {w w' : World} {S : List Nat} {g i : Nat} (h : Fr S w w') (hg : g ∈ S ∨ w.heap.size ≤ g) (a b c d e f : Value) :
    Fr S w ((((((w'.setCell ⟨g, i * 6, none⟩ a).setCell ⟨g, i * 6 + 1, none⟩ b).setCell ⟨g, i * 6 + 2, none⟩ c).setCell ⟨g, i * 6 + 3, none⟩ d).setCell ⟨g, i * 6 + 4, none⟩ e).setCell ⟨g, i * 6 + 5, none⟩ f) :=
  (((((h.setCell (p := ⟨g, i * 6, none⟩) hg a).setCell (p := ⟨g, i * 6 + 1, none⟩) hg b).setCell (p := ⟨g, i * 6 + 2, none⟩) hg c).setCell (p := ⟨g, i * 6 + 3, none⟩) hg d).setCell (p := ⟨g, i * 6 + 4, none⟩) hg e).setCell (p := ⟨g, i * 6 + 5, none⟩) hg f

set_option maxRecDepth 100000 in
set_option maxHeartbeats 2000000 in
theorem rcput_none {B : Nat} {w : World} {g : Nat} {comp : Int} {k : Nat} {ps : List Pt} {S : List Nat} (h : RefC B w g comp k ps S) (hl : ps.length ≤ 1000000) (n : Int) (hn : n < 0 ∨ (ps.length : Int) ≤ n) (q : Pt) :
    Calls Tryd.prog 20 #[.pointer (some ⟨g, 0, none⟩), .int .i64 n, encP q] w fun e w' => e = .returned (.tuple #[encP zP, .int .i64 7]) ∧ Fr [] w w' := by
  have Hh := hide (rchas (h.fr0 (put_frame w q)) hl n)
  rw [show decide (0 ≤ n ∧ n < (ps.length : Int)) = false from by simp; omega] at Hh
  clear h
  obtain ⟨c, v0, v1, v2, v3, t⟩ := q
  simp only [encP, boxP] at Hh ⊢
  go_enter Tryd.func20, Tryd.ntmps20
  go_wp2_with fail
  refine Hh.out.mono ?_
  rintro e w1 ⟨rfl, rfl⟩
  go_wp2_with fail
  refine bodyPost_ret (v := .tuple #[.agg #[.int .i64 0, .int .i64 0, .int .i64 0, .int .i64 0, .int .i64 0, .int .i64 0], .int .i64 7]) (by simp [results, Tryd.results20, go_sem]) rfl ⟨by simp [zP], ?_⟩
  (repeat (first | exact Fr.refl _ _ | apply Fr.drew | apply Fr.drewN | apply Fr.alloc | (refine Fr.setCell ?_ (by first | (left; simp [Value.ownBlock]; done) | (right; simp; omega) | (right; simp; done)) _)))

set_option maxRecDepth 100000 in
set_option maxHeartbeats 2000000 in
theorem rcput_arg {B : Nat} {w : World} {g : Nat} {comp : Int} {k : Nat} {ps : List Pt} {S : List Nat} (h : RefC B w g comp k ps S) (h2 : 1 ≤ k) (h3 : k ≤ 4) (hl : ps.length ≤ 1000000) {n : Nat} (hn : n < ps.length) (q : Pt) (hq : ¬ Fits comp k q) :
    Calls Tryd.prog 20 #[.pointer (some ⟨g, 0, none⟩), .int .i64 n, encP q] w fun e w' => e = .returned (.tuple #[encP zP, .int .i64 1]) ∧ Fr [] w w' := by
  have Hh := hide (rchas (h.fr0 (put_frame w q)) hl n)
  rw [show decide (0 ≤ (n : Int) ∧ (n : Int) < (ps.length : Int)) = true from by simp; omega] at Hh
  have Hf := hide (rcfits (h.fr0 (put_frame w q)) h2 h3 q)
  rw [decide_eq_false hq] at Hf
  have Hz := hide (And.intro (put_zero w q) (put_frame w q))
  clear h hq
  obtain ⟨c, v0, v1, v2, v3, t⟩ := q
  simp only [encP, boxP] at Hh Hf Hz ⊢
  go_enter Tryd.func20, Tryd.ntmps20
  go_wp2_with fail
  refine Hh.out.mono ?_
  rintro e w1 ⟨rfl, rfl⟩
  go_wp2_with fail
  refine Hf.out.mono ?_
  rintro e w2 ⟨rfl, hf⟩
  have hb := Hz.out.1.fr0 hf
  obtain ⟨r0, r1, r2, r3, r4, r5⟩ := blk6 hb
  have fz := hb.frozen
  have lz := hb.lt
  have Hn := hide (And.intro (Hz.out.2.trans hf) (Blk.set6 hb (.int .i64 0) (.int .i64 0) (.int .i64 0) (.int .i64 0) (.int .i64 0) (.int .i64 0)))
  clear hb hf Hz Hf
  go_wp2_with fail
  obtain ⟨hf, hz⟩ := Hn.out
  have Hfz := hide (hf.set6 (g := w.heap.size + 1) (by omega) (.int .i64 0) (.int .i64 0) (.int .i64 0) (.int .i64 0) (.int .i64 0) (.int .i64 0))
  clear r0 r1 r2 r3 r4 r5 fz lz Hn hf
  generalize World.setCell _ _ _ = w9 at hz Hfz ⊢
  obtain ⟨z0, z1, z2, z3, z4, z5⟩ := blk6 hz
  refine bodyPost_ret (v := .tuple #[.agg #[.int .i64 0, .int .i64 0, .int .i64 0, .int .i64 0, .int .i64 0, .int .i64 0], .int .i64 1]) (by simp [results, Tryd.results20, go_sem, z0, z1, z2, z3, z4, z5]) rfl ⟨by simp [zP], Hfz.out⟩

set_option maxRecDepth 100000 in
set_option maxHeartbeats 4000000 in
theorem rcput_ok {B : Nat} {w : World} {g : Nat} {comp : Int} {k : Nat} {ps : List Pt} {S : List Nat} (h : RefC B w g comp k ps S) (hB : B ≤ w.heap.size) (h2 : 1 ≤ k) (h3 : k ≤ 4) (hl : ps.length ≤ 1000000) {n : Nat} {p : Pt} (hp : ps[n]? = some p) (q : Pt) (hq : Fits comp k q) :
    Calls Tryd.prog 20 #[.pointer (some ⟨g, 0, none⟩), .int .i64 n, encP q] w fun e w' => e = .returned (.tuple #[encP p, .int .i64 0]) ∧ ∃ S', RefC B w' g comp k (ps.set n q) S' ∧ Stp S S' w w' := by
  have hn : n < ps.length := (List.getElem?_eq_some_iff.1 hp).1
  obtain ⟨i0, hi0, hz0, hz1, hz2⟩ := info_parts infoPart
  have Hh := hide (rchas (h.fr0 (put_frame w q)) hl n)
  rw [show decide (0 ≤ (n : Int) ∧ (n : Int) < (ps.length : Int)) = true from by simp; omega] at Hh
  have Hf := hide (rcfits (h.fr0 (put_frame w q)) h2 h3 q)
  rw [decide_eq_true hq] at Hf
  have Hz := hide (And.intro (put_zero w q) (And.intro (put_frame w q) (And.intro ((Blk.new w 35 (boxP q)).alloc (.cells #[.int .i64 0, .int .i64 0, .int .i64 0, .int .i64 0, .int .i64 0, .int .i64 0] 35)) (And.intro h hp))))
  clear h hq hp
  obtain ⟨c, v0, v1, v2, v3, t⟩ := q
  obtain ⟨pc, u0, u1, u2, u3, pt⟩ := p
  simp only [encP, boxP] at Hh Hf Hz ⊢
  go_enter Tryd.func20, Tryd.ntmps20
  go_wp2_with fail
  refine Hh.out.mono ?_
  rintro e w1 ⟨rfl, rfl⟩
  go_wp2_with fail
  refine Hf.out.mono ?_
  rintro e w2 ⟨rfl, hf⟩
  obtain ⟨hz, hf0, hx, h, hp⟩ := Hz.out
  have hfw := hf0.trans hf
  have hx2 := hx.fr0 hf
  have hz2' := hz.fr0 hf
  obtain ⟨vL, hBg, hg, hr, rfl⟩ := h.fr0 hfw
  rcases row_form hr with ⟨_, h0, _⟩ | ⟨gf, cf, rfl, _, lgf, hcf, hmf⟩
  · omega
  have lg := hg.lt
  have c2 := hg.at_ 2 (v := .slice (some ⟨gf, 0, none⟩) ps.length cf) (by rfl)
  have fg := hg.frozen
  have k0 := row_cell hr (i := n * 6 + 0) (u := .int .i64 pc) (by rw [encB_get hp 0 (by omega)]; rfl)
  have k1 := row_cell hr (i := n * 6 + 1) (u := .int .i64 u0) (by rw [encB_get hp 1 (by omega)]; rfl)
  have k2 := row_cell hr (i := n * 6 + 2) (u := .int .i64 u1) (by rw [encB_get hp 2 (by omega)]; rfl)
  have k3 := row_cell hr (i := n * 6 + 3) (u := .int .i64 u2) (by rw [encB_get hp 3 (by omega)]; rfl)
  have k4 := row_cell hr (i := n * 6 + 4) (u := .int .i64 u3) (by rw [encB_get hp 4 (by omega)]; rfl)
  have k5 := row_cell hr (i := n * 6 + 5) (u := .int .i64 pt) (by rw [encB_get hp 5 (by omega)]; rfl)
  rw [Nat.add_zero] at k0
  have j0 : (0 : Int) ≤ (n : Int) := by omega
  have j1 : (n : Int) < (ps.length : Int) := by omega
  have hB2 : B ≤ w2.heap.size := Nat.le_trans hB hfw.size
  have n1 := World.new_ne w2 _ c2
  have n2 : w2.heap.size ≠ gf := by omega
  have ws := hfw.size
  have lz := hz2'.lt
  have H2 := hide (And.intro hg (And.intro hr (And.intro hx2 (And.intro hz2' (And.intro hfw hp)))))
  have e0 : ((w2.alloc (.cells #[.int .i64 pc, .int .i64 u0, .int .i64 u1, .int .i64 u2, .int .i64 u3, .int .i64 pt] 35)).alloc (.cells #[] 35)).ownsRow B 35 6 (.slice (some ⟨w2.heap.size + 1, 0, none⟩) 0 0) 0 [] := row_mk (Blk.new_at _ 35 #[] _ (by simp)) (by omega) (Nat.le_refl _) (by simp [maxLen]) rfl rfl
  have E := hide e0
  clear hz hf0 hx h hp hfw hx2 hz2' hg hr hf Hf Hh Hz hcf hmf e0
  go_wp2_with (at_builtin; refine wpList_append_lies _ rfl _ _ _ rfl B 35 i0 _ 6 48 Tryd.underlying44 hi0 hz0 hz1 hz2 rfl (by omega) (.slice (some ⟨w2.heap.size + 1, 0, none⟩) 0 0) 0 [] rfl E.out ⟨gf, 0, none⟩ ps.length cf (ps.flatMap encB) rfl (flat_len encB_len ps) (row_news ((H2.out.2.1.alloc _).alloc _) 0 (fun j v hv => by simpa using hv)) (encBs_one ps) (by omega) (by unfold maxLen; omega) (by omega) (by simp; omega) (w2.heap.size + 1 + 1) (by simp) ?_; intro gA capA w3 hownA hgrowA hatA hltA; have hF3 := hide (And.intro (grown_new (((Fr.refl [] w2).alloc (.cells #[.int .i64 pc, .int .i64 u0, .int .i64 u1, .int .i64 u2, .int .i64 u3, .int .i64 pt] 35)).alloc (.cells #[] 35)) hgrowA (fun b hb => by (have hb' : w2.heap.size + 1 = b := by simpa [Value.ownBlock] using hb); omega)) (at_new (B := w2.heap.size + 1) hatA (fun b hb => by (have hb' : w2.heap.size + 1 = b := by simpa [Value.ownBlock] using hb); omega) (by omega))); have hbw := hide (((Blk.new w2 35 #[.int .i64 pc, .int .i64 u0, .int .i64 u1, .int .i64 u2, .int .i64 u3, .int .i64 pt]).alloc (.cells #[] 35)).grown hgrowA (by simp [Value.ownBlock])); have hOA := hide hownA; have c3 := (H2.out.1.fr0 hF3.out.1).at_ 2 (v := .slice (some ⟨gf, 0, none⟩) ps.length cf) (by rfl); have f3 := (H2.out.1.fr0 hF3.out.1).frozen 2; clear hownA hgrowA hatA)
  obtain ⟨hg, hr, hx, hz, hfw, hp⟩ := H2.out
  have hgA := hF3.out.2
  have wz := hz.lt
  have m1 : g ≠ gA := by omega
  have m2 : w.heap.size ≠ g := hx.ne_ hg (by decide)
  have m3 : w.heap.size + 1 ≠ g := hz.ne_ hg (by decide)
  have m4 : w2.heap.size ≠ g := by omega
  have hg4 : Blk (w3.setCell ⟨g, 2, none⟩ (.slice (some ⟨gA, 0, none⟩) ps.length capA)) g 61 #[.int .i64 comp, .int .i64 k, .slice (some ⟨gA, 0, none⟩) ps.length capA] := (hg.fr0 hF3.out.1).set_ 2 _
  have hr4 : (w3.setCell ⟨g, 2, none⟩ (.slice (some ⟨gA, 0, none⟩) ps.length capA)).ownsRow B 35 6 (.slice (some ⟨gA, 0, none⟩) ps.length capA) ps.length (ps.flatMap encB) := row_far (by simpa using hOA.out) (p := ⟨g, 2, none⟩) (by simp [Value.ownBlock]; omega) _
  have hx4 := (hx.fr0 hF3.out.1).far (p := ⟨g, 2, none⟩) m2 (.slice (some ⟨gA, 0, none⟩) ps.length capA)
  have hz4 := (hz.fr0 hF3.out.1).far (p := ⟨g, 2, none⟩) m3 (.slice (some ⟨gA, 0, none⟩) ps.length capA)
  have hb4 := hbw.out.far (p := ⟨g, 2, none⟩) m4 (.slice (some ⟨gA, 0, none⟩) ps.length capA)
  have hf4 : Fr [g] w (w3.setCell ⟨g, 2, none⟩ (.slice (some ⟨gA, 0, none⟩) ps.length capA)) := ((hfw.trans hF3.out.1).any _).setCell (p := ⟨g, 2, none⟩) (by simp) _
  clear hg hr hx hz c2 c3 f3 fg k0 k1 k2 k3 k4 k5 lg lz lgf n1 n2 H2 hF3 hbw hOA E
  generalize World.setCell w3 _ _ = w4 at hg4 hr4 hx4 hz4 hb4 hf4 ⊢
  have e2 := hg4.at_ 2 (v := .slice (some ⟨gA, 0, none⟩) ps.length capA) (by rfl)
  obtain ⟨x0, x1, x2, x3, x4, x5⟩ := blk6 hx4
  have k0 := row_cell hr4 (i := n * 6 + 0) (u := .int .i64 pc) (by rw [encB_get hp 0 (by omega)]; rfl)
  have k1 := row_cell hr4 (i := n * 6 + 1) (u := .int .i64 u0) (by rw [encB_get hp 1 (by omega)]; rfl)
  have k2 := row_cell hr4 (i := n * 6 + 2) (u := .int .i64 u1) (by rw [encB_get hp 2 (by omega)]; rfl)
  have k3 := row_cell hr4 (i := n * 6 + 3) (u := .int .i64 u2) (by rw [encB_get hp 3 (by omega)]; rfl)
  have k4 := row_cell hr4 (i := n * 6 + 4) (u := .int .i64 u3) (by rw [encB_get hp 4 (by omega)]; rfl)
  have k5 := row_cell hr4 (i := n * 6 + 5) (u := .int .i64 pt) (by rw [encB_get hp 5 (by omega)]; rfl)
  rw [Nat.add_zero] at k0
  have fr4 := row_frozen hr4
  have ls := hf4.size
  have lbx := hb4.lt
  have lg4 := hg4.lt
  have lx4 := hx4.lt
  have lz4 := hz4.lt
  have lgA := (row_lt hr4 rfl).1
  have m5 : w.heap.size ≠ gA := by omega
  have m6 : w.heap.size + 1 ≠ gA := by omega
  have m7 : w2.heap.size ≠ gA := by omega
  have m1' := m1.symm
  have m2' := m2.symm
  have m3' := m3.symm
  have m5' := m5.symm
  have m6' := m6.symm
  have m7' := m7.symm
  have H4 := hide (And.intro hg4 (And.intro hr4 (And.intro hx4 (And.intro hz4 (And.intro hb4 (And.intro hf4 hp))))))
  clear hg4 hr4 hx4 hz4 hb4 hf4 hp hfw
  go_region_held3 (fun w' => w'.cell? ⟨g, 2, none⟩ = some (.slice (some ⟨gA, 0, none⟩) ps.length capA) ∧ w'.cell? ⟨w.heap.size, 0, none⟩ = some (.int .i64 c) ∧ w'.cell? ⟨w.heap.size, 1, none⟩ = some (.int .i64 v0) ∧ w'.cell? ⟨w.heap.size, 2, none⟩ = some (.int .i64 v1) ∧ w'.cell? ⟨w.heap.size, 3, none⟩ = some (.int .i64 v2) ∧ w'.cell? ⟨w.heap.size, 4, none⟩ = some (.int .i64 v3) ∧ w'.cell? ⟨w.heap.size, 5, none⟩ = some (.int .i64 t)) (go_keep) (fail)
  rename_i hHeld
  clear hHeld
  obtain ⟨hg4, hr4, hx4, hz4, hb4, hf4, hp⟩ := H4.out
  have hst := (fr_set6r (Fr.refl [gA] w4) (g := gA) (i := n) (by simp) (.int .i64 c) (.int .i64 v0) (.int .i64 v1) (.int .i64 v2) (.int .i64 v3) (.int .i64 t)).drew
  have hr5 := (row_set6 (q := ⟨c, v0, v1, v2, v3, t⟩) hr4 rfl hp).drew
  have hg5 := hg4.fr hst (by simp [m1])
  have hz5 := hz4.fr hst (by simp [m6])
  have hb5 := hb4.fr hst (by simp [m7])
  have hf5 : Fr [g] w _ := hf4.step hst (by simp; omega)
  have H5 := hide (And.intro hg5 (And.intro hr5 (And.intro hz5 (And.intro hb5 hf5))))
  clear hg4 hr4 hx4 hz4 hb4 hf4 hp hst hr5 hg5 hz5 hb5 hf5 H4 e2 x0 x1 x2 x3 x4 x5 k0 k1 k2 k3 k4 k5 fr4 lbx lg4 lx4 lz4 lgA
  generalize World.drew _ = w5 at H5 ⊢
  obtain ⟨d0, d1, d2, d3, d4, d5⟩ := blk6 H5.out.2.2.2.1
  obtain ⟨r0, r1, r2, r3, r4, r5⟩ := blk6 H5.out.2.2.1
  have fz := H5.out.2.2.1.frozen
  have lz := H5.out.2.2.1.lt
  have lb := H5.out.2.2.2.1.lt
  go_wp2_with fail
  obtain ⟨hg5, hr5, hz5, hb5, hf5⟩ := H5.out
  have hst := (Fr.set6in (Fr.refl [w.heap.size + 1] w5) (g := w.heap.size + 1) (by simp) (.int .i64 pc) (.int .i64 u0) (.int .i64 u1) (.int .i64 u2) (.int .i64 u3) (.int .i64 pt))
  have hz := (hz5.set6 (.int .i64 pc) (.int .i64 u0) (.int .i64 u1) (.int .i64 u2) (.int .i64 u3) (.int .i64 pt))
  have hg9 := hg5.fr hst (by simp [m3'])
  have hr9 := row_fr hr5 hst (by simp [Value.ownBlock, m6'])
  have hf9 : Fr [g] w _ := hf5.step hst (by simp)
  have H9 := hide (And.intro hg9 (And.intro hr9 hf9))
  clear hg5 hr5 hz5 hb5 hf5 hst hg9 hr9 hf9 H5 r0 r1 r2 r3 r4 r5 d0 d1 d2 d3 d4 d5 fz lz lb
  generalize World.setCell _ _ _ = w9 at H9 hz ⊢
  obtain ⟨z0, z1, z2, z3, z4, z5⟩ := blk6 hz
  refine bodyPost_ret (v := .tuple #[.agg #[.int .i64 pc, .int .i64 u0, .int .i64 u1, .int .i64 u2, .int .i64 u3, .int .i64 pt], .int .i64 0]) (by simp [results, Tryd.results20, go_sem, z0, z1, z2, z3, z4, z5]) rfl ⟨rfl, [g, gA], ⟨.slice (some ⟨gA, 0, none⟩) ps.length capA, hBg, H9.out.1, by rw [List.length_set]; exact H9.out.2.1, by simp [Value.ownBlock]⟩, H9.out.2.2.mono (by simp), ?_⟩
  intro b hb
  simp only [List.mem_cons, List.not_mem_nil, or_false] at hb
  rcases hb with rfl | rfl
  · exact .inl (by simp)
  · exact .inr (by omega)
end Go.Proofs.YtgifeligogjfiaaDoor
