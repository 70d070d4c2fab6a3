/- Package pasodobleref07 by contracts: Take. -/
import Derived.Test.YtgifeligogjfiaaDoorRC4
import Derived.Deep.DeepCutAuto
import Derived.Deep.CutBlock
namespace Go.Proofs.YtgifeligogjfiaaDoor
open Go.RowKit

set_option maxRecDepth 100000 in
set_option maxHeartbeats 2000000 in
theorem rctake_none {B : Nat} {w : World} {g : Nat} {comp : Int} {k : Nat} {ps : List Pt} {S : List Nat} (h : RefC B w g comp k ps S) (hl : ps.length ≤ 1000000) (n : Int) (hn : n < 0 ∨ (ps.length : Int) ≤ n) :
    Calls Tryd.prog 21 #[.pointer (some ⟨g, 0, none⟩), .int .i64 n] w fun e w' => e = .returned (.tuple #[encP zP, .int .i64 7]) ∧ Fr [] w w' := by
  have Hh := hide (rchas (h.fr0 (zero_frame w)) hl n)
  rw [show decide (0 ≤ n ∧ n < (ps.length : Int)) = false from by simp; omega] at Hh
  clear h
  go_enter Tryd.func21, Tryd.ntmps21
  go_wp2_with fail
  refine Hh.out.mono ?_
  rintro e w1 ⟨rfl, rfl⟩
  go_wp2_with fail
  refine bodyPost_ret (v := .tuple #[encP zP, .int .i64 7]) (by simp [results, Tryd.results21, go_sem, boxP, zP]) rfl ⟨rfl, ?_⟩
  (repeat (first | exact Fr.refl _ _ | apply Fr.drew | apply Fr.drewN | apply Fr.alloc | (refine Fr.setCell ?_ (by first | (left; simp [Value.ownBlock]; done) | (right; simp; omega) | (right; simp; done)) _)))

set_option maxRecDepth 100000 in
set_option maxHeartbeats 4000000 in
theorem rctake_ok {B : Nat} {w : World} {g : Nat} {comp : Int} {k : Nat} {ps : List Pt} {S : List Nat} (h : RefC B w g comp k ps S) (hB : B ≤ w.heap.size) (hl : ps.length ≤ 1000000) {n last : Nat} {p q : Pt} (hp : ps[n]? = some p) (hlast : ps.length = last + 1) (hq : ps[last]? = some q) :
    Calls Tryd.prog 21 #[.pointer (some ⟨g, 0, none⟩), .int .i64 n] w fun e w' => e = .returned (.tuple #[encP p, .int .i64 0]) ∧ ∃ S', RefC B w' g comp k ((ps.set n q).take last) S' ∧ Stp S S' w w' := by
  have hn : n < ps.length := (List.getElem?_eq_some_iff.1 hp).1
  obtain ⟨i0, hi0, hz0, hz1, hz2⟩ := info_parts infoPart
  have Hh := hide (rchas (h.fr0 (zero_frame w)) hl n)
  rw [show decide (0 ≤ (n : Int) ∧ (n : Int) < (ps.length : Int)) = true from by simp; omega] at Hh
  obtain ⟨vL, hBg, hg, hr, rfl⟩ := h
  rcases row_form hr with ⟨_, h0, _⟩ | ⟨gf, cf, rfl, _, lgf, hcf, hmf⟩
  · omega
  have hrN := hide hr
  have hgN := hide hg
  rw [hlast] at hg hr
  have lg := hg.lt
  have c2 := hg.at_ 2 (v := .slice (some ⟨gf, 0, none⟩) (last + 1) cf) (by rfl)
  obtain ⟨pc, u0, u1, u2, u3, pt⟩ := p
  have k0 := row_cell hr (i := n * 6 + 0) (u := .int .i64 pc) (by rw [encB_get hp 0 (by omega)]; rfl)
  have k1 := row_cell hr (i := n * 6 + 1) (u := .int .i64 u0) (by rw [encB_get hp 1 (by omega)]; rfl)
  have k2 := row_cell hr (i := n * 6 + 2) (u := .int .i64 u1) (by rw [encB_get hp 2 (by omega)]; rfl)
  have k3 := row_cell hr (i := n * 6 + 3) (u := .int .i64 u2) (by rw [encB_get hp 3 (by omega)]; rfl)
  have k4 := row_cell hr (i := n * 6 + 4) (u := .int .i64 u3) (by rw [encB_get hp 4 (by omega)]; rfl)
  have k5 := row_cell hr (i := n * 6 + 5) (u := .int .i64 pt) (by rw [encB_get hp 5 (by omega)]; rfl)
  rw [Nat.add_zero] at k0
  have j0 : (0 : Int) ≤ (n : Int) := by omega
  have j1 : (n : Int) < (last : Int) + 1 := by omega
  have j2 : (last : Int) < (last : Int) + 1 := by omega
  have j3 : (0 : Int) ≤ (last : Int) := by omega
  have j4 : (last : Int) ≤ 1000000 := by omega
  have j5 : n < last + 1 := by omega
  have n1 := World.new_ne w _ c2
  have n2 : w.heap.size ≠ gf := by omega
  have n2' := n2.symm
  have o1 : w.heap.size + 1 ≠ g := by omega
  have o2 : w.heap.size + 1 + 1 ≠ g := by omega
  have o3 : w.heap.size + 1 ≠ gf := by omega
  have o1' := o1.symm
  have o2' := o2.symm
  have o3' := o3.symm
  have o4 : g ≠ w.heap.size + 2 := by omega
  have o4' := o4.symm
  have H := hide (And.intro hgN.out (And.intro hr (And.intro hp (And.intro hq hlast))))
  rw [hlast] at H
  have hlN := hide hlast
  have ln : last ≤ 1000000 := by omega
  have lc : last + 1 ≤ cf := by omega
  have fl := hide (flat_len encB_len ps)
  rw [hlast] at fl
  clear hg hr hp hq hcf hmf hrN hgN hlast hl hn
  go_enter Tryd.func21, Tryd.ntmps21
  go_wp2_with fail
  refine Hh.out.mono ?_
  rintro e w1 ⟨rfl, rfl⟩
  go_upto_region 5 with (fail)
  have hZ := (zero6 w).alloc (.cells #[.int .i64 pc, .int .i64 u0, .int .i64 u1, .int .i64 u2, .int .i64 u3, .int .i64 pt] 35)
  have hW := Blk.new_at (w.alloc (.cells #[.int .i64 0, .int .i64 0, .int .i64 0, .int .i64 0, .int .i64 0, .int .i64 0] 35)) 35 #[.int .i64 pc, .int .i64 u0, .int .i64 u1, .int .i64 u2, .int .i64 u3, .int .i64 pt] (w.heap.size + 1) (by simp)
  have hF := ((Fr.refl [] w).alloc (.cells #[.int .i64 0, .int .i64 0, .int .i64 0, .int .i64 0, .int .i64 0, .int .i64 0] 35)).alloc (.cells #[.int .i64 pc, .int .i64 u0, .int .i64 u1, .int .i64 u2, .int .i64 u3, .int .i64 pt] 35)
  have H2 := hide (And.intro (H.out.1.fr0 hF) (And.intro (row_fr H.out.2.1 hF (by simp)) (And.intro hZ (And.intro hW hF))))
  clear hZ hW hF c2 k0 k1 k2 k3 k4 k5 lg n1 n2 n2' o1 o2 o3 o1' o2' o3' o4 o4' lgf
  generalize World.alloc (World.alloc w _) _ = w2 at H2 ⊢
  have c2 := H2.out.1.at_ 2 (v := .slice (some ⟨gf, 0, none⟩) (last + 1) cf) (by rfl)
  have lg := H2.out.1.lt
  have lw2 := H2.out.2.2.2.1.lt
  have n1 := World.new_ne w2 _ c2
  have e0 : (w2.alloc (.cells #[] 35)).ownsRow B 35 6 (.slice (some ⟨w2.heap.size, 0, none⟩) 0 0) 0 [] := row_mk (Blk.new w2 35 #[]) (by omega) (Nat.le_refl _) (by simp [maxLen]) rfl rfl
  have E := hide e0
  clear e0
  go_upto_region 6 with (at_builtin; refine wpList_append_lies _ rfl _ _ _ rfl B 35 i0 _ 6 48 Tryd.underlying44 hi0 hz0 hz1 hz2 rfl (by omega) (.slice (some ⟨w2.heap.size, 0, none⟩) 0 0) 0 [] rfl E.out ⟨gf, 0, none⟩ (last + 1) cf (ps.flatMap encB) rfl fl.out (row_news (H2.out.2.1.alloc _) 0 (fun j v hv => by simpa using hv)) (encBs_one ps) (by omega) (by unfold maxLen; omega) (by omega) (by simp; omega) (w2.heap.size + 1) (by simp) ?_; intro gA capA w3 hownA hgrowA hatA hltA; have hF3 := hide (And.intro (grown_new (w2 := w2) ((Fr.refl [] w2).alloc (.cells #[] 35)) hgrowA (fun b hb => by (have hb' : w2.heap.size = b := by simpa [Value.ownBlock] using hb); omega)) (at_new (B := w2.heap.size) hatA (fun b hb => by (have hb' : w2.heap.size = b := by simpa [Value.ownBlock] using hb); omega) (by omega))); have hOA : Hid (w3.ownsRow B 35 6 (.slice (some ⟨gA, 0, none⟩) (last + 1) capA) (last + 1) (ps.flatMap encB)) := hide (by simpa using hownA); clear hownA hgrowA hatA)
  have hbz := hide (H2.out.2.2.1.fr0 hF3.out.1)
  have hbw := hide (H2.out.2.2.2.1.fr0 hF3.out.1)
  have hg3 := hide (H2.out.1.fr0 hF3.out.1)
  obtain ⟨qc, y0, y1, y2, y3, qt⟩ := q
  have hq := H.out.2.2.2.1
  have hp := H.out.2.2.1
  have a0 := row_cell hOA.out (i := last * 6 + 0) (u := .int .i64 qc) (by rw [encB_get hq 0 (by omega)]; rfl)
  have a1 := row_cell hOA.out (i := last * 6 + 1) (u := .int .i64 y0) (by rw [encB_get hq 1 (by omega)]; rfl)
  have a2 := row_cell hOA.out (i := last * 6 + 2) (u := .int .i64 y1) (by rw [encB_get hq 2 (by omega)]; rfl)
  have a3 := row_cell hOA.out (i := last * 6 + 3) (u := .int .i64 y2) (by rw [encB_get hq 3 (by omega)]; rfl)
  have a4 := row_cell hOA.out (i := last * 6 + 4) (u := .int .i64 y3) (by rw [encB_get hq 4 (by omega)]; rfl)
  have a5 := row_cell hOA.out (i := last * 6 + 5) (u := .int .i64 qt) (by rw [encB_get hq 5 (by omega)]; rfl)
  have b0 := row_cell hOA.out (i := n * 6 + 0) (u := .int .i64 pc) (by rw [encB_get hp 0 (by omega)]; rfl)
  have b1 := row_cell hOA.out (i := n * 6 + 1) (u := .int .i64 u0) (by rw [encB_get hp 1 (by omega)]; rfl)
  have b2 := row_cell hOA.out (i := n * 6 + 2) (u := .int .i64 u1) (by rw [encB_get hp 2 (by omega)]; rfl)
  have b3 := row_cell hOA.out (i := n * 6 + 3) (u := .int .i64 u2) (by rw [encB_get hp 3 (by omega)]; rfl)
  have b4 := row_cell hOA.out (i := n * 6 + 4) (u := .int .i64 u3) (by rw [encB_get hp 4 (by omega)]; rfl)
  have b5 := row_cell hOA.out (i := n * 6 + 5) (u := .int .i64 pt) (by rw [encB_get hp 5 (by omega)]; rfl)
  rw [Nat.add_zero] at a0 b0
  have fA := row_frozen hOA.out
  have lgA := (row_lt hOA.out rfl).1
  clear hq hp c2 n1 lw2 E i0 hi0 hz0 hz1 hz2
  go_upto_region 7 with (fail)
  have hst := fr_set6r (Fr.refl [gA] w3) (g := gA) (i := n) (by simp) (.int .i64 qc) (.int .i64 y0) (.int .i64 y1) (.int .i64 y2) (.int .i64 y3) (.int .i64 qt)
  have hr4 := row_set6 (q := ⟨qc, y0, y1, y2, y3, qt⟩) hOA.out hlN.out H.out.2.2.1
  have hgA := hF3.out.2
  have hgw := H2.out.1.lt
  have hzw := H2.out.2.2.1.lt
  have hww := H2.out.2.2.2.1.lt
  have hg4 := hg3.out.fr hst (by simp; omega)
  have hz4 := hbz.out.fr hst (by simp; omega)
  have hb4 := hbw.out.fr hst (by simp; omega)
  have hf4 : Fr [] w _ := ((H2.out.2.2.2.2.trans hF3.out.1).step hst (by simp; have := H2.out.2.2.2.2.size; omega))
  have m1 : g ≠ gA := by omega
  have m2 : w.heap.size ≠ g := H2.out.2.2.1.ne_ H2.out.1 (by decide)
  have m3 : w.heap.size + 1 ≠ g := H2.out.2.2.2.1.ne_ H2.out.1 (by decide)
  have ms := H2.out.2.2.2.2.size
  have H4 := hide (And.intro hg4 (And.intro hr4 (And.intro hz4 (And.intro hb4 hf4))))
  clear hst hr4 hg4 hz4 hb4 hf4 a0 a1 a2 a3 a4 a5 b0 b1 b2 b3 b4 b5 fA lgA hg3 hbz hbw hOA hF3 H2 lg
  generalize World.setCell _ _ _ = w4 at H4 ⊢
  have e2 := H4.out.1.at_ 2 (v := .slice (some ⟨gf, 0, none⟩) (last + 1) cf) (by rfl)
  have fg := H4.out.1.frozen
  have lg := H4.out.1.lt
  obtain ⟨d0, d1, d2, d3, d4, d5⟩ := blk6 H4.out.2.2.2.1
  obtain ⟨r0, r1, r2, r3, r4, r5⟩ := blk6 H4.out.2.2.1
  have fz := H4.out.2.2.1.frozen
  have lz := H4.out.2.2.1.lt
  have lb := H4.out.2.2.2.1.lt
  have m2' := m2.symm
  have m3' := m3.symm
  have lcA : (last : Int) ≤ (capA : Int) := by
    obtain ⟨cur, _, _, h1, _⟩ := row_blk H4.out.2.1
    omega
  have lcN : last ≤ capA := by omega
  go_wp2_with fail
  obtain ⟨hg4, hr4, hz4, hb4, hf4⟩ := H4.out
  have hg5 : Blk (w4.setCell ⟨g, 2, none⟩ (.slice (some ⟨gA, 0, none⟩) last capA)) g 61 #[.int .i64 comp, .int .i64 k, .slice (some ⟨gA, 0, none⟩) last capA] := hg4.set_ 2 _
  have hr5 := row_cut (row_far hr4 (p := ⟨g, 2, none⟩) (by simp [Value.ownBlock]; omega) (.slice (some ⟨gA, 0, none⟩) last capA)) (k := last) (by omega)
  rw [flat_take encB_len] at hr5
  have hz5 := hz4.far (p := ⟨g, 2, none⟩) m2 (.slice (some ⟨gA, 0, none⟩) last capA)
  have hf5 : Fr [g] w _ := (hf4.any [g]).setCell (p := ⟨g, 2, none⟩) (by simp) (.slice (some ⟨gA, 0, none⟩) last capA)
  have H5 := hide (And.intro hg5 (And.intro hr5 (And.intro hz5 hf5)))
  clear hg4 hr4 hz4 hb4 hf4 hg5 hr5 hz5 hf5 H4 e2 fg lg d0 d1 d2 d3 d4 d5 r0 r1 r2 r3 r4 r5 fz lz lb
  generalize World.setCell w4 _ _ = w5 at H5 ⊢
  obtain ⟨hg5, hr5, hz5, hf5⟩ := H5.out
  have hst := (Fr.set6in (Fr.refl [w.heap.size] w5) (g := w.heap.size) (by simp) (.int .i64 pc) (.int .i64 u0) (.int .i64 u1) (.int .i64 u2) (.int .i64 u3) (.int .i64 pt))
  have hz := (hz5.set6 (.int .i64 pc) (.int .i64 u0) (.int .i64 u1) (.int .i64 u2) (.int .i64 u3) (.int .i64 pt))
  have hg9 := hg5.fr hst (by simp [m2'])
  have hr9 := row_fr hr5 hst (by simp [Value.ownBlock]; omega)
  have hf9 : Fr [g] w _ := hf5.step hst (by simp)
  have H9 := hide (And.intro hg9 (And.intro hr9 hf9))
  clear hg5 hr5 hz5 hf5 hst hg9 hr9 hf9 H5
  generalize World.setCell _ _ _ = w9 at H9 hz ⊢
  obtain ⟨z0, z1, z2, z3, z4, z5⟩ := blk6 hz
  have hlen : ((ps.set n ⟨qc, y0, y1, y2, y3, qt⟩).take last).length = last := by rw [List.length_take, List.length_set, hlN.out]; omega
  refine bodyPost_ret (v := .tuple #[.agg #[.int .i64 pc, .int .i64 u0, .int .i64 u1, .int .i64 u2, .int .i64 u3, .int .i64 pt], .int .i64 0]) (by simp [results, Tryd.results21, go_sem, z0, z1, z2, z3, z4, z5]) rfl ⟨rfl, [g, gA], ⟨.slice (some ⟨gA, 0, none⟩) last capA, hBg, H9.out.1, by rw [hlen]; exact H9.out.2.1, by simp [Value.ownBlock]⟩, H9.out.2.2.mono (by simp), ?_⟩
  intro b hb
  simp only [List.mem_cons, List.not_mem_nil, or_false] at hb
  rcases hb with rfl | rfl
  · exact .inl (by simp)
  · exact .inr (by omega)
end Go.Proofs.YtgifeligogjfiaaDoor
