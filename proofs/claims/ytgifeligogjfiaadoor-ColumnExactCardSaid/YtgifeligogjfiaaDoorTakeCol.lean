/- Package column by contracts: Take. -/
import Derived.Test.YtgifeligogjfiaaDoorColOps
import Derived.Deep.DeepCutAuto
import Derived.Deep.CutBlock
namespace Go.Proofs.YtgifeligogjfiaaDoor
open Go.RowKit

/-- the cells behind a copy of a row over another one -/
theorem put_cells {k : Nat} (h3 : k ≤ 4) {ps : List Pt} {n : Nat} (q : Pt) (hn : n < ps.length) {cur : List Value} (htk : cur.take (ps.length * k * 1) = ps.flatMap (cellsOf k)) :
    (cur.take (n * k) ++ (cellsOf k q ++ cur.drop (n * k + (cellsOf k q).length))).take (ps.length * k) = (ps.set n q).flatMap (cellsOf k) := by
  have hA : (ps.flatMap (cellsOf k)).length = ps.length * k := flat_len (cellsOf_len h3) ps
  have hc : cur = ps.flatMap (cellsOf k) ++ cur.drop (ps.length * k * 1) := by rw [← htk, List.take_append_drop]
  have hle : (n + 1) * k ≤ ps.length * k := Nat.mul_le_mul_right _ hn
  rw [Nat.add_mul, Nat.one_mul] at hle
  have h := splice_row (a := ps.flatMap (cellsOf k)) (b := cur.drop (ps.length * k * 1)) (c := cellsOf k q) (m := n * k) (k := k) (by rw [hA]; exact hle) (cellsOf_len h3 q)
  rw [← hc, hA, flat_splice (cellsOf_len h3) hn q] at h
  rw [cellsOf_len h3]
  exact h
theorem take_cells {k : Nat} (h3 : k ≤ 4) {ps : List Pt} {n last : Nat} (q : Pt) (hlast : ps.length = last + 1) (hn : n < ps.length) {cur : List Value} (htk : cur.take (ps.length * k * 1) = ps.flatMap (cellsOf k)) :
    (cur.take (n * k) ++ (cellsOf k q ++ cur.drop (n * k + (cellsOf k q).length))).take (last * k) = ((ps.set n q).take last).flatMap (cellsOf k) := by
  have h := put_cells h3 q hn htk
  rw [← flat_take (cellsOf_len h3), ← h, List.take_take, Nat.min_eq_left (Nat.mul_le_mul_right _ (by omega))]

theorem take_col {B : Nat} {w : World} {g gc gt : Nat} {comp : Int} {k fr last cc ct n : Nat} {ps : List Pt} {q : Pt}
    (hg : Blk w g 67 #[.int .i64 comp, .int .i64 k, .slice (some ⟨gc, 0, none⟩) fr cc, .slice (some ⟨gt, 0, none⟩) last ct])
    (hc : w.ownsRow B 3 1 (.slice (some ⟨gc, 0, none⟩) fr cc) fr (((ps.set n q).take last).flatMap (cellsOf k)))
    (ht : w.ownsRow B 3 1 (.slice (some ⟨gt, 0, none⟩) last ct) last (((ticksOf ps).set n (.int .i64 q.t)).take (last * 1)))
    (hB : B ≤ g) (hne : gc ≠ gt) (hfit : ∀ p ∈ ps, Fits comp k p) (hfr : fr = last * k) (hlast : ps.length = last + 1) (hq : q ∈ ps) :
    ColR B w g comp k ((ps.set n q).take last) [g, gc, gt] := by
  have hl : ((ps.set n q).take last).length = last := by simp; omega
  refine ⟨.slice (some ⟨gc, 0, none⟩) fr cc, .slice (some ⟨gt, 0, none⟩) last ct, hB, hg, ?_, ?_, ?_, ?_, ?_⟩
  · rw [hl, ← hfr]; exact hc
  · rw [hl]
    have e : ticksOf ((ps.set n q).take last) = ((ticksOf ps).set n (.int .i64 q.t)).take (last * 1) := by
      simp [ticksOf, List.map_take, List.map_set]
    rw [e]; exact ht
  · intro b hb
    have hb' : gc = b := by simpa [Value.ownBlock] using hb
    subst hb'
    simp [Value.ownBlock, Ne.symm hne]
  · intro p hp
    have h1 := List.mem_of_mem_take hp
    rcases List.mem_or_eq_of_mem_set h1 with h1 | rfl
    · exact hfit p h1
    · exact hfit _ hq
  · simp [Value.ownBlock]

set_option maxRecDepth 100000 in
set_option maxHeartbeats 800000 in
theorem Take_ok {B : Nat} {w : World} {g : Nat} {comp : Int} {k : Nat} {ps : List Pt} {S : List Nat} (h : ColR B w g comp k ps S) (h2 : 1 ≤ k) (h3 : k ≤ 4) (hl : ps.length ≤ 1000000) {n last : Nat} {p q : Pt} (hp : ps[n]? = some p) (hlast : ps.length = last + 1) (hq : ps[last]? = some q) :
    Calls Tryd.prog 11 #[.pointer (some ⟨g, 0, none⟩), .int .i64 n] w fun e w' => e = .returned (.tuple #[encP p, .nilIface]) ∧ ColR B w' g comp k ((ps.set n q).take last) S ∧ Fr S w w' := by
  have hn : n < ps.length := (List.getElem?_eq_some_iff.1 hp).1
  have Hf := hide (row_ok (h.alloc (.cells #[.int .i64 0, .int .i64 0, .int .i64 0, .int .i64 0, .int .i64 0, .int .i64 0] 35)) h2 h3 hl n hn)
  have H := hide (And.intro h (And.intro (zero6 w) (And.intro ((Fr.refl [] w).alloc (.cells #[.int .i64 0, .int .i64 0, .int .i64 0, .int .i64 0, .int .i64 0, .int .i64 0] 35)) (And.intro hp hq))))
  have hS := h.lt
  have HS := hide hS
  clear h hp hq hS
  go_enter Tryd.func11, Tryd.ntmps11
  go_wp2_with fail
  refine Hf.out.mono ?_
  rintro e w1 ⟨gc, cc, vt, hb, rfl, hf⟩
  obtain ⟨h, hz, hf0, hp, hq⟩ := H.out
  have Hg := hide (part_ok (d := cc - n * k) (h.fr0 (hf0.trans hf)) h2 h3 hp hl (hb.fr0 hf))
  have Hk := hide (And.intro (hz.fr0 hf) (And.intro (hf0.trans hf) (hb.fr0 hf)))
  obtain ⟨m, hm⟩ : ∃ m, m = n * k := ⟨_, rfl⟩
  obtain ⟨fr, hfr⟩ : ∃ fr, fr = last * k := ⟨_, rfl⟩
  have hlen : ps.length * k = fr + k := by rw [hlast, Nat.add_mul, Nat.one_mul, hfr]
  rw [← hm]
  rw [← hm] at Hg
  have Hm := hide (And.intro hm (And.intro hfr (And.intro hlen (And.intro hn hlast))))
  clear hb hf h hz hf0 hp hq Hf hm hfr hlen hlast hn
  go_wp2_with fail
  refine Hg.out.mono ?_
  rintro e w2 ⟨rfl, hf⟩
  obtain ⟨hm, hfr, hlen, hn, hlast⟩ := Hm.out
  obtain ⟨h, hz, hf0, hp, hq⟩ := H.out
  have hfa := (Hk.out.2.1.trans hf).alloc (.cells (boxP p) 35)
  have hzr := (Hk.out.1.fr0 hf).alloc (.cells (boxP p) 35)
  have hbox := Blk.new w2 35 (boxP p)
  have hbc := (Hk.out.2.2.fr0 hf).alloc (.cells (boxP p) 35)
  have hcol := h.fr0 hfa
  obtain ⟨vc', vt', hB, hg, hc, ht, hd, hfit, hSS⟩ := hcol
  have he := hg.unique hbc
  simp only [Array.mk.injEq, List.cons.injEq, and_true, true_and] at he
  obtain ⟨rfl, rfl⟩ := he
  rcases row_form ht with ⟨_, h0, _⟩ | ⟨gt, ct, rfl, hBt, lt_, hct, hmt⟩
  · omega
  obtain ⟨cur, hbl, hBc, hcc, hmc, hsz, htk⟩ := row_blk hc
  have hnk : m + k ≤ fr + k := by
    have : n * k ≤ last * k := Nat.mul_le_mul_right _ (by omega)
    omega
  rw [hlen] at hcc hg
  rw [hlast] at hg hct
  obtain ⟨c0, c1, c2, c3⟩ := blk4 hg
  obtain ⟨w4, hcp, hb4, hcf⟩ := copy_run (P := Tryd.prog) 22 22 3 Tryd.underlying22 sizeInt m k (cc - m) ⟨gc, fr, none⟩ k (cc - fr) hbl (cellsOf k q) (by rw [cellsOf_len h3]; simp)
    (row_news hc fr (fun j v hv => by rw [hfr]; exact cells_get h3 hq j v hv)) (by rw [cellsOf_len h3]; omega) (cells_one k q) (cur.toList.take m ++ (cellsOf k q ++ cur.toList.drop (m + (cellsOf k q).length))).toArray (by simp) k (cellsOf_len h3 q)
  have hcp2 : ∀ ty, (Builtin.copy_ #[22, 22] ty #[.slice (some ⟨gc, m, none⟩) k (cc - m), .slice (some ⟨gc, fr, none⟩) (fr + k - fr) (cc - fr)]).run Tryd.prog (w2.alloc (.cells (boxP p) 35)) = .ok (.int .i64 k) w4 := by
    rw [Nat.add_sub_cancel_left]; exact hcp
  have hmul : (last : Int) * (k : Int) = (fr : Int) := by rw [hfr, Int.natCast_mul]
  have hfrs : fr ≤ 4000000 := by
    have : k = 1 ∨ k = 2 ∨ k = 3 ∨ k = 4 := by omega
    rcases this with rfl | rfl | rfl | rfl <;> omega
  have Hw := hide (w64_mul hmul (by omega))
  have lg := hg.lt
  have lc := hbl.lt
  have f0 : (0 : Int) ≤ (fr : Int) := by omega
  have f1 : (fr : Int) ≤ ((fr + k : Nat) : Int) := by omega
  have i0 : (0 : Int) ≤ (n : Int) := by omega
  have i1 : (n : Int) < ((last + 1 : Nat) : Int) := by omega
  have Hl := hide (w64_nat (n := last) (by omega))
  obtain ⟨curt, hbt, _⟩ := row_blk ht
  have n1 : g ≠ gc := hg.ne_ hbl (by decide)
  have n2 : g ≠ gt := hg.ne_ hbt (by decide)
  have n3 : gt ≠ gc := fun e => hd gc rfl (by rw [e]; rfl)
  have n4 : w2.heap.size ≠ gc := hbox.ne_ hbl (by decide)
  have n5 : w2.heap.size ≠ gt := hbox.ne_ hbt (by decide)
  have n6 : w2.heap.size ≠ g := hbox.ne_ hg (by decide)
  have n7 : w.heap.size ≠ gc := hzr.ne_ hbl (by decide)
  have n8 : w.heap.size ≠ gt := hzr.ne_ hbt (by decide)
  have n9 : w.heap.size ≠ g := hzr.ne_ hg (by decide)
  have na : w.heap.size ≠ w2.heap.size := by have := (Hk.out.1.fr0 hf).lt; omega
  have n1' := n1.symm
  have n2' := n2.symm
  have n3' := n3.symm
  have n4' := n4.symm
  have n5' := n5.symm
  have n6' := n6.symm
  have n7' := n7.symm
  have n8' := n8.symm
  have n9' := n9.symm
  have na' := na.symm
  have hg4 := hg.fr hcf (by simp [n1])
  have ht4 := row_fr ht hcf (by simp [Value.ownBlock, n3])
  have hbox4 := hbox.fr hcf (by simp [n4])
  have hzr4 := hzr.fr hcf (by simp [n7])
  obtain ⟨e0, e1, e2, e3⟩ := blk4 hg4
  have etn := row_cell ht4 (i := n) (u := .int .i64 p.t) (ticks_get hp)
  have et := row_cell ht4 (i := last) (u := .int .i64 q.t) (ticks_get hq)
  have fg4 := hg4.frozen
  have ft4 := row_frozen ht4
  have fz4 := hzr4.frozen
  obtain ⟨r0, r1, r2, r3, r4, r5⟩ := blk6 hzr4
  have lg4 := hg4.lt
  have lz4 := hzr4.lt
  have lb4 := hbox4.lt
  have Hx4 := hide (And.intro hg4 (And.intro ht4 (And.intro hbox4 hzr4)))
  have hb4x := hbox4
  have Hbig := hide (And.intro hfa (And.intro hzr (And.intro hbox (And.intro hg (And.intro hc (And.intro ht (And.intro hd (And.intro hfit (And.intro hSS (And.intro hb4 (And.intro hcf (And.intro hsz (And.intro htk (And.intro hnk (And.intro hmc (And.intro hmt (And.intro hp hq)))))))))))))))))
  obtain ⟨c, v0, v1, v2, v3, t⟩ := p
  obtain ⟨d0, d1, d2, d3, d4, d5⟩ := blk6 hb4x
  clear hg4 ht4 hbox4 hzr4 hb4x hbt
  simp only [boxP] at c0 c1 c2 c3 hcp hcp2
  clear hfa hzr hbox hg hc ht hd hfit hSS hb4 hcf hsz htk hnk hmc hmt hp hq hbl hbc hmul hm hfr hlen hlast Hg Hk h hz hf0 hf
  simp only [encP, boxP]
  go_upto_region 6 with (fail)
  rw [Hl.out]
  go_upto_region 7 with (fail)
  rw [Hw.out]
  go_upto_region 8 with (fail)
  have hks : ∀ W : World, W.cell? ⟨gt, last, none⟩ = some (.int .i64 q.t) → (W.setCell ⟨gt, n, none⟩ (.int .i64 q.t)).cell? ⟨gt, last, none⟩ = some (.int .i64 q.t) := by
    intro W hW
    by_cases hnl : n = last
    · rw [hnl]
      exact World.cell?_setCell_same W _ _ hW
    · exact (World.cell?_setCell_other W _ _ _ (by simp [hnl])).trans hW
  have ia : (0 : Int) ≤ (last : Int) := by omega
  have ib : (last : Int) < (last : Int) + 1 := by omega
  have ic : (n : Int) < (last : Int) + 1 := by omega
  have id' : last < last + 1 := by omega
  have ie : n < last + 1 := by omega
  go_region_held3 (fun w' => w'.cell? ⟨g, 3, none⟩ = some (.slice (some ⟨gt, 0, none⟩) (last + 1) ct) ∧ w'.cell? ⟨gt, last, none⟩ = some (.int .i64 q.t)) (go_keep) (fail)
  rename_i hHeld
  clear hHeld hks
  obtain ⟨hfa, hzr, hbox, hg, hc, ht, hd, hfit, hSS, hb4, hcf, hsz, htk, hnk, hmc, hmt, hp, hq⟩ := Hbig.out
  obtain ⟨hg4, ht4, hbox4, hzr4⟩ := Hx4.out
  obtain ⟨hm, hfr, hlen, hn, hlast⟩ := Hm.out
  have hg5 := (hg4.far (p := ⟨gt, n, none⟩) n2 (.int .i64 q.t)).drew
  have ht5 := (row_store ht4 n (by omega) (.int .i64 q.t))
  have hbox5 := (hbox4.far (p := ⟨gt, n, none⟩) n5 (.int .i64 q.t)).drew
  have hzr5 := (hzr4.far (p := ⟨gt, n, none⟩) n8 (.int .i64 q.t)).drew
  have hb5 := (hb4.far (p := ⟨gt, n, none⟩) n3' (.int .i64 q.t)).drew
  have hf5 : Fr [g, gc, gt] w (w4.setCell ⟨gt, n, none⟩ (.int .i64 q.t)).drew := (((hfa.any [g, gc, gt]).trans (hcf.mono (by simp))).setCell (p := ⟨gt, n, none⟩) (by simp) _).drew
  have H5 := hide (And.intro hg5 (And.intro (row_drew ht5) (And.intro hbox5 (And.intro hzr5 (And.intro hb5 (And.intro hf5 (And.intro hsz (And.intro htk (And.intro hnk (And.intro hmc (And.intro hmt (And.intro hfit (And.intro hd (And.intro hSS (And.intro hp hq)))))))))))))))
  clear hfa hzr hbox hg hc ht hd hfit hSS hb4 hcf hsz htk hnk hmc hmt hp hq hg4 ht4 hbox4 hzr4 hm hfr hlen hlast hg5 ht5 hbox5 hzr5 hb5 hf5
  clear e0 e1 e2 e3 et etn fg4 ft4 fz4 r0 r1 r2 r3 r4 r5 lg4 lz4 lb4 d0 d1 d2 d3 d4 d5 Hbig Hx4 hcp hcp2 c0 c1 c2 c3 lg lc
  generalize World.drew _ = w5 at H5 ⊢
  obtain ⟨e0, e1, e2, e3⟩ := blk4 H5.out.1
  obtain ⟨d0, d1, d2, d3, d4, d5⟩ := blk6 H5.out.2.2.1
  obtain ⟨r0, r1, r2, r3, r4, r5⟩ := blk6 H5.out.2.2.2.1
  have fg := H5.out.1.frozen
  have fz := H5.out.2.2.2.1.frozen
  have lg := H5.out.1.lt
  have lz := H5.out.2.2.2.1.lt
  have lb := H5.out.2.2.1.lt
  have i2 : (0 : Int) ≤ (last : Int) := by omega
  have i3 : (last : Int) ≤ (ct : Int) := by omega
  have i4 : (fr : Int) ≤ (cc : Int) := by omega
  go_wp2_with fail
  go_region_law (fail)
  all_goals
    obtain ⟨hg5, ht5, hbox5, hzr5, hb5, hf5, hsz, htk, hnk, hmc, hmt, hfit, hd, hSS, hp, hq⟩ := H5.out
    obtain ⟨hm, hfr, hlen, hn, hlast⟩ := Hm.out
    have hg6 := (hg5.set4_2 (.slice (some ⟨gc, 0, none⟩) fr cc)).set4_3 (.slice (some ⟨gt, 0, none⟩) last ct)
    have hbox6 := (hbox5.far (p := ⟨g, 2, none⟩) n6 (.slice (some ⟨gc, 0, none⟩) fr cc)).far (p := ⟨g, 3, none⟩) n6 (.slice (some ⟨gt, 0, none⟩) last ct)
    have hzr6 := (hzr5.far (p := ⟨g, 2, none⟩) n9 (.slice (some ⟨gc, 0, none⟩) fr cc)).far (p := ⟨g, 3, none⟩) n9 (.slice (some ⟨gt, 0, none⟩) last ct)
    have hb6 := (hb5.far (p := ⟨g, 2, none⟩) n1' (.slice (some ⟨gc, 0, none⟩) fr cc)).far (p := ⟨g, 3, none⟩) n1' (.slice (some ⟨gt, 0, none⟩) last ct)
    have ht6 := row_cut (row_far (row_far ht5 (p := ⟨g, 2, none⟩) (by simp [Value.ownBlock, n2']) (.slice (some ⟨gc, 0, none⟩) fr cc)) (p := ⟨g, 3, none⟩) (by simp [Value.ownBlock, n2']) (.slice (some ⟨gt, 0, none⟩) last ct)) (k := last) (by omega)
    have hf6 : Fr [g, gc, gt] w _ := (hf5.setCell (p := ⟨g, 2, none⟩) (by simp) (.slice (some ⟨gc, 0, none⟩) fr cc)).setCell (p := ⟨g, 3, none⟩) (by simp) (.slice (some ⟨gt, 0, none⟩) last ct)
    have htc := take_cells h3 q hlast hn htk
    rw [← hm, ← hfr] at htc
    have hcl := cellsOf_len h3 q
    have hszl : cur.toList.length = cc * 1 := by simpa using hsz
    have hc6 := row_mk (n := fr) (cap := cc) (size := 1) (xs := ((ps.set n q).take last).flatMap (cellsOf k)) hb6 hBc (by omega) hmc (by simp [hcl] <;> omega) (by rw [Nat.mul_one]; exact htc)
    have H6 := hide (And.intro hg6.drew (And.intro (row_drew hc6) (And.intro (row_drew ht6) (And.intro hzr6.drew (And.intro hf6.drew (And.intro hbox6.drew (And.intro hfit (And.intro hd (And.intro hSS (And.intro hp (And.intro hq (And.intro hn hlast))))))))))))
    clear hg5 ht5 hbox5 hzr5 hb5 hf5 hsz htk hnk hmc hmt hfit hd hSS hp hq hm hfr hlen hlast hg6 hbox6 hzr6 hb6 ht6 hf6 htc hcl hszl hc6 H5
    clear e0 e1 e2 e3 d0 d1 d2 d3 d4 d5 r0 r1 r2 r3 r4 r5 fg fz lg lz lb
    generalize World.drew _ = w6 at H6 ⊢
    obtain ⟨d0, d1, d2, d3, d4, d5⟩ := blk6 H6.out.2.2.2.2.2.1
    obtain ⟨r0, r1, r2, r3, r4, r5⟩ := blk6 H6.out.2.2.2.1
    have fz := H6.out.2.2.2.1.frozen
    have lz := H6.out.2.2.2.1.lt
    have lb := H6.out.2.2.2.2.2.1.lt
    have hz := H6.out.2.2.2.1.set6 (.int .i64 c) (.int .i64 v0) (.int .i64 v1) (.int .i64 v2) (.int .i64 v3) (.int .i64 t)
    have Hz := hide hz
    clear hz
    go_wp2_with fail
    obtain ⟨hg6, hc6, ht6, hzr6, hf6, hbox6, hfit, hd, hSS, hp, hq, hn, hlast⟩ := H6.out
    have hz := Hz.out
    have hfin := hf6.set6 (g := w.heap.size) (Nat.le_refl _) (.int .i64 c) (.int .i64 v0) (.int .i64 v1) (.int .i64 v2) (.int .i64 v3) (.int .i64 t)
    have hst := Fr.set6in (Fr.refl [w.heap.size] w6) (g := w.heap.size) (by simp) (.int .i64 c) (.int .i64 v0) (.int .i64 v1) (.int .i64 v2) (.int .i64 v3) (.int .i64 t)
    have hcol := take_col hg6 hc6 ht6 hB (fun e => n3 e.symm) hfit Hm.out.2.1 hlast (List.mem_of_getElem? hq)
    have hcol9 := hide (hcol.fr hst (by simp; exact ⟨n9', n7', n8'⟩))
    have hf9 := hide hfin
    have HS9 := hide hSS
    clear hcol hst hfin hg6 hc6 ht6 hzr6 hf6 hbox6 hfit hd hSS hp hq d0 d1 d2 d3 d4 d5 r0 r1 r2 r3 r4 r5 Hz H6
    generalize World.setCell _ _ _ = w9 at hcol9 hf9 hz ⊢
    obtain ⟨z0, z1, z2, z3, z4, z5⟩ := blk6 hz
    refine bodyPost_ret (v := .tuple #[.agg #[.int .i64 c, .int .i64 v0, .int .i64 v1, .int .i64 v2, .int .i64 v3, .int .i64 t], .nilIface]) (by simp [results, Tryd.results11, go_sem, z0, z1, z2, z3, z4, z5]) rfl ⟨rfl, ?_, ?_⟩
    · rw [HS9.out]; simpa [Value.ownBlock] using hcol9.out
    · rw [HS9.out]; simpa [Value.ownBlock] using hf9.out
end Go.Proofs.YtgifeligogjfiaaDoor
