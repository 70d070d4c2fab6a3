/- Package column by contracts: Put. -/
import Derived.Test.YtgifeligogjfiaaDoorSetCol
namespace Go.Proofs.YtgifeligogjfiaaDoor
open Go.RowKit

theorem col_put {B : Nat} {w : World} {g gc gt : Nat} {comp : Int} {k cc ct n : Nat} {ps : List Pt} {p q : Pt} {cur : Array Value}
    (hg : Blk w g 67 #[.int .i64 comp, .int .i64 k, .slice (some ⟨gc, 0, none⟩) (ps.length * k) cc, .slice (some ⟨gt, 0, none⟩) ps.length ct])
    (hc : Blk w gc 3 (cur.toList.take (n * k) ++ (cellsOf k q ++ cur.toList.drop (n * k + (cellsOf k q).length))).toArray) (hBc : B ≤ gc) (hcc : ps.length * k ≤ cc) (hmc : cc ≤ maxLen)
    (hsz : cur.size = cc * 1) (htk : cur.toList.take (ps.length * k * 1) = ps.flatMap (cellsOf k))
    (ht : w.ownsRow B 3 1 (.slice (some ⟨gt, 0, none⟩) ps.length ct) ps.length (ticksOf ps))
    (hB : B ≤ g) (n1 : g ≠ gc) (n2 : g ≠ gt) (n3 : gc ≠ gt) (hfit : ∀ p ∈ ps, Fits comp k p) (hp : ps[n]? = some p) (h3 : k ≤ 4) (hq : Fits comp k q) :
    ColR B (w.setCell ⟨gt, n, none⟩ (.int .i64 q.t)) g comp k (ps.set n q) [g, gc, gt] := by
  have hn : n < ps.length := (List.getElem?_eq_some_iff.1 hp).1
  have hcl := cellsOf_len h3 q
  have lim : n * k + k ≤ ps.length * k := by
    have : (n + 1) * k ≤ ps.length * k := Nat.mul_le_mul_right _ hn
    rw [Nat.add_mul] at this
    omega
  have hszl : cur.toList.length = cc * 1 := by simpa using hsz
  have hrow := row_mk (n := ps.length * k) (cap := cc) (size := 1) (xs := (ps.set n q).flatMap (cellsOf k)) hc hBc hcc hmc (by simp [hcl] <;> omega) (by rw [Nat.mul_one]; exact put_cells h3 q hn htk)
  refine ⟨.slice (some ⟨gc, 0, none⟩) (ps.length * k) cc, .slice (some ⟨gt, 0, none⟩) ps.length ct, hB, hg.far (p := ⟨gt, n, none⟩) n2 _, ?_, ?_, ?_, fits_set hfit hq, by simp [Value.ownBlock]⟩
  · rw [List.length_set]
    exact row_far hrow (p := ⟨gt, n, none⟩) (by simp [Value.ownBlock, n3]) _
  · rw [List.length_set]
    have e : ticksOf (ps.set n q) = (ticksOf ps).set n (.int .i64 q.t) := by simp [ticksOf, List.map_set]
    rw [e]
    exact row_store ht n (by omega) _
  · intro b hb
    have hb' : gc = b := by simpa [Value.ownBlock] using hb
    subst hb'
    simp [Value.ownBlock, Ne.symm n3]

set_option maxRecDepth 100000 in
set_option maxHeartbeats 800000 in
theorem Put_ok {B : Nat} {w : World} {g : Nat} {comp : Int} {k : Nat} {ps : List Pt} {S : List Nat} (h : ColR B w g comp k ps S) (h2 : 1 ≤ k) (h3 : k ≤ 4) (hl : ps.length ≤ 1000000) {n : Nat} {p : Pt} (hp : ps[n]? = some p) (q : Pt) (hq : Fits comp k q) :
    Calls Tryd.prog 16 #[.pointer (some ⟨g, 0, none⟩), .int .i64 n, encP q] w fun e w' => e = .returned (.tuple #[encP p, .nilIface]) ∧ ColR B w' g comp k (ps.set n q) S ∧ Fr S w w' := by
  have hn : n < ps.length := (List.getElem?_eq_some_iff.1 hp).1
  have hfa : Fr [] w ((w.alloc (.cells (boxP q) 35)).alloc (.cells #[.int .i64 0, .int .i64 0, .int .i64 0, .int .i64 0, .int .i64 0, .int .i64 0] 35)) := by (repeat (first | exact Fr.refl _ _ | apply Fr.drew | apply Fr.drewN | apply Fr.alloc | (refine Fr.setCell ?_ (by first | (left; simp [Value.ownBlock]; done) | (right; simp; omega) | (right; simp; done)) _)))
  have Hf := hide (row_ok (h.fr0 hfa) h2 h3 hl n hn)
  have hbx := (Blk.new w 35 (boxP q)).alloc (.cells #[.int .i64 0, .int .i64 0, .int .i64 0, .int .i64 0, .int .i64 0, .int .i64 0] 35)
  have hzr : Blk ((w.alloc (.cells (boxP q) 35)).alloc (.cells #[.int .i64 0, .int .i64 0, .int .i64 0, .int .i64 0, .int .i64 0, .int .i64 0] 35)) (w.heap.size + 1) 35 #[.int .i64 0, .int .i64 0, .int .i64 0, .int .i64 0, .int .i64 0, .int .i64 0] := Blk.new_at _ _ _ _ (by simp)
  have H := hide (And.intro h (And.intro hzr (And.intro hbx (And.intro hfa (And.intro hp hq)))))
  clear h hp hq hfa hbx hzr
  obtain ⟨c, v0, v1, v2, v3, t⟩ := q
  simp only [encP, boxP] at Hf H ⊢
  go_enter Tryd.func16, Tryd.ntmps16
  go_wp2_with fail
  refine Hf.out.mono ?_
  rintro e w1 ⟨gc, cc, vt, hb, rfl, hf⟩
  obtain ⟨h, hz, hx, hf0, hp, hq⟩ := H.out
  have Hfit := hide (fits_calls (h.fr0 (hf0.trans hf)) h2 h3 ⟨c, v0, v1, v2, v3, t⟩)
  rw [decide_eq_true hq] at Hfit
  have hx1 := hx.fr0 hf
  obtain ⟨x0, x1, x2, x3, x4, x5⟩ := blk6 hx1
  have Hk := hide (And.intro (hz.fr0 hf) (And.intro (hf0.trans hf) (And.intro (hb.fr0 hf) (And.intro hx1 hb))))
  obtain ⟨m, hm⟩ : ∃ m, m = n * k := ⟨_, rfl⟩
  rw [← hm]
  have Hm := hide hm
  clear hb hf h hz hf0 hp hq hx hx1 Hf hm
  go_wp2_with fail
  refine Hfit.out.mono ?_
  rintro e w2 ⟨rfl, hf⟩
  obtain ⟨h, hz, hx, hf0, hp, hq⟩ := H.out
  have Hg := hide (part_ok (d := cc - n * k) (h.fr0 (Hk.out.2.1.trans hf)) h2 h3 hp hl (Hk.out.2.2.1.fr0 hf))
  rw [← Hm.out] at Hg
  have Hk2 := hide (And.intro (Hk.out.1.fr0 hf) (And.intro (Hk.out.2.1.trans hf) (And.intro (Hk.out.2.2.1.fr0 hf) (Hk.out.2.2.2.1.fr0 hf))))
  clear h hz hx hf0 hp hq hf Hk Hfit x0 x1 x2 x3 x4 x5
  go_wp2_with fail
  refine Hg.out.mono ?_
  rintro e w3 ⟨rfl, hf⟩
  obtain ⟨h, -, -, -, hp, hq⟩ := H.out
  have hfw := Hk2.out.2.1.trans hf
  have hcol := h.fr0 hfw
  have hb3 := Hk2.out.2.2.1.fr0 hf
  have hz3 := (Hk2.out.1.fr0 hf).alloc (.cells (boxP p) 35)
  have hx3 := (Hk2.out.2.2.2.fr0 hf).alloc (.cells (boxP p) 35)
  have hcol := hcol.alloc (.cells (boxP p) 35)
  have hfw := hfw.alloc (.cells (boxP p) 35)
  have hb3 := hb3.alloc (.cells (boxP p) 35)
  obtain ⟨vc', vt', hB, hg, hc, ht, hd, hfit, hSS⟩ := hcol
  have he := hg.unique hb3
  simp only [Array.mk.injEq, List.cons.injEq, and_true, true_and] at he
  obtain ⟨rfl, rfl⟩ := he
  rcases row_form ht with ⟨_, h0, _⟩ | ⟨gt, ct, rfl, hBt, lt_, hct, hmt⟩
  · omega
  obtain ⟨cur, hbl, hBc, hcc, hmc, hsz, htk⟩ := row_blk hc
  obtain ⟨curt, hbt, _⟩ := row_blk ht
  have lim : n * k + k ≤ ps.length * k := by
    have : (n + 1) * k ≤ ps.length * k := Nat.mul_le_mul_right _ hn
    rw [Nat.add_mul] at this
    omega
  obtain ⟨w4, hcp, hb4, hcf⟩ := copy_run (P := Tryd.prog) 22 22 3 Tryd.underlying22 sizeInt (n * k) k (cc - n * k) ⟨w.heap.size, 1, none⟩ 4 4 hbl (cellsOf k ⟨c, v0, v1, v2, v3, t⟩) (by rw [cellsOf_len h3]; exact (Nat.min_eq_right h3).symm)
    (box_news k hx3) (by rw [cellsOf_len h3]; omega) (cells_one k _) (cur.toList.take (n * k) ++ (cellsOf k ⟨c, v0, v1, v2, v3, t⟩ ++ cur.toList.drop (n * k + (cellsOf k ⟨c, v0, v1, v2, v3, t⟩).length))).toArray (by simp) k (cellsOf_len h3 _)
  rw [← Hm.out] at hcp
  have n1 : g ≠ gc := hg.ne_ hbl (by decide)
  have n2 : g ≠ gt := hg.ne_ hbt (by decide)
  have n3 : gt ≠ gc := fun e => hd gc rfl (by rw [e]; rfl)
  have n4 : w.heap.size ≠ gc := hx3.ne_ hbl (by decide)
  have n5 : w.heap.size ≠ gt := hx3.ne_ hbt (by decide)
  have n6 : w.heap.size ≠ g := hx3.ne_ hg (by decide)
  have n7 : w.heap.size + 1 ≠ gc := hz3.ne_ hbl (by decide)
  have n8 : w.heap.size + 1 ≠ gt := hz3.ne_ hbt (by decide)
  have n9 : w.heap.size + 1 ≠ g := hz3.ne_ hg (by decide)
  have lb : w3.heap.size < (w3.alloc (.cells (boxP p) 35)).heap.size := by simp
  have hbx := Blk.new w3 35 (boxP p)
  have na : w3.heap.size ≠ gc := hbx.ne_ hbl (by decide)
  have nb : w3.heap.size ≠ gt := hbx.ne_ hbt (by decide)
  have nc : w3.heap.size ≠ g := hbx.ne_ hg (by decide)
  have nd : w.heap.size + 1 ≠ w3.heap.size := by have := (Hk2.out.1.fr0 hf).lt; omega
  have n1' := n1.symm
  have n2' := n2.symm
  have n3' := n3.symm
  have n4' := n4.symm
  have n5' := n5.symm
  have n6' := n6.symm
  have n7' := n7.symm
  have n8' := n8.symm
  have n9' := n9.symm
  have na' := na.symm
  have nb' := nb.symm
  have nc' := nc.symm
  have nd' := nd.symm
  have i0 : (0 : Int) ≤ (n : Int) := by omega
  have i1 : (n : Int) < (ps.length : Int) := by omega
  have hg4 := hg.fr hcf (by simp [n1])
  have ht4 := row_fr ht hcf (by simp [Value.ownBlock, n3])
  have hx4 := hx3.fr hcf (by simp [n4])
  have hz4 := hz3.fr hcf (by simp [n7])
  have hbx4 := hbx.fr hcf (by simp [na])
  have hfw4 : Fr [g, gc, gt] w w4 := (hfw.any _).trans (hcf.mono (by simp))
  have e3 := hg4.at_ 3 (v := .slice (some ⟨gt, 0, none⟩) ps.length ct) (by rfl)
  have etn := row_cell ht4 (i := n) (u := .int .i64 p.t) (ticks_get hp)
  have ex5 := hx4.at_ 5 (v := .int .i64 t) (by rfl)
  have ft := row_frozen ht4
  have fz := hz4.frozen
  have lg := hg4.lt
  have lz := hz4.lt
  have lx := hx4.lt
  have lbx := hbx4.lt
  obtain ⟨r0, r1, r2, r3, r4, r5⟩ := blk6 hz4
  have hS : S = [g, gc, gt] := by rw [hSS]; simp [Value.ownBlock]
  have HS := hide hS
  have Hbig := hide (And.intro hg4 (And.intro ht4 (And.intro hz4 (And.intro hfw4 (And.intro hb4 (And.intro hsz (And.intro htk (And.intro hmc (And.intro hcc (And.intro hfit (And.intro hp (And.intro hq hbx4))))))))))))
  obtain ⟨pc, u0, u1, u2, u3, pt⟩ := p
  obtain ⟨d0, d1, d2, d3, d4, d5⟩ := blk6 hbx4
  simp only [encP, boxP] at hcp ⊢
  clear hg hc ht hd hfit hSS hfw hz3 hx3 hp hq h hf hb3 hbl hbt hsz htk hmc hmt hcc hct lim Hk2 Hg H hb4 hcf hg4 ht4 hx4 hz4 hfw4 hS hbx hbx4
  go_wp2_with fail
  go_region_held3 (fun w' => w'.cell? ⟨g, 3, none⟩ = some (.slice (some ⟨gt, 0, none⟩) ps.length ct) ∧ w'.cell? ⟨w.heap.size, 5, none⟩ = some (.int .i64 t)) (go_keep) (fail)
  rename_i hHeld
  clear hHeld
  obtain ⟨hg4, ht4, hz4, hfw4, hb4, hsz, htk, hmc, hcc, hfit, hp, hq, hbx4⟩ := Hbig.out
  have hcol := col_put hg4 hb4 hBc hcc hmc hsz htk ht4 hB n1 n2 n3' hfit hp h3 hq
  have hf5 : Fr [g, gc, gt] w (w4.setCell ⟨gt, n, none⟩ (.int .i64 t)).drew := (hfw4.setCell (p := ⟨gt, n, none⟩) (by simp) _).drew
  have hz5 := (hz4.far (p := ⟨gt, n, none⟩) n8 (.int .i64 t)).drew
  have hbx5 := (hbx4.far (p := ⟨gt, n, none⟩) nb (.int .i64 t)).drew
  have hcol5 := hcol.fr0 ((Fr.refl [] _).drew)
  have HB := hide (And.intro hcol5 (And.intro hf5 hz5))
  have hbx6 := hbx5
  clear hg4 ht4 hz4 hfw4 hb4 hsz htk hmc hcc hfit hp hq hbx4 hcol hf5 hz5 hcol5 Hbig r0 r1 r2 r3 r4 r5 fz e3 etn ex5 ft lg lx lz lbx d0 d1 d2 d3 d4 d5 hcp hbx5
  generalize World.drew _ = w5 at HB hbx6 ⊢
  obtain ⟨hcol, hf3, hz3⟩ := HB.out
  obtain ⟨d0, d1, d2, d3, d4, d5⟩ := blk6 hbx6
  obtain ⟨r0, r1, r2, r3, r4, r5⟩ := blk6 hz3
  have fz := hz3.frozen
  have lz := hz3.lt
  have lbx := hbx6.lt
  clear hcol hf3 hz3 hbx6
  go_wp2_with fail
  obtain ⟨hcol, hf3, hz3⟩ := HB.out
  have hst := (Fr.set6in (Fr.refl [w.heap.size + 1] w5) (g := w.heap.size + 1) (by simp) (.int .i64 pc) (.int .i64 u0) (.int .i64 u1) (.int .i64 u2) (.int .i64 u3) (.int .i64 pt))
  have hz := (hz3.set6 (.int .i64 pc) (.int .i64 u0) (.int .i64 u1) (.int .i64 u2) (.int .i64 u3) (.int .i64 pt))
  have hcol9 := hide (hcol.fr hst (by simp; exact ⟨n9', n7', n8'⟩))
  have hf9 := hide (hf3.step hst (by simp))
  clear hcol hst hf3 hz3 HB r0 r1 r2 r3 r4 r5 d0 d1 d2 d3 d4 d5 fz lz lbx
  generalize World.setCell _ _ _ = w9 at hcol9 hf9 hz ⊢
  obtain ⟨z0, z1, z2, z3, z4, z5⟩ := blk6 hz
  refine bodyPost_ret (v := .tuple #[.agg #[.int .i64 pc, .int .i64 u0, .int .i64 u1, .int .i64 u2, .int .i64 u3, .int .i64 pt], .nilIface]) (by simp [results, Tryd.results16, go_sem, z0, z1, z2, z3, z4, z5]) rfl ⟨rfl, ?_, ?_⟩
  · rw [HS.out]; exact hcol9.out
  · rw [HS.out]; exact hf9.out
end Go.Proofs.YtgifeligogjfiaaDoor
