/- Package column by contracts: Set. -/
import Derived.Test.YtgifeligogjfiaaDoorTakeCol
namespace Go.Proofs.YtgifeligogjfiaaDoor
open Go.RowKit

/-- a part whose cell j and whose tick are others -/
def setP (p : Pt) (j : Nat) (v t : Int) : Pt :=
  if j = 0 then ⟨p.c, v, p.v1, p.v2, p.v3, t⟩ else if j = 1 then ⟨p.c, p.v0, v, p.v2, p.v3, t⟩ else if j = 2 then ⟨p.c, p.v0, p.v1, v, p.v3, t⟩ else ⟨p.c, p.v0, p.v1, p.v2, v, t⟩
theorem setP_t (p : Pt) (j : Nat) (v t : Int) : (setP p j v t).t = t := by unfold setP; split <;> (try rfl); split <;> (try rfl); split <;> rfl
theorem setP_c (p : Pt) (j : Nat) (v t : Int) : (setP p j v t).c = p.c := by unfold setP; split <;> (try rfl); split <;> (try rfl); split <;> rfl
theorem setP_vs (p : Pt) {j : Nat} (hj : j < 4) (v t : Int) : vsOf (setP p j v t) = (vsOf p).set j (.int .i64 v) := by
  obtain rfl | rfl | rfl | rfl : j = 0 ∨ j = 1 ∨ j = 2 ∨ j = 3 := by omega
  all_goals rfl
theorem setP_cells (p : Pt) {j k : Nat} (hj : j < 4) (v t : Int) : (cellsOf k p).set j (.int .i64 v) = cellsOf k (setP p j v t) := by
  unfold cellsOf; rw [setP_vs p hj, List.take_set]
theorem setP_fits {comp : Int} {k : Nat} {p : Pt} (h : Fits comp k p) {j : Nat} (hj : j < k) (v t : Int) : Fits comp k (setP p j v t) := by
  obtain ⟨h0, h1, h2, h3⟩ := h
  unfold setP Fits
  split
  · exact ⟨h0, h1, h2, h3⟩
  · split
    · exact ⟨h0, fun _ => by omega, h2, h3⟩
    · split
      · exact ⟨h0, h1, fun _ => by omega, h3⟩
      · exact ⟨h0, h1, h2, fun _ => by omega⟩
theorem fits_set {comp : Int} {k : Nat} {ps : List Pt} (h : ∀ p ∈ ps, Fits comp k p) {n : Nat} {q : Pt} (hq : Fits comp k q) : ∀ p ∈ ps.set n q, Fits comp k p := by
  intro p hp
  rcases List.mem_or_eq_of_mem_set hp with hp | rfl
  · exact h p hp
  · exact hq

theorem col_set {B : Nat} {w : World} {g gc gt : Nat} {comp : Int} {k cc ct n : Nat} {ps : List Pt} {p : Pt}
    (hg : Blk w g 67 #[.int .i64 comp, .int .i64 k, .slice (some ⟨gc, 0, none⟩) (ps.length * k) cc, .slice (some ⟨gt, 0, none⟩) ps.length ct])
    (hc : w.ownsRow B 3 1 (.slice (some ⟨gc, 0, none⟩) (ps.length * k) cc) (ps.length * k) (ps.flatMap (cellsOf k)))
    (ht : w.ownsRow B 3 1 (.slice (some ⟨gt, 0, none⟩) ps.length ct) ps.length (ticksOf ps))
    (hB : B ≤ g) (n1 : g ≠ gc) (n2 : g ≠ gt) (n3 : gc ≠ gt) (hfit : ∀ p ∈ ps, Fits comp k p) (hp : ps[n]? = some p) {j : Nat} (hj : j < k) (h3 : k ≤ 4) (v t : Int) :
    ColR B ((w.setCell ⟨gc, n * k + j, none⟩ (.int .i64 v)).setCell ⟨gt, n, none⟩ (.int .i64 t)) g comp k (ps.set n (setP p j v t)) [g, gc, gt] := by
  have hn : n < ps.length := (List.getElem?_eq_some_iff.1 hp).1
  have lim : n * k + j < (ps.length * k) * 1 := by
    have : (n + 1) * k ≤ ps.length * k := Nat.mul_le_mul_right _ hn
    rw [Nat.add_mul] at this
    omega
  refine ⟨.slice (some ⟨gc, 0, none⟩) (ps.length * k) cc, .slice (some ⟨gt, 0, none⟩) ps.length ct, hB, ?_, ?_, ?_, ?_, fits_set hfit (setP_fits (hfit p (List.mem_of_getElem? hp)) hj v t), by simp [Value.ownBlock]⟩
  · exact (hg.far (p := ⟨gc, n * k + j, none⟩) n1 _).far (p := ⟨gt, n, none⟩) n2 _
  · rw [List.length_set, ← flat_set (cellsOf_len h3) hp j hj (.int .i64 v) (setP_cells p (by omega) v t)]
    exact row_far (row_store hc (n * k + j) lim (.int .i64 v)) (p := ⟨gt, n, none⟩) (by simp [Value.ownBlock, n3]) _
  · rw [List.length_set]
    have e : ticksOf (ps.set n (setP p j v t)) = (ticksOf ps).set n (.int .i64 t) := by simp [ticksOf, List.map_set, setP_t]
    rw [e]
    exact row_store (row_far ht (p := ⟨gc, n * k + j, none⟩) (by simp [Value.ownBlock, Ne.symm n3]) _) n (by omega) _
  · intro b hb
    have hb' : gc = b := by simpa [Value.ownBlock] using hb
    subst hb'
    simp [Value.ownBlock, Ne.symm n3]

set_option maxRecDepth 100000 in
set_option maxHeartbeats 800000 in
theorem Set_ok {B : Nat} {w : World} {g : Nat} {comp : Int} {k : Nat} {ps : List Pt} {S : List Nat} (h : ColR B w g comp k ps S) (h2 : 1 ≤ k) (h3 : k ≤ 4) (hl : ps.length ≤ 1000000) {n : Nat} {p : Pt} (hp : ps[n]? = some p) {j : Nat} (hj : j < k) (v fr : Int) :
    Calls Tryd.prog 13 #[.pointer (some ⟨g, 0, none⟩), .int .i64 n, .int .i64 j, .int .i64 v, .int .i64 fr] w fun e w' => e = .returned (.tuple #[encP p, .nilIface]) ∧ ColR B w' g comp k (ps.set n (setP p j v fr)) S ∧ Fr S w w' := by
  have hn : n < ps.length := (List.getElem?_eq_some_iff.1 hp).1
  have Hf := hide (row_ok (h.alloc (.cells #[.int .i64 0, .int .i64 0, .int .i64 0, .int .i64 0, .int .i64 0, .int .i64 0] 35)) h2 h3 hl n hn)
  have H := hide (And.intro h (And.intro (zero6 w) (And.intro ((Fr.refl [] w).alloc (.cells #[.int .i64 0, .int .i64 0, .int .i64 0, .int .i64 0, .int .i64 0, .int .i64 0] 35)) hp)))
  have j0 : (0 : Int) ≤ (j : Int) := by omega
  have j1 : (j : Int) < (k : Int) := by omega
  clear h hp
  go_enter Tryd.func13, Tryd.ntmps13
  go_wp2_with fail
  refine Hf.out.mono ?_
  rintro e w1 ⟨gc, cc, vt, hb, rfl, hf⟩
  obtain ⟨h, hz, hf0, hp⟩ := H.out
  have Hg := hide (part_ok (d := cc - n * k) (h.fr0 (hf0.trans hf)) h2 h3 hp hl (hb.fr0 hf))
  have Hk := hide (And.intro (hz.fr0 hf) (And.intro (hf0.trans hf) (hb.fr0 hf)))
  obtain ⟨m, hm⟩ : ∃ m, m = n * k := ⟨_, rfl⟩
  rw [← hm]
  rw [← hm] at Hg
  have Hm := hide hm
  clear hb hf h hz hf0 hp Hf hm
  go_wp2_with fail
  refine Hg.out.mono ?_
  rintro e w2 ⟨rfl, hf⟩
  obtain ⟨h, hz, hf0, hp⟩ := H.out
  have hcol := h.fr0 (Hk.out.2.1.trans hf)
  have hfw := Hk.out.2.1.trans hf
  have hb2 := Hk.out.2.2.fr0 hf
  have hz2 := Hk.out.1.fr0 hf
  obtain ⟨vc', vt', hB, hg, hc, ht, hd, hfit, hSS⟩ := hcol
  have he := hg.unique hb2
  simp only [Array.mk.injEq, List.cons.injEq, and_true, true_and] at he
  obtain ⟨rfl, rfl⟩ := he
  rcases row_form ht with ⟨_, h0, _⟩ | ⟨gt, ct, rfl, hBt, lt_, hct, hmt⟩
  · omega
  obtain ⟨cur, hbl, hBc, hcc, hmc, hsz, htk⟩ := row_blk hc
  obtain ⟨curt, hbt, _⟩ := row_blk ht
  have hcl := (cellsOf_len h3 p)
  have hcx : (ps.flatMap (cellsOf k))[n * k + j]? = some ((cellsOf k p)[j]'(by omega)) := by rw [flat_get (cellsOf_len h3) hp j hj]; simp
  have cm := row_cell hc (i := n * k + j) hcx
  have lim : n * k + j < (ps.length * k) * 1 := by
    have : (n + 1) * k ≤ ps.length * k := Nat.mul_le_mul_right _ hn
    rw [Nat.add_mul] at this
    omega
  rw [← Hm.out] at cm
  generalize (cellsOf k p)[j]'_ = old at cm
  have c3 := hg.at_ 3 (v := .slice (some ⟨gt, 0, none⟩) ps.length ct) (by rfl)
  have ctn := row_cell ht (i := n) (u := .int .i64 p.t) (ticks_get hp)
  have fc := hbl.frozen
  have ft := hbt.frozen
  have lg := hg.lt
  have lc := hbl.lt
  have lz := hz2.lt
  have n1 : g ≠ gc := hg.ne_ hbl (by decide)
  have n2 : g ≠ gt := hg.ne_ hbt (by decide)
  have n3 : gt ≠ gc := fun e => hd gc rfl (by rw [e]; rfl)
  have n7 : w.heap.size ≠ gc := hz2.ne_ hbl (by decide)
  have n8 : w.heap.size ≠ gt := hz2.ne_ hbt (by decide)
  have n9 : w.heap.size ≠ g := hz2.ne_ hg (by decide)
  have n1' := n1.symm
  have n2' := n2.symm
  have n3' := n3.symm
  have n7' := n7.symm
  have n8' := n8.symm
  have n9' := n9.symm
  have i0 : (0 : Int) ≤ (n : Int) := by omega
  have i1 : (n : Int) < (ps.length : Int) := by omega
  obtain ⟨r0, r1, r2, r3, r4, r5⟩ := blk6 hz2
  have fz := hz2.frozen
  have Hbig := hide (And.intro hg (And.intro hc (And.intro ht (And.intro hfit (And.intro hSS (And.intro hfw (And.intro hz2 (And.intro hp lim))))))))
  clear hg hc ht hd hfit hSS hfw hz2 hp h hz hf0 hf hb2 hbl hbt hsz htk hmc hmt hcl hcx lim Hk Hg H hcc hct
  obtain ⟨c, v0, v1, v2, v3, t⟩ := p
  simp only [encP, boxP]
  go_wp2_with fail
  obtain ⟨hg, hc, ht, hfit, hSS, hfw, hz2, hp, lim⟩ := Hbig.out
  have hcol := col_set hg hc ht hB n1 n2 n3' hfit hp hj h3 v fr
  rw [← Hm.out] at hcol
  have hS : S = [g, gc, gt] := by rw [hSS]; simp [Value.ownBlock]
  have hf3 : Fr [g, gc, gt] w ((w2.setCell ⟨gc, m + j, none⟩ (.int .i64 v)).setCell ⟨gt, n, none⟩ (.int .i64 fr)) := ((hfw.any _).setCell (p := ⟨gc, m + j, none⟩) (by simp) _).setCell (p := ⟨gt, n, none⟩) (by simp) _
  have hz3 := (hz2.far (p := ⟨gc, m + j, none⟩) n7 (.int .i64 v)).far (p := ⟨gt, n, none⟩) n8 (.int .i64 fr)
  have HS := hide hS
  have HB := hide (And.intro hcol (And.intro hf3 hz3))
  clear hg hc ht hfit hSS hfw hz2 hp lim hcol hf3 hz3 hS Hbig r0 r1 r2 r3 r4 r5 fz c3 ctn fc ft cm lg lc lz
  generalize World.setCell (World.setCell w2 _ _) _ _ = w3 at HB ⊢
  obtain ⟨hcol, hf3, hz3⟩ := HB.out
  have hst := (Fr.set6in (Fr.refl [w.heap.size] w3) (g := w.heap.size) (by simp) (.int .i64 c) (.int .i64 v0) (.int .i64 v1) (.int .i64 v2) (.int .i64 v3) (.int .i64 t)).alloc (.cells #[.int .i64 c, .int .i64 v0, .int .i64 v1, .int .i64 v2, .int .i64 v3, .int .i64 t] 35)
  have hz := (hz3.set6 (.int .i64 c) (.int .i64 v0) (.int .i64 v1) (.int .i64 v2) (.int .i64 v3) (.int .i64 t)).alloc (.cells #[.int .i64 c, .int .i64 v0, .int .i64 v1, .int .i64 v2, .int .i64 v3, .int .i64 t] 35)
  have hcol9 := hide (hcol.fr hst (by simp; exact ⟨n9', n7', n8'⟩))
  have hf9 := hide (hf3.step hst (by simp))
  clear hcol hst hf3 hz3 HB
  generalize World.alloc _ _ = w9 at hcol9 hf9 hz ⊢
  obtain ⟨z0, z1, z2, z3, z4, z5⟩ := blk6 hz
  refine bodyPost_ret (v := .tuple #[.agg #[.int .i64 c, .int .i64 v0, .int .i64 v1, .int .i64 v2, .int .i64 v3, .int .i64 t], .nilIface]) (by simp [results, Tryd.results13, go_sem, z0, z1, z2, z3, z4, z5]) rfl ⟨rfl, ?_, ?_⟩
  · rw [HS.out]; exact hcol9.out
  · rw [HS.out]; exact hf9.out
end Go.Proofs.YtgifeligogjfiaaDoor
