/- Package column by contracts: what Set, Put and Take refuse. -/
import Derived.Test.YtgifeligogjfiaaDoorPutCol
namespace Go.Proofs.YtgifeligogjfiaaDoor
open Go.RowKit

set_option maxRecDepth 100000 in
set_option maxHeartbeats 4000000 in
theorem Set_err {w : World} {ad : Nat → Addr} {r : Value} {n : Int} {j : Nat} (h : RowErr w ad r n j) (c v fr : Int) :
    Calls Tryd.prog 13 #[r, .int .i64 n, .int .i64 c, .int .i64 v, .int .i64 fr] w fun e w' => ∃ v, e = .returned (.tuple #[encP zP, v]) ∧ NewErr w w' ad v j ∧ Fr [] w w' := by
  have Hf := hide (h _ ((Fr.refl [] w).alloc (.cells #[.int .i64 0, .int .i64 0, .int .i64 0, .int .i64 0, .int .i64 0, .int .i64 0] 35)))
  have Hz := hide (zero6 w)
  have H0 := hide ((Fr.refl [] w).alloc (.cells #[.int .i64 0, .int .i64 0, .int .i64 0, .int .i64 0, .int .i64 0, .int .i64 0] 35))
  clear h
  go_enter Tryd.func13, Tryd.ntmps13
  go_wp2_with fail
  refine Hf.out.mono ?_
  rintro e w1 ⟨v, rfl, hn, hf⟩
  obtain ⟨t, a, rfl⟩ := hn.form
  have hb := Hz.out.fr0 hf
  have hfz := hb.frozen
  have hbl := hb.lt
  obtain ⟨r0, r1, r2, r3, r4, r5⟩ := blk6 hb
  have Hn := hide (And.intro hn (And.intro (H0.out.trans hf) (Blk.set6 hb (.int .i64 0) (.int .i64 0) (.int .i64 0) (.int .i64 0) (.int .i64 0) (.int .i64 0))))
  clear hn hf Hz H0 hb Hf
  go_wp2_with fail
  obtain ⟨hn, hf, hz⟩ := Hn.out
  have Hfz := hide (hf.set6 (g := w.heap.size) (Nat.le_refl _) (.int .i64 0) (.int .i64 0) (.int .i64 0) (.int .i64 0) (.int .i64 0) (.int .i64 0))
  have Hnn := hide (NewErr.set6 hn (g := w.heap.size) (by simp) (.int .i64 0) (.int .i64 0) (.int .i64 0) (.int .i64 0) (.int .i64 0) (.int .i64 0))
  clear r0 r1 r2 r3 r4 r5 hfz hbl Hn hn hf
  generalize World.setCell _ _ _ = w9 at hz Hfz Hnn ⊢
  obtain ⟨z0, z1, z2, z3, z4, z5⟩ := blk6 hz
  refine bodyPost_ret (v := .tuple #[encP zP, _]) (by simp [results, Tryd.results13, go_sem, boxP, zP, z0, z1, z2, z3, z4, z5]) rfl ⟨_, rfl, Hnn.out.elder (by simp), Hfz.out⟩

set_option maxRecDepth 100000 in
set_option maxHeartbeats 4000000 in
theorem Take_err {w : World} {ad : Nat → Addr} {r : Value} {n : Int} {j : Nat} (h : RowErr w ad r n j) :
    Calls Tryd.prog 11 #[r, .int .i64 n] w fun e w' => ∃ v, e = .returned (.tuple #[encP zP, v]) ∧ NewErr w w' ad v j ∧ Fr [] w w' := by
  have Hf := hide (h _ ((Fr.refl [] w).alloc (.cells #[.int .i64 0, .int .i64 0, .int .i64 0, .int .i64 0, .int .i64 0, .int .i64 0] 35)))
  have Hz := hide (zero6 w)
  have H0 := hide ((Fr.refl [] w).alloc (.cells #[.int .i64 0, .int .i64 0, .int .i64 0, .int .i64 0, .int .i64 0, .int .i64 0] 35))
  clear h
  go_enter Tryd.func11, Tryd.ntmps11
  go_wp2_with fail
  refine Hf.out.mono ?_
  rintro e w1 ⟨v, rfl, hn, hf⟩
  obtain ⟨t, a, rfl⟩ := hn.form
  have hb := Hz.out.fr0 hf
  have hfz := hb.frozen
  have hbl := hb.lt
  obtain ⟨r0, r1, r2, r3, r4, r5⟩ := blk6 hb
  have Hn := hide (And.intro hn (And.intro (H0.out.trans hf) (Blk.set6 hb (.int .i64 0) (.int .i64 0) (.int .i64 0) (.int .i64 0) (.int .i64 0) (.int .i64 0))))
  clear hn hf Hz H0 hb Hf
  go_wp2_with fail
  obtain ⟨hn, hf, hz⟩ := Hn.out
  have Hfz := hide (hf.set6 (g := w.heap.size) (Nat.le_refl _) (.int .i64 0) (.int .i64 0) (.int .i64 0) (.int .i64 0) (.int .i64 0) (.int .i64 0))
  have Hnn := hide (NewErr.set6 hn (g := w.heap.size) (by simp) (.int .i64 0) (.int .i64 0) (.int .i64 0) (.int .i64 0) (.int .i64 0) (.int .i64 0))
  clear r0 r1 r2 r3 r4 r5 hfz hbl Hn hn hf
  generalize World.setCell _ _ _ = w9 at hz Hfz Hnn ⊢
  obtain ⟨z0, z1, z2, z3, z4, z5⟩ := blk6 hz
  refine bodyPost_ret (v := .tuple #[encP zP, _]) (by simp [results, Tryd.results11, go_sem, boxP, zP, z0, z1, z2, z3, z4, z5]) rfl ⟨_, rfl, Hnn.out.elder (by simp), Hfz.out⟩

theorem put_frame (w : World) (q : Pt) : Fr [] w ((w.alloc (.cells (boxP q) 35)).alloc (.cells #[.int .i64 0, .int .i64 0, .int .i64 0, .int .i64 0, .int .i64 0, .int .i64 0] 35)) := by (repeat (first | exact Fr.refl _ _ | apply Fr.drew | apply Fr.drewN | apply Fr.alloc | (refine Fr.setCell ?_ (by first | (left; simp [Value.ownBlock]; done) | (right; simp; omega) | (right; simp; done)) _)))
theorem put_zero (w : World) (q : Pt) : Blk ((w.alloc (.cells (boxP q) 35)).alloc (.cells #[.int .i64 0, .int .i64 0, .int .i64 0, .int .i64 0, .int .i64 0, .int .i64 0] 35)) (w.heap.size + 1) 35 #[.int .i64 0, .int .i64 0, .int .i64 0, .int .i64 0, .int .i64 0, .int .i64 0] := Blk.new_at _ _ _ _ (by simp)

set_option maxRecDepth 100000 in
set_option maxHeartbeats 4000000 in
theorem Put_err {w : World} {ad : Nat → Addr} {r : Value} {n : Int} {j : Nat} (h : RowErr w ad r n j) (q : Pt) :
    Calls Tryd.prog 16 #[r, .int .i64 n, encP q] w fun e w' => ∃ v, e = .returned (.tuple #[encP zP, v]) ∧ NewErr w w' ad v j ∧ Fr [] w w' := by
  have Hf := hide (h _ (put_frame w q))
  have Hz := hide (put_zero w q)
  have H0 := hide (put_frame w q)
  clear h
  obtain ⟨c, v0, v1, v2, v3, t⟩ := q
  simp only [encP, boxP] at Hf Hz H0 ⊢
  go_enter Tryd.func16, Tryd.ntmps16
  go_wp2_with fail
  refine Hf.out.mono ?_
  rintro e w1 ⟨v, rfl, hn, hf⟩
  obtain ⟨t, a, rfl⟩ := hn.form
  have hb := Hz.out.fr0 hf
  have hfz := hb.frozen
  have hbl := hb.lt
  obtain ⟨r0, r1, r2, r3, r4, r5⟩ := blk6 hb
  have Hn := hide (And.intro hn (And.intro (H0.out.trans hf) (Blk.set6 hb (.int .i64 0) (.int .i64 0) (.int .i64 0) (.int .i64 0) (.int .i64 0) (.int .i64 0))))
  clear hn hf Hz H0 hb Hf
  go_wp2_with fail
  obtain ⟨hn, hf, hz⟩ := Hn.out
  have Hfz := hide (hf.set6 (g := w.heap.size + 1) (by omega) (.int .i64 0) (.int .i64 0) (.int .i64 0) (.int .i64 0) (.int .i64 0) (.int .i64 0))
  have Hnn := hide (NewErr.set6 hn (g := w.heap.size + 1) (by simp) (.int .i64 0) (.int .i64 0) (.int .i64 0) (.int .i64 0) (.int .i64 0) (.int .i64 0))
  clear r0 r1 r2 r3 r4 r5 hfz hbl Hn hn hf
  generalize World.setCell _ _ _ = w9 at hz Hfz Hnn ⊢
  obtain ⟨z0, z1, z2, z3, z4, z5⟩ := blk6 hz
  refine bodyPost_ret (v := .tuple #[.agg #[.int .i64 0, .int .i64 0, .int .i64 0, .int .i64 0, .int .i64 0, .int .i64 0], _]) (by simp [results, Tryd.results16, go_sem, z0, z1, z2, z3, z4, z5]) rfl ⟨_, rfl, Hnn.out.elder (by simp; omega), Hfz.out⟩

set_option maxRecDepth 100000 in
set_option maxHeartbeats 4000000 in
theorem Set_arg {K : List Nat} {B : Nat} {w : World} {ad : Nat → Addr} (hs : Sents K B w ad) (hK : 1 ∈ K) {g : Nat} {comp : Int} {k : Nat} {ps : List Pt} {S : List Nat} (h : ColR B w g comp k ps S) (h2 : 1 ≤ k) (h3 : k ≤ 4) (hl : ps.length ≤ 1000000) {n : Nat} (hn : n < ps.length) (j v fr : Int) (hj : j < 0 ∨ (k : Int) ≤ j) :
    Calls Tryd.prog 13 #[.pointer (some ⟨g, 0, none⟩), .int .i64 n, .int .i64 j, .int .i64 v, .int .i64 fr] w fun e w' => ∃ v, e = .returned (.tuple #[encP zP, v]) ∧ NewErr w w' ad v 1 ∧ Fr [] w w' := by
  have Hf := hide (row_ok (h.alloc (.cells #[.int .i64 0, .int .i64 0, .int .i64 0, .int .i64 0, .int .i64 0, .int .i64 0] 35)) h2 h3 hl n hn)
  have H := hide (And.intro hs (And.intro (zero6 w) ((Fr.refl [] w).alloc (.cells #[.int .i64 0, .int .i64 0, .int .i64 0, .int .i64 0, .int .i64 0, .int .i64 0] 35))))
  clear h hs
  by_cases hj1 : j < 0
  all_goals
    try have hj2 : (k : Int) ≤ j := by omega
    clear hj
    go_enter Tryd.func13, Tryd.ntmps13
    go_wp2_with fail
    refine Hf.out.mono ?_
    rintro e w1 ⟨gc, cc, vt, hb, rfl, hf⟩
    obtain ⟨hs, hz, hf0⟩ := H.out
    have hf1 := hf0.trans hf
    have c2 := (hs.fr0 hf1).cell 1 hK
    simp only [gOf] at c2
    have Hk := hide (And.intro (hz.fr0 hf) hf1)
    generalize n * k = m at *
    clear hb hf hs hz hf0 Hf hf1 H
    go_wp2_with fail
    refine wrong_sent.mono ?_
    rintro e w2 ⟨v, rfl, hn2, hf⟩
    obtain ⟨t, a, rfl⟩ := hn2.form
    have hb := Hk.out.1.fr0 hf
    have hfz := hb.frozen
    have hbl := hb.lt
    obtain ⟨r0, r1, r2, r3, r4, r5⟩ := blk6 hb
    have Hn := hide (And.intro hn2 (And.intro (Hk.out.2.trans hf) (And.intro (Blk.set6 hb (.int .i64 0) (.int .i64 0) (.int .i64 0) (.int .i64 0) (.int .i64 0) (.int .i64 0)) (And.intro Hk.out.2.size Hk.out.1.lt))))
    clear hn2 hf Hk hb c2
    go_wp2_with fail
    obtain ⟨hn, hf, hz, hsz, hlt⟩ := Hn.out
    have Hfz := hide (hf.set6 (g := w.heap.size) (Nat.le_refl _) (.int .i64 0) (.int .i64 0) (.int .i64 0) (.int .i64 0) (.int .i64 0) (.int .i64 0))
    have Hnn := hide (NewErr.set6 hn (g := w.heap.size) hlt (.int .i64 0) (.int .i64 0) (.int .i64 0) (.int .i64 0) (.int .i64 0) (.int .i64 0))
    clear r0 r1 r2 r3 r4 r5 hfz hbl Hn hn hf
    generalize World.setCell _ _ _ = w9 at hz Hfz Hnn ⊢
    obtain ⟨z0, z1, z2, z3, z4, z5⟩ := blk6 hz
    refine bodyPost_ret (v := .tuple #[encP zP, _]) (by simp [results, Tryd.results13, go_sem, boxP, zP, z0, z1, z2, z3, z4, z5]) rfl ⟨_, rfl, Hnn.out.elder hsz, Hfz.out⟩

set_option maxRecDepth 100000 in
set_option maxHeartbeats 4000000 in
theorem Put_arg {K : List Nat} {B : Nat} {w : World} {ad : Nat → Addr} (hs : Sents K B w ad) (hK : 1 ∈ K) {g : Nat} {comp : Int} {k : Nat} {ps : List Pt} {S : List Nat} (h : ColR B w g comp k ps S) (h2 : 1 ≤ k) (h3 : k ≤ 4) (hl : ps.length ≤ 1000000) {n : Nat} (hn : n < ps.length) (q : Pt) (hq : ¬ Fits comp k q) :
    Calls Tryd.prog 16 #[.pointer (some ⟨g, 0, none⟩), .int .i64 n, encP q] w fun e w' => ∃ v, e = .returned (.tuple #[encP zP, v]) ∧ NewErr w w' ad v 1 ∧ Fr [] w w' := by
  have hfa := put_frame w q
  have Hf := hide (row_ok (h.fr0 hfa) h2 h3 hl n hn)
  have H := hide (And.intro h (And.intro (put_zero w q) (And.intro ((Blk.new w 35 (boxP q)).alloc (.cells #[.int .i64 0, .int .i64 0, .int .i64 0, .int .i64 0, .int .i64 0, .int .i64 0] 35)) (And.intro hfa (And.intro hs hq)))))
  clear h hq hfa hs
  obtain ⟨c, v0, v1, v2, v3, t⟩ := q
  simp only [encP, boxP] at Hf H ⊢
  go_enter Tryd.func16, Tryd.ntmps16
  go_wp2_with fail
  refine Hf.out.mono ?_
  rintro e w1 ⟨gc, cc, vt, hb, rfl, hf⟩
  obtain ⟨h, hz, hx, hf0, hs, hq⟩ := H.out
  have Hfit := hide (fits_calls (h.fr0 (hf0.trans hf)) h2 h3 ⟨c, v0, v1, v2, v3, t⟩)
  rw [decide_eq_false hq] at Hfit
  have hx1 := hx.fr0 hf
  obtain ⟨x0, x1, x2, x3, x4, x5⟩ := blk6 hx1
  have Hk := hide (And.intro (hz.fr0 hf) (hf0.trans hf))
  generalize n * k = m at *
  clear hb hf h hz hf0 hq hx hx1 Hf
  go_wp2_with fail
  refine Hfit.out.mono ?_
  rintro e w2 ⟨rfl, hf⟩
  have hf1 := Hk.out.2.trans hf
  have c2 := (hs.fr0 hf1).cell 1 hK
  simp only [gOf] at c2
  have Hk2 := hide (And.intro (Hk.out.1.fr0 hf) hf1)
  clear hf hf1 hs Hk H Hfit x0 x1 x2 x3 x4 x5
  go_wp2_with fail
  refine wrong_sent.mono ?_
  rintro e w3 ⟨v, rfl, hn2, hf⟩
  obtain ⟨t, a, rfl⟩ := hn2.form
  have hb := Hk2.out.1.fr0 hf
  have hfz := hb.frozen
  have hbl := hb.lt
  obtain ⟨r0, r1, r2, r3, r4, r5⟩ := blk6 hb
  have Hn := hide (And.intro hn2 (And.intro (Hk2.out.2.trans hf) (And.intro (Blk.set6 hb (.int .i64 0) (.int .i64 0) (.int .i64 0) (.int .i64 0) (.int .i64 0) (.int .i64 0)) (And.intro Hk2.out.2.size Hk2.out.1.lt))))
  clear hn2 hf Hk2 hb c2
  go_wp2_with fail
  obtain ⟨hn, hf, hz, hsz, hlt⟩ := Hn.out
  have Hfz := hide (hf.set6 (g := w.heap.size + 1) (by omega) (.int .i64 0) (.int .i64 0) (.int .i64 0) (.int .i64 0) (.int .i64 0) (.int .i64 0))
  have Hnn := hide (NewErr.set6 hn (g := w.heap.size + 1) hlt (.int .i64 0) (.int .i64 0) (.int .i64 0) (.int .i64 0) (.int .i64 0) (.int .i64 0))
  clear r0 r1 r2 r3 r4 r5 hfz hbl Hn hn hf
  generalize World.setCell _ _ _ = w9 at hz Hfz Hnn ⊢
  obtain ⟨z0, z1, z2, z3, z4, z5⟩ := blk6 hz
  refine bodyPost_ret (v := .tuple #[.agg #[.int .i64 0, .int .i64 0, .int .i64 0, .int .i64 0, .int .i64 0, .int .i64 0], _]) (by simp [results, Tryd.results16, go_sem, z0, z1, z2, z3, z4, z5]) rfl ⟨_, rfl, Hnn.out.elder hsz, Hfz.out⟩
end Go.Proofs.YtgifeligogjfiaaDoor
