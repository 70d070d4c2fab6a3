/- Package column by contracts: Row, Len, what is refused. -/
import Derived.Test.YtgifeligogjfiaaDoorPush
namespace Go.Proofs.YtgifeligogjfiaaDoor
open Go.RowKit

def zP : Pt := ⟨0, 0, 0, 0, 0, 0⟩
/-- what 'row' refuses, in every world behind w -/
def RowErr (w : World) (ad : Nat → Addr) (r : Value) (n : Int) (j : Nat) : Prop :=
  ∀ w1, Fr [] w w1 → Calls Tryd.prog 30 #[r, .int .i64 n] w1 fun e w' => ∃ v, e = .returned (.tuple #[.slice none 0 0, v]) ∧ NewErr w1 w' ad v j ∧ Fr [] w1 w'
theorem rowErr_nil {K : List Nat} {B : Nat} {w : World} {ad : Nat → Addr} (hs : Sents K B w ad) (hK : 2 ∈ K) (n : Int) : RowErr w ad (.pointer none) n 2 := fun _ hf => row_nil (hs.fr0 hf) hK n
theorem rowErr_none {K : List Nat} {B : Nat} {w : World} {ad : Nat → Addr} (hs : Sents K B w ad) (hK : 7 ∈ K) {g : Nat} {comp : Int} {k : Nat} {ps : List Pt} {S : List Nat} (h : ColR B w g comp k ps S) (hl : ps.length ≤ 1000000) (n : Int) (hn : n < 0 ∨ (ps.length : Int) ≤ n) :
    RowErr w ad (.pointer (some ⟨g, 0, none⟩)) n 7 := fun _ hf => row_none (hs.fr0 hf) hK (h.fr0 hf) hl n hn

/-! ### the end of a body whose first result is a part in a cell -/
theorem zero6 (w : World) : Blk (w.alloc (.cells #[.int .i64 0, .int .i64 0, .int .i64 0, .int .i64 0, .int .i64 0, .int .i64 0] 35)) w.heap.size 35 #[.int .i64 0, .int .i64 0, .int .i64 0, .int .i64 0, .int .i64 0, .int .i64 0] := Blk.new _ _ _

set_option maxRecDepth 100000 in
set_option maxHeartbeats 4000000 in
theorem Row_err {w : World} {ad : Nat → Addr} {r : Value} {n : Int} {j : Nat} (h : RowErr w ad r n j) :
    Calls Tryd.prog 12 #[r, .int .i64 n] w fun e w' => ∃ v, e = .returned (.tuple #[encP zP, v]) ∧ NewErr w w' ad v j ∧ Fr [] w w' := by
  have Hf := hide (h _ ((Fr.refl [] w).alloc (.cells #[.int .i64 0, .int .i64 0, .int .i64 0, .int .i64 0, .int .i64 0, .int .i64 0] 35)))
  have Hz := hide (zero6 w)
  have H0 := hide ((Fr.refl [] w).alloc (.cells #[.int .i64 0, .int .i64 0, .int .i64 0, .int .i64 0, .int .i64 0, .int .i64 0] 35))
  clear h
  go_enter Tryd.func12, Tryd.ntmps12
  go_wp2_with fail
  refine Hf.out.mono ?_
  rintro e w1 ⟨v, rfl, hn, hf⟩
  obtain ⟨t, a, rfl⟩ := hn.form
  have hb := Hz.out.fr0 hf
  have hfz := hb.frozen
  have hbl := hb.lt
  obtain ⟨r0, r1, r2, r3, r4, r5⟩ := blk6 hb
  have Hn := hide (And.intro hn (And.intro (H0.out.trans hf) (Blk.set6 hb (.int .i64 0) (.int .i64 0) (.int .i64 0) (.int .i64 0) (.int .i64 0) (.int .i64 0))))
  clear hn hf Hz H0 hb Hf
  go_wp2_with fail
  obtain ⟨hn, hf, hz⟩ := Hn.out
  have Hfz := hide (hf.set6 (g := w.heap.size) (Nat.le_refl _) (.int .i64 0) (.int .i64 0) (.int .i64 0) (.int .i64 0) (.int .i64 0) (.int .i64 0))
  have Hnz := hide (hn.elder (w0 := w) (by simp))
  have Hnn := hide (NewErr.set6 hn (g := w.heap.size) (by simp) (.int .i64 0) (.int .i64 0) (.int .i64 0) (.int .i64 0) (.int .i64 0) (.int .i64 0))
  clear r0 r1 r2 r3 r4 r5 hfz hbl Hn hn hf
  generalize World.setCell _ _ _ = w9 at hz Hfz Hnn ⊢
  obtain ⟨z0, z1, z2, z3, z4, z5⟩ := blk6 hz
  refine bodyPost_ret (v := .tuple #[encP zP, _]) (by simp [results, Tryd.results12, go_sem, boxP, zP, z0, z1, z2, z3, z4, z5]) rfl ⟨_, rfl, Hnn.out.elder (by simp), Hfz.out⟩

set_option maxRecDepth 100000 in
set_option maxHeartbeats 4000000 in
theorem Row_ok {B : Nat} {w : World} {g : Nat} {comp : Int} {k : Nat} {ps : List Pt} {S : List Nat} (h : ColR B w g comp k ps S) (h2 : 1 ≤ k) (h3 : k ≤ 4) (hl : ps.length ≤ 1000000) {n : Nat} {p : Pt} (hp : ps[n]? = some p) :
    Calls Tryd.prog 12 #[.pointer (some ⟨g, 0, none⟩), .int .i64 n] w fun e w' => e = .returned (.tuple #[encP p, .nilIface]) ∧ Fr [] w w' := by
  have hn : n < ps.length := (List.getElem?_eq_some_iff.1 hp).1
  have Hf := hide (row_ok (h.alloc (.cells #[.int .i64 0, .int .i64 0, .int .i64 0, .int .i64 0, .int .i64 0, .int .i64 0] 35)) h2 h3 hl n hn)
  have H := hide (And.intro h (And.intro (zero6 w) (And.intro ((Fr.refl [] w).alloc (.cells #[.int .i64 0, .int .i64 0, .int .i64 0, .int .i64 0, .int .i64 0, .int .i64 0] 35)) hp)))
  clear h hp hn
  go_enter Tryd.func12, Tryd.ntmps12
  go_wp2_with fail
  refine Hf.out.mono ?_
  rintro e w1 ⟨gc, cc, vt, hb, rfl, hf⟩
  obtain ⟨h, hz, hf0, hp⟩ := H.out
  have Hg := hide (part_ok (d := cc - n * k) (h.fr0 (hf0.trans hf)) h2 h3 hp hl (hb.fr0 hf))
  have Hk := hide (And.intro (hz.fr0 hf) (hf0.trans hf))
  generalize n * k = m at *
  generalize ps.length * k = len at *
  clear hb hf h hz hf0 hp H Hf
  go_wp2_with fail
  refine Hg.out.mono ?_
  rintro e w2 ⟨rfl, hf⟩
  have hb := Hk.out.1.fr0 hf
  have hfz := hb.frozen
  have hbl := hb.lt
  obtain ⟨r0, r1, r2, r3, r4, r5⟩ := blk6 hb
  obtain ⟨c, v0, v1, v2, v3, t⟩ := p
  have Hn := hide (And.intro (Hk.out.2.trans hf) (Blk.set6 hb (.int .i64 c) (.int .i64 v0) (.int .i64 v1) (.int .i64 v2) (.int .i64 v3) (.int .i64 t)))
  simp only [encP, boxP]
  clear hf hb Hk Hg
  go_wp2_with fail
  obtain ⟨hf, hz⟩ := Hn.out
  have Hfz := hide (hf.set6 (g := w.heap.size) (Nat.le_refl _) (.int .i64 c) (.int .i64 v0) (.int .i64 v1) (.int .i64 v2) (.int .i64 v3) (.int .i64 t))
  clear r0 r1 r2 r3 r4 r5 hfz hbl Hn hf
  generalize World.setCell _ _ _ = w9 at hz Hfz ⊢
  obtain ⟨z0, z1, z2, z3, z4, z5⟩ := blk6 hz
  refine bodyPost_ret (v := .tuple #[.agg #[.int .i64 c, .int .i64 v0, .int .i64 v1, .int .i64 v2, .int .i64 v3, .int .i64 t], .nilIface]) (by simp [results, Tryd.results12, go_sem, z0, z1, z2, z3, z4, z5]) rfl ⟨rfl, Hfz.out⟩

/-! ### Len -/
theorem Len_calls {B : Nat} {w : World} {g : Nat} {comp : Int} {k : Nat} {ps : List Pt} {S : List Nat} (h : ColR B w g comp k ps S) :
    Calls Tryd.prog 10 #[.pointer (some ⟨g, 0, none⟩)] w fun e w' => e = .returned (.int .i64 ps.length) ∧ Fr [] w w' := by
  obtain ⟨vc, vt, hB, hg, -, ht, -, -, -⟩ := h
  have lg := hg.lt
  rcases row_form ht with ⟨rfl, h2, _⟩ | ⟨gt, ct, rfl, _⟩
  all_goals
    have c3 := hg.at_ 3 (by rfl)
    clear hg ht
    go_enter Tryd.func10, Tryd.ntmps10
    go_wp2
    go_ret
    refine ⟨ret_eq (int_eq (by omega)), ?_⟩
    (repeat (first | exact Fr.refl _ _ | apply Fr.drew | apply Fr.drewN | apply Fr.alloc | (refine Fr.setCell ?_ (by first | (left; simp [Value.ownBlock]; done) | (right; simp; omega) | (right; simp; done)) _)))
theorem Len_nil (w : World) : Calls Tryd.prog 10 #[.pointer none] w fun e w' => e = .returned (.int .i64 0) ∧ w = w' := by
  go_enter Tryd.func10, Tryd.ntmps10
  go_wp2
  go_ret
  exact ⟨rfl, rfl⟩

/-! ### Push, refused -/
theorem push_nil {K : List Nat} {B : Nat} {w : World} {ad : Nat → Addr} (hs : Sents K B w ad) (hK : 2 ∈ K) (p : Pt) :
    Calls Tryd.prog 9 #[.pointer none, encP p] w fun e w' => ∃ v, e = .returned (.tuple #[.int .i64 0, v]) ∧ NewErr w w' ad v 2 ∧ Fr [] w w' := by
  have c2 := (hs.fr0 ((Fr.refl [] w).alloc (.cells (boxP p) 35))).cell 2 hK
  simp only [gOf] at c2
  have H0 := hide ((Fr.refl [] w).alloc (.cells (boxP p) 35))
  clear hs
  obtain ⟨c, v0, v1, v2, v3, t⟩ := p
  simp only [encP, boxP] at *
  go_enter Tryd.func9, Tryd.ntmps9
  go_wp2_with fail
  refine wrong_sent.mono ?_
  rintro e w' ⟨v, rfl, hn, hf⟩
  obtain ⟨t, a, rfl⟩ := hn.form
  have Hn := hide (And.intro hn hf)
  clear hn hf
  go_wp2
  go_ret2
  exact ⟨_, rfl, Hn.out.1.elder (by simp), H0.out.trans Hn.out.2⟩
theorem push_err {K : List Nat} {B : Nat} {w : World} {ad : Nat → Addr} (hs : Sents K B w ad) (hK : 1 ∈ K) {g : Nat} {comp : Int} {k : Nat} {ps : List Pt} {S : List Nat} (h : ColR B w g comp k ps S) (h2 : 1 ≤ k) (h3 : k ≤ 4) (p : Pt) (hp : ¬ Fits comp k p) :
    Calls Tryd.prog 9 #[.pointer (some ⟨g, 0, none⟩), encP p] w fun e w' => ∃ v, e = .returned (.tuple #[.int .i64 0, v]) ∧ NewErr w w' ad v 1 ∧ Fr [] w w' := by
  have Hf := hide (fits_calls (h.alloc (.cells (boxP p) 35)) h2 h3 p)
  rw [decide_eq_false hp] at Hf
  have H0 := hide (And.intro ((Fr.refl [] w).alloc (.cells (boxP p) 35)) hs)
  clear h hs hp
  obtain ⟨c, v0, v1, v2, v3, t⟩ := p
  simp only [encP, boxP] at *
  go_enter Tryd.func9, Tryd.ntmps9
  go_wp2_with fail
  refine Hf.out.mono ?_
  rintro e w1 ⟨rfl, hf⟩
  have hf1 := H0.out.1.trans hf
  have c2 := (H0.out.2.fr0 hf1).cell 1 hK
  simp only [gOf] at c2
  have H1 := hide hf1
  clear hf hf1 H0 Hf
  go_wp2_with fail
  refine wrong_sent.mono ?_
  rintro e w' ⟨v, rfl, hn, hf⟩
  obtain ⟨t, a, rfl⟩ := hn.form
  have Hn := hide (And.intro hn hf)
  clear hn hf
  go_wp2
  go_ret2
  exact ⟨_, rfl, Hn.out.1.elder H1.out.size, H1.out.trans Hn.out.2⟩
end Go.Proofs.YtgifeligogjfiaaDoor
