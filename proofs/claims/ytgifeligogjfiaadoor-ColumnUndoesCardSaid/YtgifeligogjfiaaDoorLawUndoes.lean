/- ColumnUndoes: the walk of the law. -/
import Derived.Test.YtgifeligogjfiaaDoorParts
namespace Go.Proofs.YtgifeligogjfiaaDoor
open Go.RowKit

def norm (p : Pt) : Pt := ⟨7, p.v0, p.v1, p.v2, 0, p.t⟩
theorem norm_fits (p : Pt) : Fits 7 3 (norm p) := ⟨rfl, by omega, by omega, fun _ => rfl⟩
theorem set_back {ps : List Pt} {k : Nat} {p q : Pt} (h : ps[k]? = some p) : (ps.set k q).set k p = ps := by
  rw [List.set_set]
  exact set_same h

theorem setP_box (p : Pt) {j : Nat} (hj : j < 4) (v t : Int) : (boxP (setP p j v t))[1 + j]? = some (.int .i64 v) := by
  obtain rfl | rfl | rfl | rfl : j = 0 ∨ j = 1 ∨ j = 2 ∨ j = 3 := by omega
  all_goals rfl

set_option maxRecDepth 100000 in
set_option maxHeartbeats 8000000 in
theorem undoes_walk {K : List Nat} {w : World} {ad : Nat → Addr} (hs : Sents K w.heap.size w ad) (h1 : 1 ∈ K) (h2 : 2 ∈ K) (h7 : 7 ∈ K) (A : Option Addr) (len c : Nat) (l : List Pt) (hl : l.length = len) (hlen : len ≤ maxLen)
    (hr : Reads w w.heap.size 6 A len (l.flatMap encB)) (at0 cell0 val : Int) :
    Calls Tryd.prog 5 #[.slice A len c, .int .i64 at0, .int .i64 cell0, .int .i64 val] w fun e w' => e = .returned (.bool true) ∧ Below w.heap.size w w' := by
  unfold maxLen at hlen
  obtain ⟨i9, hi9, hz9, hs9, hb9⟩ := info_parts infoPart
  have C := hide (Cx.start hs)
  have Ha := hide (awake_calls hs h1 h7)
  have Hr := hide hr
  have Hl := hide hl
  clear hs hr hl
  go_enter Tryd.func5, Tryd.ntmps5
  go_wp2_with fail
  refine Ha.out.mono ?_
  rintro e w1 ⟨rfl, hf⟩
  have C1 := hide (C.out.fr0 hf)
  clear hf C Ha
  go_wp2_with fail
  refine (new_ok C1.out.leW 7 3 (by omega) (by omega) (by omega) (by omega)).mono ?_
  rintro e w2 ⟨g, S2, rfl, hr, hf, hnew⟩
  have C2 := hide (C1.out.obj hf hnew fun b hb => (hr.lt b hb).1)
  rw [List.append_nil] at C2
  have R2 := hide hr
  clear hr hf hnew C1
  by_cases h60 : 60 < len
  · go_wp2_with fail
    go_ret
    exact ⟨rfl, C2.out.fr.below (B := w.heap.size) (by simp) (Nat.le_refl _)⟩
  have h60' : len ≤ 60 := by omega
  clear h60
  go_wp2_with fail
  have hG0 : (w2.alloc (.cells #[] 35)).ownsRow w.heap.size 35 6 (.slice (some ⟨w2.heap.size, 0, none⟩) 0 0) 0 (((l.take 0).map norm).flatMap encB) :=
    row_mk (Blk.new w2 35 #[]) C2.out.leW (Nat.le_refl _) (by simp [maxLen]) rfl rfl
  have H0 := hide (And.intro (R2.out.alloc (.cells #[] 35)) (And.intro ((C2.out.fr0 ((Fr.refl [] w2).alloc (.cells #[] 35)))) hG0))
  clear R2 C2 hG0
  go_loopw [11, 12] (fun s11 s12 wr => ∃ (i : Nat) (S : List Nat), i ≤ len ∧ s12 = .int .i64 i ∧ ColR w.heap.size wr g 7 3 ((l.take i).map norm) S ∧ Cx K w.heap.size ad w wr S [] ∧ wr.ownsRow w.heap.size 35 6 s11 i (((l.take i).map norm).flatMap encB)) (fun _ s _ => len - (intOf s).toNat)
  case atStart => exact ⟨0, S2, by omega, rfl, H0.out⟩
  case round =>
    clear H0
    obtain ⟨i, S, hi, rfl, hR, hC, hG⟩ := hrel
    have H := hide (And.intro hR (And.intro hC hG))
    clear hR hC hG
    by_cases hil : i < len
    · obtain ⟨x, hx⟩ : ∃ x, l[i]? = some x := ⟨l[i]'(by have := Hl.out; omega), by simp⟩
      obtain ⟨bA, oA, rfl, hbA, hcA⟩ := Hr.out.at_ encB_len hx Hl.out
      have hbw := H.out.2.1.fr.below (B := w.heap.size) (by simp) (Nat.le_refl _)
      have hw := H.out.2.1.fr.size
      have a0 := (hbw.cell (p := ⟨bA, oA + (i * 6 + 0), none⟩) hbA).trans (hcA 0 (.int .i64 x.c) rfl)
      have a1 := (hbw.cell (p := ⟨bA, oA + (i * 6 + 1), none⟩) hbA).trans (hcA 1 (.int .i64 x.v0) rfl)
      have a2 := (hbw.cell (p := ⟨bA, oA + (i * 6 + 2), none⟩) hbA).trans (hcA 2 (.int .i64 x.v1) rfl)
      have a3 := (hbw.cell (p := ⟨bA, oA + (i * 6 + 3), none⟩) hbA).trans (hcA 3 (.int .i64 x.v2) rfl)
      have a4 := (hbw.cell (p := ⟨bA, oA + (i * 6 + 4), none⟩) hbA).trans (hcA 4 (.int .i64 x.v3) rfl)
      have a5 := (hbw.cell (p := ⟨bA, oA + (i * 6 + 5), none⟩) hbA).trans (hcA 5 (.int .i64 x.t) rfl)
      rw [Nat.add_zero] at a0
      rw [← Nat.add_assoc] at a1 a2 a3 a4 a5
      have i0 : (0 : Int) ≤ (i : Int) := by omega
      have i1 : (i : Int) < (len : Int) := by omega
      have n1 : wr.heap.size ≠ bA := by omega
      have n2 := n1.symm
      have lb : bA < wr.heap.size := by omega
      have htk : (l.take (i + 1)).map norm = (l.take i).map norm ++ [norm x] := by rw [List.take_add_one, hx, List.map_append]; rfl
      have Htk := hide htk
      clear hcA hbw hx htk
      go_wp2_with fail
      refine (push_ok (H.out.1.alloc (.cells (boxP (norm x)) 35)) ((H.out.2.1.alloc 35 (boxP (norm x))).leW) (by omega) (by omega) (norm x) (norm_fits x) (by simp; omega)).mono ?_
      rintro e w4 ⟨rfl, S', hr, hst⟩
      have hb4 := ((H.out.2.1.alloc 35 (boxP (norm x))).stp hst fun b hb => (hr.lt b hb).1).blk (b := wr.heap.size) (t := 35) (cs := boxP (norm x)) (by simp)
      have hC4 := ((H.out.2.1.alloc 35 (boxP (norm x))).stp hst fun b hb => (hr.lt b hb).1).none
      have hG4 := row_fr (H.out.2.2.alloc (.cells (boxP (norm x)) 35)) hst.1 ((H.out.1.alloc (.cells (boxP (norm x)) 35)).apart (H.out.2.2.alloc _) (by decide) (by decide))
      obtain ⟨d0, d1, d2, d3, d4, d5⟩ := blk6 hb4
      have l4 := hb4.lt
      have hsz4 := hC4.fr.size
      have H4 := hide (And.intro hr (And.intro hC4 hG4))
      clear hr hst hb4 hC4 hG4 H a0 a1 a2 a3 a4 a5 n1 n2 lb
      simp only [norm] at d0 d1 d2 d3 d4 d5
      go_wp2_with (at_builtin; refine wpList_append_lies _ rfl _ _ _ rfl w.heap.size 35 i9 _ 6 48 Tryd.underlying44 hi9 hz9 hs9 hb9 rfl (by omega) (u11) (i) (((l.take i).map norm).flatMap encB) rfl ((H4.out.2.2.alloc _)) ⟨w4.heap.size, 0, none⟩ 1 1 [.int .i64 7, .int .i64 x.v0, .int .i64 x.v1, .int .i64 x.v2, .int .i64 0, .int .i64 x.t] rfl rfl (World.news_of_block (cs := #[.int .i64 7, .int .i64 x.v0, .int .i64 x.v1, .int .i64 x.v2, .int .i64 0, .int .i64 x.t]) (t := 35) (fr := (0, 0)) (Blk.new_at _ _ _ _ (by simp))) (by simp [Value.oneCell']) (by omega) (by unfold maxLen; omega) (by omega) (by simp; omega) (w4.heap.size + 1) (by simp) ?_; intro ag9 ac9 aw9 aown9 agrow9 aat9 alt9)
      go_roundw
      case rel =>
        obtain ⟨hr, hC4, hG4⟩ := H4.out
        have hap := hr.apart hG4 (by decide) (by decide)
        have hfr : Fr u11.ownBlock.toList w4 aw9 := ((Fr.refl _ w4).alloc _).grown agrow9 (fun b hb => .inl (by simp [hb]))
        refine ⟨i + 1, S', by omega, by go_num, ?_, ?_, ?_⟩
        · rw [Htk.out]
          exact hr.fr hfr (fun b hb hm => hap b (by simpa using hm) hb)
        · exact hC4.go2 hfr (fun b hb => (row_lt hG4 (by simpa using hb)).2) (fun b hb hm => hap b (by simpa using hm) hb)
        · rw [Htk.out, List.flatMap_append, List.flatMap_singleton]
          exact aown9
      case measure => simp [intOf]; omega
    · obtain rfl : i = len := by omega
      have hlt : l.take i = l := List.take_of_length_le (by have := Hl.out; omega)
      rw [hlt] at H
      have hll := Hl.out
      clear hlt Hr
      by_cases hz : i = 0
      · obtain rfl : l = [] := List.eq_nil_of_length_eq_zero (by omega)
        have hv : ∃ A' c', u11 = .slice A' 0 c' := by
          rcases row_form H.out.2.2 with ⟨rfl, h0, _⟩ | ⟨gk, ck, rfl, _⟩
          · exact ⟨_, _, rfl⟩
          · exact ⟨_, _, by rw [hz]⟩
        obtain ⟨A', c', rfl⟩ := hv
        subst hz
        clear hll hil hi Hl
        go_wp2_with fail
        refine (Set_err (rowErr_none H.out.2.1.sents h7 H.out.1 (by simp) 0 (by right; simp)) 0 0 0).mono ?_
        rintro e w5 ⟨v, rfl, hn, hf⟩
        simp only [encP, boxP, zP]
        obtain ⟨b1, s1, rfl, hc⟩ := H.out.2.1.err hf hn
        have g7 := hc.sents.cell 7 h7
        simp only [gOf] at g7
        have l7 := World.block_lt_of_cell? _ _ g7
        have n7 := World.new_ne _ _ g7
        have Hc := hide (hc.alloc 35 (boxP zP))
        simp only [boxP, zP] at Hc
        clear hc hn hf H
        go_wp2_with fail
        refine (is_chain Hc.out.sents h7 h7 (chain_of (b := b1) (s := s1) (Hc.out.blk (by simp)))).mono ?_
        rintro e w6 ⟨rfl, rfl⟩
        go_wp2_with fail
        go_ret
        exact ⟨by simp, Hc.out.fr.below (B := w.heap.size) (by simp) (Nat.le_refl _)⟩
      rcases row_form H.out.2.2 with ⟨_, h0, _⟩ | ⟨gk, ck, rfl, _, lk, hck, hmk⟩
      · omega
      have hi1 : 1 ≤ i := by omega
      have hz' : (i : Int) ≠ 0 := by omega
      have hi0' : (0 : Int) ≤ (i : Int) := by omega
      have hi6 : (i : Int) ≤ 60 := by omega
      have hb0 : ((i : Int) == 0) = false := by simp; omega
      obtain ⟨ux, hux, hux1⟩ := u64_nat at0
      obtain ⟨uc, huc, huc1⟩ := u64_nat cell0
      have hj : ux % i < i := Nat.mod_lt _ hi1
      have hm0 : 0 ≤ (ux : Int) % (i : Int) := Int.emod_nonneg _ hz'
      have hm1 : (ux : Int) % (i : Int) < i := Int.emod_lt_of_pos (ux : Int) (b := (i : Int)) (by omega)
      have hc3 : uc % 3 < 3 := Nat.mod_lt _ (by omega)
      obtain ⟨p, hp⟩ : ∃ p, (l.map norm)[ux % i]? = some p := ⟨_, List.getElem?_eq_getElem (by simp; omega)⟩
      have Hp := hide (And.intro hp (And.intro hj hll))
      clear hp hll hz hck hmk
      go_wp2_with fail
      rw [show (ux : Int) % (i : Int) = ((ux % i : Nat) : Int) from (Int.natCast_emod ux i).symm, show (uc : Int) % 3 = ((uc % 3 : Nat) : Int) from (Int.natCast_emod uc 3).symm]
      clear hm0 hm1
      obtain ⟨hp, hj, hll⟩ := Hp.out
      generalize ux % i = k at *
      generalize hJ : uc % 3 = j at *
      have hJ' : (uc : Int) % 3 = (j : Int) := by omega
      have HJ := hide (And.intro hJ' huc)
      clear hJ'
      clear hJ huc hux hux1 huc1
      refine (Set_ok H.out.1 (by omega) (by omega) (by simp; omega) hp (j := j) (by omega) val 99).mono ?_
      rintro e w5 ⟨rfl, hr, hf⟩
      obtain ⟨q, hq⟩ : ∃ q, q = setP p j val 99 := ⟨_, rfl⟩
      rw [← hq] at hr
      have hqt : q.t = 99 := by rw [hq, setP_t]
      have hqj : (boxP q)[1 + j]? = some (.int .i64 val) := by rw [hq]; exact setP_box p (by omega) val 99
      have hfp := H.out.1.fits p (List.mem_of_getElem? hp)
      have hG5 := row_fr H.out.2.2 hf (H.out.1.apart H.out.2.2 (by decide) (by decide))
      have H5 := hide (And.intro (hr.alloc (.cells (boxP p) 35)) (And.intro ((H.out.2.1.same hf).alloc 35 (boxP p)) (hG5.alloc (.cells (boxP p) 35))))
      have Hq := hide (And.intro hq (And.intro hqt (And.intro hqj (And.intro hfp hp))))
      clear hr hf hq hqt hqj hfp hG5 hp H Hp hj
      obtain ⟨pc, v0, v1, v2, v3, pt⟩ := p
      simp only [encP, boxP] at H5 ⊢
      have hkl : k < (l.map norm).length := by have := (List.getElem?_eq_some_iff.1 Hq.out.2.2.2.2).1; exact this
      have hkl60 : (l.map norm).length ≤ 60 := by simp; omega
      go_wp2_with fail
      refine (Row_ok H5.out.1 (by omega) (by omega) (by rw [List.length_set]; omega) (n := k) (p := q) (List.getElem?_set_self hkl)).mono ?_
      rintro e w6 ⟨rfl, hf⟩
      have hG6 := row_fr H5.out.2.2 hf (by simp)
      have H6 := hide (And.intro ((H5.out.1.fr0 hf).alloc (.cells (boxP q) 35)) (And.intro ((H5.out.2.1.fr0 hf).alloc 35 (boxP q)) (hG6.alloc (.cells (boxP q) 35))))
      have hb5 := (H5.out.2.1.fr0 hf).blk (b := w5.heap.size) (t := 35) (cs := boxP ⟨pc, v0, v1, v2, v3, pt⟩) (by simp [boxP])
      obtain ⟨d0, d1, d2, d3, d4, d5⟩ := blk6 hb5
      have l5 := hb5.lt
      have n5 : w6.heap.size ≠ w5.heap.size := by omega
      have n5' := n5.symm
      clear hf hG6 H5 hb5
      obtain ⟨qc, q0, q1, q2, q3, qt⟩ := q
      simp only [encP, boxP] at H6 ⊢
      go_wp2_with fail
      refine (Put_ok H6.out.1 (by omega) (by omega) (by rw [List.length_set]; omega) (n := k) (p := ⟨qc, q0, q1, q2, q3, qt⟩) (List.getElem?_set_self hkl) ⟨pc, v0, v1, v2, v3, pt⟩ Hq.out.2.2.2.1).mono ?_
      rintro e w7 ⟨rfl, hr, hf⟩
      rw [set_back Hq.out.2.2.2.2] at hr
      have hG7 := row_fr H6.out.2.2 hf (H6.out.1.apart H6.out.2.2 (by decide) (by decide))
      have H7 := hide (And.intro (hr.alloc (.cells (boxP ⟨qc, q0, q1, q2, q3, qt⟩) 35)) (And.intro ((H6.out.2.1.same hf).alloc 35 (boxP ⟨qc, q0, q1, q2, q3, qt⟩)) (hG7.alloc (.cells (boxP ⟨qc, q0, q1, q2, q3, qt⟩) 35))))
      have hszb := (H6.out.2.1.same hf).fr.size
      have hap := hide (hr.apart hG7 (by decide) (by decide))
      have hC7 := (H6.out.2.1.same hf)
      have lgk := (row_lt hG7 rfl).1
      have hpk := Hq.out.2.2.2.2
      have k0 := row_cell hG7 (i := k * 6 + 0) (u := .int .i64 pc) (by rw [flat_get encB_len hpk 0 (by omega)]; rfl)
      have k1 := row_cell hG7 (i := k * 6 + 1) (u := .int .i64 v0) (by rw [flat_get encB_len hpk 1 (by omega)]; rfl)
      have k2 := row_cell hG7 (i := k * 6 + 2) (u := .int .i64 v1) (by rw [flat_get encB_len hpk 2 (by omega)]; rfl)
      have k3 := row_cell hG7 (i := k * 6 + 3) (u := .int .i64 v2) (by rw [flat_get encB_len hpk 3 (by omega)]; rfl)
      have k4 := row_cell hG7 (i := k * 6 + 4) (u := .int .i64 v3) (by rw [flat_get encB_len hpk 4 (by omega)]; rfl)
      have k5 := row_cell hG7 (i := k * 6 + 5) (u := .int .i64 pt) (by rw [flat_get encB_len hpk 5 (by omega)]; rfl)
      rw [Nat.add_zero] at k0
      clear hpk
      clear hr hf hG7 H6 d0 d1 d2 d3 d4 d5 l5 n5 n5'
      obtain rfl : qt = 99 := Hq.out.2.1
      simp only [encP, boxP] at H7 hC7 ⊢
      have hb5 := hC7.blk (b := w5.heap.size) (t := 35) (cs := #[.int .i64 pc, .int .i64 v0, .int .i64 v1, .int .i64 v2, .int .i64 v3, .int .i64 pt]) (by simp)
      have hb6 := hC7.blk (b := w6.heap.size) (t := 35) (cs := #[.int .i64 qc, .int .i64 q0, .int .i64 q1, .int .i64 q2, .int .i64 q3, .int .i64 99]) (by simp)
      obtain ⟨d0, d1, d2, d3, d4, d5⟩ := blk6 hb5
      obtain ⟨e0, e1, e2, e3, e4, e5⟩ := blk6 hb6
      have ej := hb6.at_ (1 + j) Hq.out.2.2.1
      have l5 := hb5.lt
      have l6 := hb6.lt
      clear hC7 hb5 hb6
      have hkn : k < i := by
        have h := hkl
        rw [List.length_map, hll] at h
        exact h
      have x0 : (0 : Int) ≤ (k : Int) := by omega
      have x1 : (k : Int) < (i : Int) := by omega
      have y0 : (0 : Int) ≤ (j : Int) := by omega
      have y1 : (j : Int) < 4 := by omega
      have hcv := HJ.out.2
      have hmv := HJ.out.1
      have z1 : ∀ W : World, (binOp .neq 35 (.agg #[.int .i64 pc, .int .i64 v0, .int .i64 v1, .int .i64 v2, .int .i64 v3, .int .i64 pt]) (.agg #[.int .i64 pc, .int .i64 v0, .int .i64 v1, .int .i64 v2, .int .i64 v3, .int .i64 pt])).run Tryd.prog W = .ok (.bool false) W := fun W => by
        have := (eql_part ⟨pc, v0, v1, v2, v3, pt⟩ ⟨pc, v0, v1, v2, v3, pt⟩ W).2
        simpa [encP, boxP] using this
      have z2 : ∀ W : World, (binOp .neq 35 (.agg #[.int .i64 qc, .int .i64 q0, .int .i64 q1, .int .i64 q2, .int .i64 q3, .int .i64 99]) (.agg #[.int .i64 qc, .int .i64 q0, .int .i64 q1, .int .i64 q2, .int .i64 q3, .int .i64 99])).run Tryd.prog W = .ok (.bool false) W := fun W => by
        have := (eql_part ⟨qc, q0, q1, q2, q3, 99⟩ ⟨qc, q0, q1, q2, q3, 99⟩ W).2
        simpa [encP, boxP] using this
      go_wp2_with fail
      go_quiet (fail)
      go_wp2_with fail
      have H8 := hide (And.intro (H7.out.1.fr0 ((Fr.refl [] _).drewN nq)) (And.intro ((H7.out.2.1.none.more (H7.out.2.1.blk (b := w5.heap.size) (t := 35) (cs := #[.int .i64 pc, .int .i64 v0, .int .i64 v1, .int .i64 v2, .int .i64 v3, .int .i64 pt]) (by simp)) (H7.out.2.1.loc (w5.heap.size, 35, #[.int .i64 pc, .int .i64 v0, .int .i64 v1, .int .i64 v2, .int .i64 v3, .int .i64 pt]) (by simp)).2).drewN nq) (row_drewN H7.out.2.2 nq)))
      generalize w5.heap.size = b5 at *
      clear H7 d0 d1 d2 d3 d4 d5 e0 e1 e2 e3 e4 e5 ej k0 k1 k2 k3 k4 k5 z1 z2 hcv hmv HJ Hq l5 l6 lgk hap hszb x0 x1 y0 y1
      generalize World.drewN _ _ = w8 at H8 ⊢
      go_loopw [25] (fun s25 wr' => ∃ (r : Nat), r ≤ i ∧ s25 = .int .i64 r ∧ ColR w.heap.size wr' g 7 3 (l.map norm) S ∧ Cx K w.heap.size ad w wr' S [(b5, 35, #[.int .i64 pc, .int .i64 v0, .int .i64 v1, .int .i64 v2, .int .i64 v3, .int .i64 pt])] ∧ wr'.ownsRow w.heap.size 35 6 (.slice (some ⟨gk, 0, none⟩) i ck) i ((l.map norm).flatMap encB)) (fun s _ => i - (intOf s).toNat)
      case atStart => exact ⟨0, by omega, rfl, H8.out⟩
      case round =>
        obtain ⟨r, hri, rfl, hR, hC, hG⟩ := hrel
        have HH := hide (And.intro hR (And.intro hC hG))
        clear hR hC hG H8
        by_cases hr1 : r < i
        · have hrl : r < (l.map norm).length := by rw [List.length_map, hll]; exact hr1
          obtain ⟨⟨xc, x0, x1, x2, x3, xt⟩, hx⟩ : ∃ x, (l.map norm)[r]? = some x := ⟨_, List.getElem?_eq_getElem hrl⟩
          have Hx := hide hx
          have r0 : (0 : Int) ≤ (r : Int) := by omega
          have r1 : (r : Int) < (i : Int) := by omega
          clear hx
          go_wp2_with fail
          refine (Row_ok HH.out.1 (by omega) (by omega) (by omega) Hx.out).mono ?_
          rintro e w9 ⟨rfl, hf⟩
          have hG9 := row_fr HH.out.2.2 hf (by simp)
          have hx := Hx.out
          have k0 := row_cell hG9 (i := r * 6 + 0) (u := .int .i64 xc) (by rw [flat_get encB_len hx 0 (by omega)]; rfl)
          have k1 := row_cell hG9 (i := r * 6 + 1) (u := .int .i64 x0) (by rw [flat_get encB_len hx 1 (by omega)]; rfl)
          have k2 := row_cell hG9 (i := r * 6 + 2) (u := .int .i64 x1) (by rw [flat_get encB_len hx 2 (by omega)]; rfl)
          have k3 := row_cell hG9 (i := r * 6 + 3) (u := .int .i64 x2) (by rw [flat_get encB_len hx 3 (by omega)]; rfl)
          have k4 := row_cell hG9 (i := r * 6 + 4) (u := .int .i64 x3) (by rw [flat_get encB_len hx 4 (by omega)]; rfl)
          have k5 := row_cell hG9 (i := r * 6 + 5) (u := .int .i64 xt) (by rw [flat_get encB_len hx 5 (by omega)]; rfl)
          rw [Nat.add_zero] at k0
          have lgk := (row_lt hG9 rfl).1
          have z1 : ∀ W : World, (binOp .neq 35 (.agg #[.int .i64 xc, .int .i64 x0, .int .i64 x1, .int .i64 x2, .int .i64 x3, .int .i64 xt]) (.agg #[.int .i64 xc, .int .i64 x0, .int .i64 x1, .int .i64 x2, .int .i64 x3, .int .i64 xt])).run Tryd.prog W = .ok (.bool false) W := fun W => by
            have := (eql_part ⟨xc, x0, x1, x2, x3, xt⟩ ⟨xc, x0, x1, x2, x3, xt⟩ W).2
            simpa [encP, boxP] using this
          have H9 := hide (And.intro ((HH.out.1.fr0 hf).alloc (.cells #[.int .i64 xc, .int .i64 x0, .int .i64 x1, .int .i64 x2, .int .i64 x3, .int .i64 xt] 35)) (And.intro ((HH.out.2.1.fr0 hf).fr0 ((Fr.refl [] _).alloc (.cells #[.int .i64 xc, .int .i64 x0, .int .i64 x1, .int .i64 x2, .int .i64 x3, .int .i64 xt] 35))) (hG9.alloc (.cells #[.int .i64 xc, .int .i64 x0, .int .i64 x1, .int .i64 x2, .int .i64 x3, .int .i64 xt] 35))))
          clear hf hG9 hx HH Hx
          simp only [encP, boxP]
          go_wp2_with fail
          go_quiet (fail)
          go_wp2_with fail
          go_roundw
          case rel => exact ⟨r + 1, by omega, by go_num, H9.out.1.fr0 ((Fr.refl [] _).drewN _), H9.out.2.1.drewN _, row_drewN H9.out.2.2 _⟩
          case measure => simp [intOf]; omega
        · have hb5 := HH.out.2.1.blk (b := b5) (t := 35) (cs := #[.int .i64 pc, .int .i64 v0, .int .i64 v1, .int .i64 v2, .int .i64 v3, .int .i64 pt]) (by simp)
          obtain ⟨d0, d1, d2, d3, d4, d5⟩ := blk6 hb5
          clear hb5
          have HC := hide HH.out.2.1
          clear HH
          go_wp2_with fail
          refine (push_nil HC.out.sents h2 ⟨pc, v0, v1, v2, v3, pt⟩).mono ?_
          rintro e w9 ⟨v, rfl, hn, hf⟩
          obtain ⟨b1, s1, rfl, hc⟩ := HC.out.err hf hn
          have HC9 := hide hc
          clear hc hn hf HC d0 d1 d2 d3 d4 d5
          go_wp2_with fail
          refine (Row_err (rowErr_nil HC9.out.sents h2 0)).mono ?_
          rintro e wa ⟨v, rfl, hn, hf⟩
          simp only [encP, boxP, zP]
          obtain ⟨b2, s2, rfl, hc⟩ := HC9.out.err hf hn
          have HCa := hide (hc.alloc 35 (boxP zP))
          simp only [boxP, zP] at HCa
          clear hc hn hf HC9
          go_wp2_with fail
          refine (Take_err (rowErr_nil HCa.out.sents h2 0)).mono ?_
          rintro e wb ⟨v, rfl, hn, hf⟩
          simp only [encP, boxP, zP]
          obtain ⟨b3, s3, rfl, hc⟩ := HCa.out.err hf hn
          have HCb := hide (hc.alloc 35 (boxP zP))
          simp only [boxP, zP] at HCb
          have g2 := hc.sents.cell 2 h2
          simp only [gOf] at g2
          have l2 := World.block_lt_of_cell? _ _ g2
          have n2 := World.new_ne _ _ g2
          clear hc hn hf HCa
          go_wp2_with fail
          refine (is_chain HCb.out.sents h2 h2 (chain_of (b := b1) (s := s1) (HCb.out.blk (by simp)))).mono ?_
          rintro e w' ⟨rfl, rfl⟩
          go_wp2_with fail
          refine (is_chain HCb.out.sents h2 h2 (chain_of (b := b2) (s := s2) (HCb.out.blk (by simp)))).mono ?_
          rintro e w' ⟨rfl, rfl⟩
          go_wp2_with fail
          refine (is_chain HCb.out.sents h2 h2 (chain_of (b := b3) (s := s3) (HCb.out.blk (by simp)))).mono ?_
          rintro e w' ⟨rfl, rfl⟩
          go_wp2_with fail
          refine (Len_nil _).mono ?_
          rintro e w' ⟨rfl, rfl⟩
          go_wp2_with fail
          refine (Since_nil _ 0).mono ?_
          rintro e w' ⟨rfl, rfl⟩
          go_wp2_with fail
          go_ret
          exact ⟨by simp, HCb.out.fr.below (B := w.heap.size) (by simp) (Nat.le_refl _)⟩
end Go.Proofs.YtgifeligogjfiaaDoor
