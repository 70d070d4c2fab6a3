/- Package pasodobleref07 by contracts: New, has, Fits, Row, Since. -/
import Derived.Test.YtgifeligogjfiaaDoorParts
namespace Go.Proofs.YtgifeligogjfiaaDoor
open Go.RowKit

/-- A Column of the reference at block g. -/
def RefC (B : Nat) (w : World) (g : Nat) (comp : Int) (k : Nat) (ps : List Pt) (S : List Nat) : Prop :=
  ∃ vL : Value, B ≤ g ∧ Blk w g 61 #[.int .i64 comp, .int .i64 k, vL] ∧ w.ownsRow B 35 6 vL ps.length (ps.flatMap encB) ∧ S = g :: vL.ownBlock.toList
section
variable {B : Nat} {w w' : World} {g : Nat} {comp : Int} {k : Nat} {ps : List Pt} {S T : List Nat}
theorem RefC.lt (h : RefC B w g comp k ps S) : ∀ b ∈ S, b < w.heap.size ∧ B ≤ b := by
  obtain ⟨vL, hB, hg, h1, rfl⟩ := h
  intro b hb
  simp only [List.mem_cons, Option.mem_toList] at hb
  rcases hb with rfl | hb
  · exact ⟨hg.lt, hB⟩
  · exact row_lt h1 hb
theorem RefC.fr (h : RefC B w g comp k ps S) (hf : Fr T w w') (hd : ∀ b ∈ S, b ∉ T) : RefC B w' g comp k ps S := by
  obtain ⟨vL, hB, hg, h1, rfl⟩ := h
  exact ⟨vL, hB, hg.fr hf (hd _ (by simp)), row_fr h1 hf (fun k hk => hd k (by simp [hk])), rfl⟩
theorem RefC.fr0 (h : RefC B w g comp k ps S) (hf : Fr [] w w') : RefC B w' g comp k ps S := h.fr hf (by simp)
theorem RefC.alloc (h : RefC B w g comp k ps S) (o : Obj) : RefC B (w.alloc o) g comp k ps S := h.fr0 ((Fr.refl [] w).alloc o)
theorem RefC.form (h : RefC B w g comp k ps S) : ∃ A c, Blk w g 61 #[.int .i64 comp, .int .i64 k, .slice A ps.length c] ∧ w.ownsRow B 35 6 (.slice A ps.length c) ps.length (ps.flatMap encB) ∧ S = g :: (Value.slice A ps.length c).ownBlock.toList := by
  obtain ⟨vL, hB, hg, h1, rfl⟩ := h
  rcases row_form h1 with ⟨rfl, h0, _⟩ | ⟨gp, cp, rfl, _⟩
  · rw [h0] at h1 ⊢; exact ⟨none, 0, hg, h1, rfl⟩
  · exact ⟨_, _, hg, h1, rfl⟩
end

theorem rcnew_nil (w : World) (comp k : Int) (hn : comp < 0 ∨ 16 ≤ comp ∨ k < 1 ∨ 4 < k) : Calls Tryd.prog 17 #[.int .i64 comp, .int .i64 k] w fun e w' => e = .returned (.pointer none) ∧ Fr [] w w' := by
  by_cases h1 : comp < 0
  all_goals by_cases h2 : 15 < comp
  all_goals by_cases h3 : k < 1
  all_goals by_cases h4 : 4 < k
  all_goals first | (exfalso; omega) | skip
  all_goals
    go_enter Tryd.func17, Tryd.ntmps17
    go_wp2_with fail
    go_ret
    exact ⟨rfl, Fr.refl _ _⟩
def RcNew (B : Nat) (w : World) (comp : Int) (k : Nat) (e : Ending) (w' : World) : Prop := ∃ g S, e = .returned (.pointer (some ⟨g, 0, none⟩)) ∧ RefC B w' g comp k [] S ∧ Fr [] w w' ∧ ∀ b ∈ S, w.heap.size ≤ b
theorem rcnew_ok {B : Nat} {w : World} (hB : B ≤ w.heap.size) (comp : Int) (k : Nat) (h0 : 0 ≤ comp) (h1 : comp < 16) (h2 : 1 ≤ k) (h3 : k ≤ 4) :
    Calls Tryd.prog 17 #[.int .i64 comp, .int .i64 k] w (RcNew B w comp k) := by
  have h1' : ¬ 15 < comp := by omega
  go_enter Tryd.func17, Tryd.ntmps17
  go_wp2_with fail
  go_ret
  refine ⟨w.heap.size, [w.heap.size], rfl, ⟨.slice none 0 0, hB, Blk.new _ _ _, World.ownsRow_nil _ _ _ _, rfl⟩, ?_, by simp⟩
  (repeat (first | exact Fr.refl _ _ | apply Fr.drew | apply Fr.drewN | apply Fr.alloc | (refine Fr.setCell ?_ (by first | (left; simp [Value.ownBlock]; done) | (right; simp; omega) | (right; simp; done)) _)))

set_option maxHeartbeats 1000000 in
theorem rchas {B : Nat} {w : World} {g : Nat} {comp : Int} {k : Nat} {ps : List Pt} {S : List Nat} (h : RefC B w g comp k ps S) (hl : ps.length ≤ 1000000) (n : Int) :
    Calls Tryd.prog 35 #[.pointer (some ⟨g, 0, none⟩), .int .i64 n] w fun e w' => e = .returned (.bool (decide (0 ≤ n ∧ n < (ps.length : Int)))) ∧ w = w' := by
  obtain ⟨A, c, hg, -, -⟩ := h.form
  have lg := hg.lt
  have c2 := hg.at_ 2 (v := .slice A ps.length c) (by rfl)
  clear hg h
  by_cases h0 : 0 ≤ n
  · by_cases h1 : n < (ps.length : Int)
    · rw [show decide (0 ≤ n ∧ n < (ps.length : Int)) = true from by simp [h0, h1]]
      go_enter Tryd.func35, Tryd.ntmps35
      go_wp2_with fail
      go_ret
      exact ⟨by simp, rfl⟩
    · rw [show decide (0 ≤ n ∧ n < (ps.length : Int)) = false from by simp [h1]]
      go_enter Tryd.func35, Tryd.ntmps35
      go_wp2_with fail
      go_ret
      exact ⟨by simp, rfl⟩
  · rw [show decide (0 ≤ n ∧ n < (ps.length : Int)) = false from by simp [h0]]
    go_enter Tryd.func35, Tryd.ntmps35
    go_wp2_with fail
    go_ret
    exact ⟨by simp, rfl⟩

set_option maxRecDepth 100000 in
set_option maxHeartbeats 4000000 in
theorem rcfits {B : Nat} {w : World} {g : Nat} {comp : Int} {k : Nat} {ps : List Pt} {S : List Nat} (h : RefC B w g comp k ps S) (h2 : 1 ≤ k) (h3 : k ≤ 4) (p : Pt) :
    Calls Tryd.prog 34 #[.pointer (some ⟨g, 0, none⟩), encP p] w fun e w' => e = .returned (.bool (decide (Fits comp k p))) ∧ Fr [] w w' := by
  obtain ⟨A, cc, hg, -, -⟩ := h.form
  obtain ⟨c, v0, v1, v2, v3, t⟩ := p
  have lg := hg.lt
  have c0 := hg.at_ 0 (v := .int .i64 comp) (by rfl)
  have c1 := hg.at_ 1 (v := .int .i64 k) (by rfl)
  have n3 : w.heap.size ≠ g := by omega
  have n4 : g ≠ w.heap.size := by omega
  have hf1 : Fr [] w (w.alloc (.cells #[.int .i64 c, .int .i64 v0, .int .i64 v1, .int .i64 v2, .int .i64 v3, .int .i64 t] 35)) := (Fr.refl _ _).alloc _
  have hb1 : Blk (w.alloc (.cells #[.int .i64 c, .int .i64 v0, .int .i64 v1, .int .i64 v2, .int .i64 v3, .int .i64 t] 35)) w.heap.size 35 #[.int .i64 c, .int .i64 v0, .int .i64 v1, .int .i64 v2, .int .i64 v3, .int .i64 t] := Blk.new _ _ _
  have H1 := hide (And.intro hf1 (And.intro hb1 (hg.fr0 hf1)))
  clear hf1 hb1 hg h
  simp only [encP, boxP]
  go_enter Tryd.func34, Tryd.ntmps34
  go_wp2_with fail
  clear c0 c1 n3 n4 lg
  generalize hX : w.alloc _ = w1 at *
  clear hX
  go_loopw [5] (fun s wr => ∃ i : Nat, s = .int .i64 i ∧ k ≤ i ∧ i ≤ 4 ∧ (k ≤ 1 → 2 ≤ i → v1 = 0) ∧ (k ≤ 2 → 3 ≤ i → v2 = 0) ∧ (k ≤ 3 → 4 ≤ i → v3 = 0) ∧ w1 = wr) (fun s _ => 4 - (intOf s).toNat)
  case atStart => exact ⟨k, rfl, by omega, by omega, by omega, by omega, by omega, rfl⟩
  case round =>
    obtain ⟨i, rfl, hki, hi4, z1, z2, z3, rfl⟩ := hrel
    obtain ⟨hf, hb, hg⟩ := H1.out
    have d0 := hg.at_ 0 (v := .int .i64 comp) (by rfl)
    have lg := hg.lt
    have b0 := hb.at_ 0 (v := .int .i64 c) (by rfl)
    have b2 := hb.at_ 2 (v := .int .i64 v1) (by rfl)
    have b3 := hb.at_ 3 (v := .int .i64 v2) (by rfl)
    have b4 := hb.at_ 4 (v := .int .i64 v3) (by rfl)
    have H2 := hide hf
    have Z := hide (And.intro z1 (And.intro z2 z3))
    clear hf hb hg H1 z1 z2 z3
    obtain hs | hs | hs | hs : i = 1 ∨ i = 2 ∨ i = 3 ∨ i = 4 := by omega
    · subst hs
      by_cases y : v1 = 0
      · subst y
        go_wp2_with fail
        go_roundw
        case rel => exact ⟨2, rfl, by omega, by omega, fun _ _ => trivial, by omega, by omega, trivial⟩
        case measure => simp [intOf]
      · have hyb : (v1 == 0) = false := by simp [y]
        have Hy := hide y
        clear y
        go_wp2_with fail
        go_ret
        refine ⟨ret_eq (bool_eq ?_), H2.out⟩
        symm
        rw [decide_eq_false_iff_not]
        rintro ⟨_, q1, _, _⟩
        exact Hy.out (q1 (by omega))
    · subst hs
      by_cases y : v2 = 0
      · subst y
        go_wp2_with fail
        go_roundw
        case rel => exact ⟨3, rfl, by omega, by omega, fun h _ => Z.out.1 h (by omega), fun _ _ => trivial, by omega, trivial⟩
        case measure => simp [intOf]
      · have hyb : (v2 == 0) = false := by simp [y]
        have Hy := hide y
        clear y
        go_wp2_with fail
        go_ret
        refine ⟨ret_eq (bool_eq ?_), H2.out⟩
        symm
        rw [decide_eq_false_iff_not]
        rintro ⟨_, _, q2, _⟩
        exact Hy.out (q2 (by omega))
    · subst hs
      by_cases y : v3 = 0
      · subst y
        go_wp2_with fail
        go_roundw
        case rel => exact ⟨4, rfl, by omega, by omega, fun h _ => Z.out.1 h (by omega), fun h _ => Z.out.2.1 h (by omega), fun _ _ => trivial, trivial⟩
        case measure => simp [intOf]
      · have hyb : (v3 == 0) = false := by simp [y]
        have Hy := hide y
        clear y
        go_wp2_with fail
        go_ret
        refine ⟨ret_eq (bool_eq ?_), H2.out⟩
        symm
        rw [decide_eq_false_iff_not]
        rintro ⟨_, _, _, q3⟩
        exact Hy.out (q3 (by omega))
    · subst hs
      go_wp2_with fail
      go_quiet (fail)
      go_wp2_with fail
      go_ret
      obtain ⟨z1, z2, z3⟩ := Z.out
      refine ⟨ret_eq (bool_eq ?_), H2.out.drewN _⟩
      rw [Bool.eq_iff_iff, beq_iff_eq, decide_eq_true_iff]
      exact ⟨fun q => ⟨q, fun q1 => z1 q1 (by omega), fun q2 => z2 q2 (by omega), fun q3 => z3 q3 (by omega)⟩, fun q => q.1⟩

/-! ### Row -/
theorem encB_get {ps : List Pt} {n : Nat} {p : Pt} (h : ps[n]? = some p) (j : Nat) (hj : j < 6) : (ps.flatMap encB)[n * 6 + j]? = (encB p)[j]? := flat_get encB_len h j hj

set_option maxRecDepth 100000 in
set_option maxHeartbeats 2000000 in
theorem rcrow_err {B : Nat} {w : World} {g : Nat} {comp : Int} {k : Nat} {ps : List Pt} {S : List Nat} (h : RefC B w g comp k ps S) (hl : ps.length ≤ 1000000) (n : Int) (hn : n < 0 ∨ (ps.length : Int) ≤ n) :
    Calls Tryd.prog 25 #[.pointer (some ⟨g, 0, none⟩), .int .i64 n] w fun e w' => e = .returned (.tuple #[encP zP, .int .i64 7]) ∧ Fr [] w w' := by
  have Hh := hide (rchas (h.alloc (.cells #[.int .i64 0, .int .i64 0, .int .i64 0, .int .i64 0, .int .i64 0, .int .i64 0] 35)) hl n)
  rw [show decide (0 ≤ n ∧ n < (ps.length : Int)) = false from by simp; omega] at Hh
  clear h
  go_enter Tryd.func25, Tryd.ntmps25
  go_wp2_with fail
  refine Hh.out.mono ?_
  rintro e w1 ⟨rfl, rfl⟩
  go_wp2_with fail
  refine bodyPost_ret (v := .tuple #[encP zP, .int .i64 7]) (by simp [results, Tryd.results25, go_sem, boxP, zP]) rfl ⟨rfl, ?_⟩
  (repeat (first | exact Fr.refl _ _ | apply Fr.drew | apply Fr.drewN | apply Fr.alloc | (refine Fr.setCell ?_ (by first | (left; simp [Value.ownBlock]; done) | (right; simp; omega) | (right; simp; done)) _)))

set_option maxRecDepth 100000 in
set_option maxHeartbeats 2000000 in
theorem rcrow_ok {B : Nat} {w : World} {g : Nat} {comp : Int} {k : Nat} {ps : List Pt} {S : List Nat} (h : RefC B w g comp k ps S) (hl : ps.length ≤ 1000000) {n : Nat} {p : Pt} (hp : ps[n]? = some p) :
    Calls Tryd.prog 25 #[.pointer (some ⟨g, 0, none⟩), .int .i64 n] w fun e w' => e = .returned (.tuple #[encP p, .int .i64 0]) ∧ Fr [] w w' := by
  have hn : n < ps.length := (List.getElem?_eq_some_iff.1 hp).1
  have Hh := hide (rchas (h.alloc (.cells #[.int .i64 0, .int .i64 0, .int .i64 0, .int .i64 0, .int .i64 0, .int .i64 0] 35)) hl n)
  rw [show decide (0 ≤ (n : Int) ∧ (n : Int) < (ps.length : Int)) = true from by simp; omega] at Hh
  obtain ⟨A, c, hg, hr, -⟩ := h.form
  rcases row_form hr with ⟨_, h0, _⟩ | ⟨gp, cp, e, _, lgp, _⟩
  · omega
  rw [e] at hg hr
  clear e
  have lg := hg.lt
  have c2 := hg.at_ 2 (v := .slice (some ⟨gp, 0, none⟩) ps.length cp) (by rfl)
  obtain ⟨pc, v0, v1, v2, v3, pt⟩ := p
  have k0 := row_cell hr (i := n * 6 + 0) (u := .int .i64 pc) (by rw [encB_get hp 0 (by omega)]; rfl)
  have k1 := row_cell hr (i := n * 6 + 1) (u := .int .i64 v0) (by rw [encB_get hp 1 (by omega)]; rfl)
  have k2 := row_cell hr (i := n * 6 + 2) (u := .int .i64 v1) (by rw [encB_get hp 2 (by omega)]; rfl)
  have k3 := row_cell hr (i := n * 6 + 3) (u := .int .i64 v2) (by rw [encB_get hp 3 (by omega)]; rfl)
  have k4 := row_cell hr (i := n * 6 + 4) (u := .int .i64 v3) (by rw [encB_get hp 4 (by omega)]; rfl)
  have k5 := row_cell hr (i := n * 6 + 5) (u := .int .i64 pt) (by rw [encB_get hp 5 (by omega)]; rfl)
  rw [Nat.add_zero] at k0
  have i0 : (0 : Int) ≤ (n : Int) := by omega
  have i1 : (n : Int) < (ps.length : Int) := by omega
  clear hg hr h hp
  go_enter Tryd.func25, Tryd.ntmps25
  go_wp2_with fail
  refine Hh.out.mono ?_
  rintro e w1 ⟨rfl, rfl⟩
  go_wp2_with fail
  refine bodyPost_ret (v := .tuple #[.agg #[.int .i64 pc, .int .i64 v0, .int .i64 v1, .int .i64 v2, .int .i64 v3, .int .i64 pt], .int .i64 0]) (by simp [results, Tryd.results25, go_sem]) rfl ⟨rfl, ?_⟩
  (repeat (first | exact Fr.refl _ _ | apply Fr.drew | apply Fr.drewN | apply Fr.alloc | (refine Fr.setCell ?_ (by first | (left; simp [Value.ownBlock]; done) | (right; simp; omega) | (right; simp; done)) _)))

/-! ### Since -/
set_option maxRecDepth 100000 in
set_option maxHeartbeats 2000000 in
theorem rcsince {B : Nat} {w : World} {g : Nat} {comp : Int} {k : Nat} {ps : List Pt} {S : List Nat} (h : RefC B w g comp k ps S) (hl : ps.length ≤ 1000000) (f : Int) :
    Calls Tryd.prog 24 #[.pointer (some ⟨g, 0, none⟩), .int .i64 f] w fun e w' => ∃ v, e = .returned v ∧ w'.ownsRow w.heap.size 3 1 v (sinceL ps f).length (ints (sinceL ps f)) ∧ Fr [] w w' := by
  obtain ⟨A, c, hg, hr, -⟩ := h.form
  obtain ⟨i0, hi0, hz0, hz1, hz2⟩ := info_parts infoInt
  have hO : (w.alloc (.cells #[] 3)).ownsRow w.heap.size 3 1 (.slice (some ⟨w.heap.size, 0, none⟩) 0 0) (sinceN ps f 0).length (ints (sinceN ps f 0)) := row_mk (Blk.new w _ _) (Nat.le_refl _) (Nat.le_refl _) (by simp [maxLen]) rfl rfl
  have HO := hide hO
  have Hp := hide (And.intro hg hr)
  clear hg hr hO h
  go_enter Tryd.func24, Tryd.ntmps24
  go_wp2_with fail
  go_loopw [5, 6] (fun s5 s wr => ∃ q : Nat, q ≤ ps.length ∧ s = .int .i64 q ∧ wr.ownsRow w.heap.size 3 1 s5 (sinceN ps f q).length (ints (sinceN ps f q)) ∧ Fr [] w wr) (fun _ s _ => ps.length - (intOf s).toNat)
  case atStart => exact ⟨0, by omega, rfl, HO.out, (Fr.refl _ _).alloc _⟩
  case round =>
    obtain ⟨q, hq, rfl, hr, hf⟩ := hrel
    have hg1 := Hp.out.1.fr0 hf
    have c2 := hg1.at_ 2 (v := .slice A ps.length c) (by rfl)
    have lg := hg1.lt
    by_cases hlt : q < ps.length
    · have hx : ps[q]? = some ps[q] := by simp [hlt]
      rcases row_form Hp.out.2 with ⟨_, h0, _⟩ | ⟨gp, cp, e, _, lgp, _⟩
      · omega
      rw [e] at Hp c2
      have He := hide e
      clear e
      have d0 := row_cell (row_fr Hp.out.2 hf (by simp)) (i := q * 6 + 5) (u := .int .i64 ps[q].t) (by rw [encB_get hx 5 (by omega)]; rfl)
      have hsn := since_snoc hx f
      have hle := since_le ps f q
      have q0 : (0 : Int) ≤ (q : Int) := by omega
      have q1 : (q : Int) < (ps.length : Int) := by omega
      generalize ps[q] = p at *
      have hsz := hf.size
      by_cases hb : f ≤ p.t
      · rw [if_pos hb] at hsn
        have Hall := hide (And.intro hr (And.intro hf hsn))
        clear hr hf hsn hx hg1
        go_wp2_with (at_builtin; refine wpList_append_lies _ rfl _ _ _ rfl w.heap.size 3 i0 _ 1 8 Tryd.underlying22 hi0 hz0 hz1 hz2 rfl (by omega) (u5) ((sinceN ps f q).length) (ints (sinceN ps f q)) rfl ((Hall.out.1.alloc _)) ⟨wr.heap.size, 0, none⟩ 1 1 [.int .i64 q] rfl rfl (World.news_of_block (cs := #[.int .i64 q]) (t := 3) (fr := (0, 0)) (Blk.new_at _ _ _ _ (by simp))) (by simp [Value.oneCell']) (by omega) (by unfold maxLen; omega) (by omega) (by simp; omega) (wr.heap.size + 1) (by simp) ?_; intro gg cap w3 hown3 hgrow hat hlt3)
        obtain ⟨hr, hf, hsn⟩ := Hall.out
        go_roundw
        case rel =>
          refine ⟨q + 1, by omega, by go_num, ?_, (hf.alloc _).grown hgrow (fun b hb => .inr (row_lt hr hb).2)⟩
          rw [hsn, List.length_append, List.length_singleton]
          have e : ints (sinceN ps f q ++ [(q : Int)]) = ints (sinceN ps f q) ++ [.int .i64 q] := by simp [ints]
          rw [e]
          exact hown3
        case measure => simp [intOf]; omega
      · rw [if_neg hb, List.append_nil] at hsn
        have Hall := hide (And.intro hr (And.intro hf hsn))
        clear hr hf hsn hx hg1
        go_wp2_with fail
        obtain ⟨hr, hf, hsn⟩ := Hall.out
        go_roundw
        case rel => exact ⟨q + 1, by omega, by go_num, by rw [hsn]; exact hr, hf⟩
        case measure => simp [intOf]; omega
    · obtain rfl : q = ps.length := by omega
      have Hall := hide (And.intro hr hf)
      clear hr hf hg1
      go_wp2_with fail
      go_ret
      exact ⟨_, rfl, Hall.out.1, Hall.out.2⟩
end Go.Proofs.YtgifeligogjfiaaDoor
