/- Package pasodobleref06 by contracts: Free, List, Same. -/
import Derived.Test.YtghffjlgiclieaaDoorRef2
import Derived.Deep.DeepCutAuto
import Derived.Deep.CutBlock
namespace Go.Proofs.YtghffjlgiclieaaDoor
open Go.RowKit

theorem encN_one (l : List Nat) : ∀ u ∈ encN l, u.oneCell' = true := by
  intro u hu
  obtain ⟨i, _, rfl⟩ := List.mem_map.1 hu
  rfl
theorem encN_len (l : List Nat) : (encN l).length = l.length := by simp [encN]
/-- an append of nothing to an empty slice -/
theorem run_append_zero {P : Program} (w : World) (t ty e : TypeId) (i : TypeInfo) (ht : P.underlying t = some (.slice e)) (hi : P.info? e = some i) (N : Nat) (A : Option Addr) (c : Nat) :
    (Builtin.append_ #[t, t] ty #[.slice (some ⟨N, 0, none⟩) 0 0, .slice A 0 c]).run P w = .ok (.slice (some ⟨N, 0, none⟩) 0 0) w := by
  cases A with
  | none => simp [Builtin.append_, run_underlying ht, sizeOf, typeInfo, hi, Builtin.lenOf, Builtin.firstCells, storeCells]
  | some a =>
    have hl : (loadCells a 0).run P w = .ok #[] w := by simp [loadCells, loadCellsFrom]
    simp [Builtin.append_, run_underlying ht, sizeOf, typeInfo, hi, Builtin.lenOf, Builtin.firstCells, storeCells, hl, Result.andThen]
theorem step_append_zero {P : Program} {ops : Array Oper} {o : Oper} {a : Go.Act} {w : World} {K : Go.Act → World → Prop} {Q : Exit → Go.Act → World → Prop} {E : Prop} (hgd : o.guard = none) (s x : Operand) (t : TypeId)
    (ho : o.op = .call { callee := .builtin .append, args := #[s, x], argTypes := #[t, t] }) (e : TypeId) (i : TypeInfo) (ht : P.underlying t = some (.slice e)) (hi : P.info? e = some i) (N : Nat) (A : Option Addr) (c : Nat)
    (hs : a.eval s = .slice (some ⟨N, 0, none⟩) 0 0) (hx : a.eval x = .slice A 0 c) (h : K (a.put o.dst (.slice (some ⟨N, 0, none⟩) 0 0)) w) :
    if Region.wanted o (yielded ops a.tmps) = true then Oper.wp P o a w K Q else E := by
  have hw : Region.wanted o (yielded ops a.tmps) = true := by simp [Region.wanted, hgd]
  rw [if_pos hw]
  unfold Oper.wp execOp
  simp only [ho, resolve, invoke, builtin, Sem.run_bind, Sem.run_pure, Result.andThen_ok, List.map_toArray, List.map_cons, List.map_nil, hs, hx, run_append_zero w t _ e i ht hi N A c]
  exact h
/-- an append to a row that is new: nothing elder has turned -/
theorem grown_new {w2 X w3 : World} {v : Value} (hX : Fr [] w2 X) (hg : X.grownBy w3 v.ownBlock) (hv : ∀ b, v.ownBlock = some b → w2.heap.size ≤ b) : Fr [] w2 w3 := hX.grown hg (fun k hk => .inr (hv k hk))

set_option maxHeartbeats 2000000 in
theorem rfree_dead {B : Nat} {w : World} {g : Nat} {ps : List (Int × Bool)} {row : List Nat} {S : List Nat} (h : RefR B w g ps row S) (hn : ps.length ≤ 1000000) {i gen : Int} (ha : aliveB ps i gen = false) :
    Calls Tryd.prog 18 #[.pointer (some ⟨g, 0, none⟩), .agg #[.int .i64 i, .int .i64 gen]] w fun e w' => e = .returned (.int .i64 17) ∧ Fr [] w w' := by
  have Hf := hide (ralive_calls (h.alloc (.cells #[.int .i64 i, .int .i64 gen] 31)) hn i gen)
  rw [ha] at Hf
  have H0 := hide ((Fr.refl [] w).alloc (.cells #[.int .i64 i, .int .i64 gen] 31))
  clear h ha
  go_enter Tryd.func18, Tryd.ntmps18
  go_wp2_with fail
  refine Hf.out.mono ?_
  rintro e w1 ⟨rfl, hf⟩
  have H1 := hide (H0.out.trans hf)
  clear hf Hf H0
  go_wp2_with fail
  go_ret
  exact ⟨rfl, H1.out⟩

theorem rfree_end {B : Nat} {w w2 w4 : World} {g gi ci gB capB n : Nat} {ps : List (Int × Bool)} {row : List Nat} {vg vf : Value} (hBg : B ≤ g) (hlg : g < w2.heap.size)
    (h2 : Blk w2 g 62 #[vg, .slice (some ⟨gi, 0, none⟩) ps.length ci, vf] ∧ w2.ownsRow B 3 1 vg ps.length (gensOf ps) ∧ w2.ownsRow B 4 1 (.slice (some ⟨gi, 0, none⟩) ps.length ci) ps.length (isOf ps))
    (hf : Fr (g :: (vg.ownBlock.toList ++ ((Value.slice (some ⟨gi, 0, none⟩) ps.length ci).ownBlock.toList ++ vf.ownBlock.toList))) w w2) (hF : Fr [] w2 w4) (hB : w2.heap.size ≤ gB) (hn : n = row.length)
    (hO : w4.ownsRow B 3 1 (.slice (some ⟨gB, 0, none⟩) n capB) n (encN row)) :
    ∃ S', RefR B (w4.setCell ⟨g, 2, none⟩ (.slice (some ⟨gB, 0, none⟩) n capB)) g ps row S' ∧ Stp (g :: (vg.ownBlock.toList ++ ((Value.slice (some ⟨gi, 0, none⟩) ps.length ci).ownBlock.toList ++ vf.ownBlock.toList))) S' w (w4.setCell ⟨g, 2, none⟩ (.slice (some ⟨gB, 0, none⟩) n capB)) := by
  obtain ⟨hg, hr1, hr2⟩ := h2
  subst hn
  have l1 : ∀ b, vg.ownBlock = some b → b < w2.heap.size := fun b hb => (row_lt hr1 hb).1
  have li : gi < w2.heap.size := (row_lt hr2 rfl).1
  have n1 : g ≠ gB := by omega
  have m1 : vg.ownBlock ≠ some g := row_blk_ne hr1 hg (by decide)
  have m2 : (Value.slice (some ⟨gi, 0, none⟩) ps.length ci).ownBlock ≠ some g := row_blk_ne hr2 hg (by decide)
  refine ⟨g :: (vg.ownBlock.toList ++ ((Value.slice (some ⟨gi, 0, none⟩) ps.length ci).ownBlock.toList ++ (Value.slice (some ⟨gB, 0, none⟩) row.length capB).ownBlock.toList)),
    ⟨vg, .slice (some ⟨gi, 0, none⟩) ps.length ci, .slice (some ⟨gB, 0, none⟩) row.length capB, hBg, (hg.fr0 hF).set_ 2 _, row_far (row_fr hr1 hF (by simp)) (p := ⟨g, 2, none⟩) m1 _, row_far (row_fr hr2 hF (by simp)) (p := ⟨g, 2, none⟩) m2 _,
      row_far hO (p := ⟨g, 2, none⟩) (by simp [Value.ownBlock]; omega) _, ?_, rfl⟩, ?_, ?_⟩
  · intro b hb e
    have e' : gB = b := by simpa [Value.ownBlock] using e
    have := l1 b hb
    omega
  · exact (hf.step hF (by simp)).setCell (p := ⟨g, 2, none⟩) (by simp) _
  · intro b hb
    have hs := hf.size
    simp only [List.mem_cons, List.mem_append, Option.mem_toList] at hb ⊢
    rcases hb with rfl | hb | hb | hb
    · exact .inl (.inl rfl)
    · exact .inl (.inr (.inl hb))
    · exact .inl (.inr (.inr (.inl hb)))
    · right
      have e' : gB = b := by simpa [Value.ownBlock] using hb
      omega

set_option maxRecDepth 100000 in
set_option maxHeartbeats 4000000 in
theorem rfree_ok {B : Nat} {w : World} {g : Nat} {ps : List (Int × Bool)} {row : List Nat} {S : List Nat} (h : RefR B w g ps row S) (hB : B ≤ w.heap.size) (hn : ps.length ≤ 1000000) (hrow : row.length ≤ 1000000) {k : Nat} {gen : Int} (hk : ps[k]? = some (gen, true)) :
    Calls Tryd.prog 18 #[.pointer (some ⟨g, 0, none⟩), .agg #[.int .i64 k, .int .i64 gen]] w fun e w' => e = .returned (.int .i64 0) ∧ ∃ S', RefR B w' g (ps.set k (gen, false)) (row ++ [k]) S' ∧ Stp S S' w w' := by
  have Hf := hide (ralive_calls (h.alloc (.cells #[.int .i64 k, .int .i64 gen] 31)) hn k gen)
  rw [show aliveB ps (k : Int) gen = true from by simp [aliveB, hk]] at Hf
  have H0 := hide (And.intro ((Fr.refl [] w).alloc (.cells #[.int .i64 k, .int .i64 gen] 31)) (And.intro h (And.intro (Blk.new w 31 #[.int .i64 k, .int .i64 gen]) hk)))
  have hkl : k < ps.length := (List.getElem?_eq_some_iff.1 hk).1
  obtain ⟨i0, hi0, hz0, hz1, hz2⟩ := info_parts infoInt
  clear h hk
  go_enter Tryd.func18, Tryd.ntmps18
  go_wp2_with fail
  refine Hf.out.mono ?_
  rintro e w1 ⟨rfl, hf⟩
  obtain ⟨hf0, h, hbx, hk⟩ := H0.out
  have hfw := hf0.trans hf
  have hb1 := hbx.fr0 hf
  obtain ⟨vg, vi, vf, hBg, hg, hr1, hr2, hr3, h4, rfl⟩ := h.fr0 hfw
  rcases row_form hr2 with ⟨_, h2, _⟩ | ⟨gi, ci, rfl, _, lgi, hci, hmi⟩
  · omega
  have lg := hg.lt
  have c1 := hg.at_ 1 (v := .slice (some ⟨gi, 0, none⟩) ps.length ci) (by rfl)
  have x0 := hb1.at_ 0 (v := .int .i64 k) (by rfl)
  have ci0 := row_cell hr2 (is_get hk)
  have fi := row_frozen hr2
  have n1 : w.heap.size ≠ g := hb1.ne_ hg (by decide)
  obtain ⟨curi, bi, _⟩ := row_blk hr2
  have n2 : w.heap.size ≠ gi := hb1.ne_ bi (by decide)
  have n3 : g ≠ gi := hg.ne_ bi (by decide)
  have n1' := n1.symm
  have n2' := n2.symm
  have n3' := n3.symm
  have k0 : (0 : Int) ≤ (k : Int) := by omega
  have k1 : (k : Int) < (ps.length : Int) := by omega
  have lx := hb1.lt
  have m1 : vg.ownBlock ≠ some gi := fun e => row_row_ne hr1 hr2 (by decide) _ e rfl
  have m2 : vf.ownBlock ≠ some gi := fun e => row_row_ne hr3 hr2 (by decide) _ e rfl
  have m3 : vf.ownBlock ≠ some g := row_blk_ne hr3 hg (by decide)
  have m4 : vg.ownBlock ≠ some g := row_blk_ne hr1 hg (by decide)
  have Hall := hide (And.intro hg (And.intro hr1 (And.intro hr2 (And.intro hr3 (And.intro h4 (And.intro hb1 (And.intro hfw (And.intro m1 (And.intro m2 (And.intro m3 (And.intro m4 hk)))))))))))
  clear hf0 h hbx hk hfw hb1 hg hr1 hr2 hr3 h4 bi hci hmi hf Hf H0 m1 m2 m3 m4
  go_wp2_with fail
  go_region_held3 (fun w' => w'.cell? ⟨g, 1, none⟩ = some (.slice (some ⟨gi, 0, none⟩) ps.length ci) ∧ w'.cell? ⟨w.heap.size, 0, none⟩ = some (.int .i64 k)) (go_keep) (fail)
  rename_i hHeld
  clear hHeld
  obtain ⟨hg, hr1, hr2, hr3, h4, hb1, hfw, m1, m2, m3, m4, hk⟩ := Hall.out
  have hg2 := (hg.far (p := ⟨gi, k, none⟩) n3 (.bool false)).drew
  have hr12 := (row_far hr1 (p := ⟨gi, k, none⟩) m1 (.bool false)).drew
  have hr22 := (row_store hr2 k (by omega) (.bool false)).drew
  have hr32 := (row_far hr3 (p := ⟨gi, k, none⟩) m2 (.bool false)).drew
  have hb2 := (hb1.far (p := ⟨gi, k, none⟩) n2 (.bool false)).drew
  have hf2 : Fr (g :: (vg.ownBlock.toList ++ ((Value.slice (some ⟨gi, 0, none⟩) ps.length ci).ownBlock.toList ++ vf.ownBlock.toList))) w _ := ((hfw.any _).setCell (p := ⟨gi, k, none⟩) (by simp [Value.ownBlock]) (.bool false)).drew
  have hB1 : B ≤ w1.heap.size := Nat.le_trans hB hfw.size
  rw [is_set gen false] at hr22
  rw [← gens_same (b' := false) hk] at hr12
  have H2 := hide (And.intro hg2 (And.intro hr12 (And.intro hr22 (And.intro hr32 (And.intro hb2 hf2)))))
  have hgB : B ≤ w.heap.size := hB
  clear hg hr1 hr2 hr3 hb1 hfw hg2 hr12 hr22 hr32 hb2 hf2 c1 x0 ci0 fi lg lx lgi Hall hk
  have hsz2 := H2.out.2.2.2.2.2.size
  generalize World.drew _ = w2 at H2 hsz2 ⊢
  have c2 := H2.out.1.at_ 2 (v := vf) (by rfl)
  have x0 := H2.out.2.2.2.2.1.at_ 0 (v := .int .i64 k) (by rfl)
  have lg := H2.out.1.lt
  have lx := H2.out.2.2.2.2.1.lt
  have fg := H2.out.1.frozen
  have q1 := World.new_ne w2 _ c2
  have q2 := World.new_ne w2 _ x0
  have e0 : ((w2.alloc (.cells #[] 3)).drew).ownsRow B 3 1 (.slice (some ⟨w2.heap.size, 0, none⟩) 0 0) 0 [] := row_mk (Blk.new w2 3 #[]).drew (by omega) (Nat.le_refl _) (by simp [maxLen]) rfl rfl
  have e1 : (((w2.alloc (.cells #[] 3)).alloc (.cells #[.int .i64 k] 3)).drew).ownsRow B 3 1 (.slice (some ⟨w2.heap.size, 0, none⟩) 0 0) 0 [] := row_mk ((Blk.new w2 3 #[]).alloc _).drew (by omega) (Nat.le_refl _) (by simp [maxLen]) rfl rfl
  have e2 : (((w2.alloc (.cells #[.int .i64 k] 3)).alloc (.cells #[] 3)).drew).ownsRow B 3 1 (.slice (some ⟨w2.heap.size + 1, 0, none⟩) 0 0) 0 [] := row_mk (Blk.new_at _ 3 #[] _ (by simp)).drew (by omega) (Nat.le_refl _) (by simp [maxLen]) rfl rfl
  have E := hide (And.intro e0 (And.intro e1 e2))
  clear e0 e1 e2
  by_cases hr0 : row = []
  · subst hr0
    have hv : ∃ A c, vf = .slice A 0 c := by
      rcases row_form H2.out.2.2.2.1 with ⟨rfl, _⟩ | ⟨gt, ct, rfl, _⟩
      · exact ⟨_, _, rfl⟩
      · exact ⟨_, _, rfl⟩
    obtain ⟨A, c, rfl⟩ := hv
    go_wp2_with fail
    go_region_law
      ((first
        | (refine step_append_zero (by rfl) _ _ _ (by rfl) 3 i0 Tryd.underlying54 hi0 w2.heap.size A c (by rfl) (by rfl) ?_)
        | (refine step_append_zero (by rfl) _ _ _ (by rfl) 3 i0 Tryd.underlying54 hi0 (w2.heap.size + 1) A c (by rfl) (by rfl) ?_)
        | (refine step_append_lies _ (by rfl) _ _ _ (by rfl) B 3 i0 _ 1 8 Tryd.underlying54 hi0 hz0 hz1 hz2 rfl (by omega) (.slice (some ⟨w2.heap.size, 0, none⟩) 0 0) 0 [] (by rfl) E.out.2.1 ⟨(w2.heap.size + 1), 0, none⟩ 1 1 [.int .i64 k] (by rfl) (by rfl) (blk_news ((Blk.new_at (w2.alloc (.cells #[] 3)) 3 #[.int .i64 k] (w2.heap.size + 1) (by simp)).drew) 0 (fun j v hv => by simpa using hv)) (by simp [Value.oneCell']) (by omega) (by unfold maxLen; omega) (by omega) (by simp; omega) (w2.heap.size + 1 + 1) (by simp) ?_; intro gB capB w4 hownB hgrowB hatB hltB; have hF4 := hide (And.intro (grown_new ((((Fr.refl [] w2).alloc (.cells #[] 3)).alloc (.cells #[.int .i64 k] 3)).drew) hgrowB (fun b hb => by (have hb' : w2.heap.size = b := by simpa [Value.ownBlock] using hb); omega)) (at_new (B := w2.heap.size) hatB (fun b hb => by (have hb' : w2.heap.size = b := by simpa [Value.ownBlock] using hb); omega) (by omega))); have hOB := hide hownB; have hg4 := hide (H2.out.1.fr0 hF4.out.1); have c4 := hg4.out.at_ 2 (v := .slice A 0 c) (by rfl); have f4 := hg4.out.frozen 2; clear hownB hgrowB hatB)
        | (refine step_append_lies _ (by rfl) _ _ _ (by rfl) B 3 i0 _ 1 8 Tryd.underlying54 hi0 hz0 hz1 hz2 rfl (by omega) (.slice (some ⟨w2.heap.size + 1, 0, none⟩) 0 0) 0 [] (by rfl) E.out.2.2 ⟨w2.heap.size, 0, none⟩ 1 1 [.int .i64 k] (by rfl) (by rfl) (blk_news (((Blk.new w2 3 #[.int .i64 k]).alloc (.cells #[] 3)).drew) 0 (fun j v hv => by simpa using hv)) (by simp [Value.oneCell']) (by omega) (by unfold maxLen; omega) (by omega) (by simp; omega) (w2.heap.size + 1 + 1) (by simp) ?_; intro gB capB w4 hownB hgrowB hatB hltB; have hF4 := hide (And.intro (grown_new ((((Fr.refl [] w2).alloc (.cells #[.int .i64 k] 3)).alloc (.cells #[] 3)).drew) hgrowB (fun b hb => by (have hb' : w2.heap.size + 1 = b := by simpa [Value.ownBlock] using hb); omega)) (at_new (B := w2.heap.size) hatB (fun b hb => by (have hb' : w2.heap.size + 1 = b := by simpa [Value.ownBlock] using hb); omega) (by omega))); have hOB := hide hownB; have hg4 := hide (H2.out.1.fr0 hF4.out.1); have c4 := hg4.out.at_ 2 (v := .slice A 0 c) (by rfl); have f4 := hg4.out.frozen 2; clear hownB hgrowB hatB)))
    all_goals
      go_wp2_with fail
      go_ret
      have q := rfree_end (ps := ps.set k (gen, false)) (n := 0 + 1) (row := [] ++ [k]) (ci := ci) hBg lg (by rw [List.length_set]; exact ⟨H2.out.1, H2.out.2.1, H2.out.2.2.1⟩) (by rw [List.length_set]; exact H2.out.2.2.2.2.2) hF4.out.1 hF4.out.2 (by simp) (by simpa [encN] using hOB.out)
      rw [List.length_set] at q
      exact ⟨rfl, by simpa using q⟩
  · rcases row_form H2.out.2.2.2.1 with ⟨_, h0, _⟩ | ⟨gf, cf, rfl, _, lgf, hcf, hmf⟩
    · exact absurd (List.eq_nil_of_length_eq_zero h0) hr0
    have hr1 : 0 < row.length := by
      rcases Nat.eq_zero_or_pos row.length with h | h
      · exact absurd (List.eq_nil_of_length_eq_zero h) hr0
      · exact h
    clear hcf hmf hr0
    go_wp2_with fail
    go_region_law
      ((first
        | (refine step_append_lies _ (by rfl) _ _ _ (by rfl) B 3 i0 _ 1 8 Tryd.underlying54 hi0 hz0 hz1 hz2 rfl (by omega) (.slice (some ⟨w2.heap.size, 0, none⟩) 0 0) 0 [] (by rfl) E.out.1 ⟨gf, 0, none⟩ row.length cf (encN row) (by rfl) (by rw [encN_len, Nat.mul_one]) (row_news ((H2.out.2.2.2.1.alloc (.cells #[] 3)).drew) 0 (fun j v hv => by simpa using hv)) (encN_one row) (by omega) (by unfold maxLen; omega) (by omega) (by simp; omega) (w2.heap.size + 1) (by simp) ?_; intro gA capA w3 hownA hgrowA hatA hltA; have hF3 := hide (And.intro (grown_new (((Fr.refl [] w2).alloc (.cells #[] 3)).drew) hgrowA (fun b hb => by (have hb' : w2.heap.size = b := by simpa [Value.ownBlock] using hb); omega)) (at_new (B := w2.heap.size) hatA (fun b hb => by (have hb' : w2.heap.size = b := by simpa [Value.ownBlock] using hb); omega) (by omega))); have hOA : Hid (w3.ownsRow B 3 1 (.slice (some ⟨gA, 0, none⟩) row.length capA) row.length (encN row)) := hide (by simpa using hownA); have x3 := (hF3.out.1.cell (p := ⟨w.heap.size, 0, none⟩) lx (by simp)).trans x0; have lx3 : w.heap.size < w3.heap.size := Nat.lt_of_lt_of_le lx hF3.out.1.size; have c3 := (H2.out.1.fr0 hF3.out.1).at_ 2 (v := .slice (some ⟨gf, 0, none⟩) row.length cf) (by rfl); have f3 := (H2.out.1.fr0 hF3.out.1).frozen 2; clear hownA hgrowA hatA)
        | (refine step_append_lies _ (by rfl) _ _ _ (by rfl) B 3 i0 _ 1 8 Tryd.underlying54 hi0 hz0 hz1 hz2 rfl (by omega) (.slice (some ⟨w2.heap.size, 0, none⟩) 0 0) 0 [] (by rfl) E.out.2.1 ⟨gf, 0, none⟩ row.length cf (encN row) (by rfl) (by rw [encN_len, Nat.mul_one]) (row_news (((H2.out.2.2.2.1.alloc (.cells #[] 3)).alloc (.cells #[.int .i64 k] 3)).drew) 0 (fun j v hv => by simpa using hv)) (encN_one row) (by omega) (by unfold maxLen; omega) (by omega) (by simp; omega) (w2.heap.size + 1 + 1) (by simp) ?_; intro gA capA w3 hownA hgrowA hatA hltA; have hF3 := hide (And.intro (grown_new ((((Fr.refl [] w2).alloc (.cells #[] 3)).alloc (.cells #[.int .i64 k] 3)).drew) hgrowA (fun b hb => by (have hb' : w2.heap.size = b := by simpa [Value.ownBlock] using hb); omega)) (at_new (B := w2.heap.size) hatA (fun b hb => by (have hb' : w2.heap.size = b := by simpa [Value.ownBlock] using hb); omega) (by omega))); have hOA : Hid (w3.ownsRow B 3 1 (.slice (some ⟨gA, 0, none⟩) row.length capA) row.length (encN row)) := hide (by simpa using hownA); have x3 := (hF3.out.1.cell (p := ⟨w.heap.size, 0, none⟩) lx (by simp)).trans x0; have lx3 : w.heap.size < w3.heap.size := Nat.lt_of_lt_of_le lx hF3.out.1.size; have c3 := (H2.out.1.fr0 hF3.out.1).at_ 2 (v := .slice (some ⟨gf, 0, none⟩) row.length cf) (by rfl); have f3 := (H2.out.1.fr0 hF3.out.1).frozen 2; have kb := hide (((Blk.new_at (w2.alloc (.cells #[] 3)) 3 #[.int .i64 k] (w2.heap.size + 1) (by simp)).drew).grown hgrowA (by simp [Value.ownBlock])); clear hownA hgrowA hatA)
        | (refine step_append_lies _ (by rfl) _ _ _ (by rfl) B 3 i0 _ 1 8 Tryd.underlying54 hi0 hz0 hz1 hz2 rfl (by omega) (.slice (some ⟨w2.heap.size + 1, 0, none⟩) 0 0) 0 [] (by rfl) E.out.2.2 ⟨gf, 0, none⟩ row.length cf (encN row) (by rfl) (by rw [encN_len, Nat.mul_one]) (row_news (((H2.out.2.2.2.1.alloc (.cells #[.int .i64 k] 3)).alloc (.cells #[] 3)).drew) 0 (fun j v hv => by simpa using hv)) (encN_one row) (by omega) (by unfold maxLen; omega) (by omega) (by simp; omega) (w2.heap.size + 1 + 1) (by simp) ?_; intro gA capA w3 hownA hgrowA hatA hltA; have hF3 := hide (And.intro (grown_new ((((Fr.refl [] w2).alloc (.cells #[.int .i64 k] 3)).alloc (.cells #[] 3)).drew) hgrowA (fun b hb => by (have hb' : w2.heap.size + 1 = b := by simpa [Value.ownBlock] using hb); omega)) (at_new (B := w2.heap.size) hatA (fun b hb => by (have hb' : w2.heap.size + 1 = b := by simpa [Value.ownBlock] using hb); omega) (by omega))); have hOA : Hid (w3.ownsRow B 3 1 (.slice (some ⟨gA, 0, none⟩) row.length capA) row.length (encN row)) := hide (by simpa using hownA); have x3 := (hF3.out.1.cell (p := ⟨w.heap.size, 0, none⟩) lx (by simp)).trans x0; have lx3 : w.heap.size < w3.heap.size := Nat.lt_of_lt_of_le lx hF3.out.1.size; have c3 := (H2.out.1.fr0 hF3.out.1).at_ 2 (v := .slice (some ⟨gf, 0, none⟩) row.length cf) (by rfl); have f3 := (H2.out.1.fr0 hF3.out.1).frozen 2; have kb := hide ((((Blk.new w2 3 #[.int .i64 k]).alloc (.cells #[] 3)).drew).grown hgrowA (by simp [Value.ownBlock])); clear hownA hgrowA hatA)
        | (refine step_append_lies _ (by rfl) _ _ _ (by rfl) B 3 i0 _ 1 8 Tryd.underlying54 hi0 hz0 hz1 hz2 rfl (by omega) (.slice (some ⟨gA, 0, none⟩) row.length capA) row.length (encN row) (by rfl) (hOA.out.alloc _) ⟨w3.heap.size, 0, none⟩ 1 1 [.int .i64 k] (by rfl) (by rfl) (World.news_of_block (cs := #[.int .i64 k]) (t := 3) (fr := (0, 0)) (heap_alloc_new w3 _)) (by simp [Value.oneCell']) (by omega) (by unfold maxLen; omega) (by omega) (by have := hF3.out.1.size; simp; omega) (w3.heap.size + 1) (by simp) ?_; intro gB capB w4 hownB hgrowB hatB hltB; have hF4 := hide (And.intro (grown_new (hF3.out.1.alloc (.cells #[.int .i64 k] 3)) hgrowB (fun b hb => by (have hb' : gA = b := by simpa [Value.ownBlock] using hb); have := hF3.out.2; omega)) (at_new (B := w2.heap.size) hatB (fun b hb => by (have hb' : gA = b := by simpa [Value.ownBlock] using hb); have := hF3.out.2; omega) (by have := hF3.out.1.size; omega))); have hOB := hide hownB; have hg4 := hide (H2.out.1.fr0 hF4.out.1); have c4 := hg4.out.at_ 2 (v := .slice (some ⟨gf, 0, none⟩) row.length cf) (by rfl); have f4 := hg4.out.frozen 2; clear hownB hgrowB hatB)
        | (refine step_append_lies _ (by rfl) _ _ _ (by rfl) B 3 i0 _ 1 8 Tryd.underlying54 hi0 hz0 hz1 hz2 rfl (by omega) (.slice (some ⟨gA, 0, none⟩) row.length capA) row.length (encN row) (by rfl) hOA.out ⟨(w2.heap.size + 1), 0, none⟩ 1 1 [.int .i64 k] (by rfl) (by rfl) (blk_news kb.out 0 (fun j v hv => by simpa using hv)) (by simp [Value.oneCell']) (by omega) (by unfold maxLen; omega) (by omega) (by have := hF3.out.1.size; simp; omega) (w3.heap.size) (by simp) ?_; intro gB capB w4 hownB hgrowB hatB hltB; have hF4 := hide (And.intro (grown_new (hF3.out.1) hgrowB (fun b hb => by (have hb' : gA = b := by simpa [Value.ownBlock] using hb); have := hF3.out.2; omega)) (at_new (B := w2.heap.size) hatB (fun b hb => by (have hb' : gA = b := by simpa [Value.ownBlock] using hb); have := hF3.out.2; omega) (by have := hF3.out.1.size; omega))); have hOB := hide hownB; have hg4 := hide (H2.out.1.fr0 hF4.out.1); have c4 := hg4.out.at_ 2 (v := .slice (some ⟨gf, 0, none⟩) row.length cf) (by rfl); have f4 := hg4.out.frozen 2; clear hownB hgrowB hatB)
        | (refine step_append_lies _ (by rfl) _ _ _ (by rfl) B 3 i0 _ 1 8 Tryd.underlying54 hi0 hz0 hz1 hz2 rfl (by omega) (.slice (some ⟨gA, 0, none⟩) row.length capA) row.length (encN row) (by rfl) hOA.out ⟨w2.heap.size, 0, none⟩ 1 1 [.int .i64 k] (by rfl) (by rfl) (blk_news kb.out 0 (fun j v hv => by simpa using hv)) (by simp [Value.oneCell']) (by omega) (by unfold maxLen; omega) (by omega) (by have := hF3.out.1.size; simp; omega) (w3.heap.size) (by simp) ?_; intro gB capB w4 hownB hgrowB hatB hltB; have hF4 := hide (And.intro (grown_new (hF3.out.1) hgrowB (fun b hb => by (have hb' : gA = b := by simpa [Value.ownBlock] using hb); have := hF3.out.2; omega)) (at_new (B := w2.heap.size) hatB (fun b hb => by (have hb' : gA = b := by simpa [Value.ownBlock] using hb); have := hF3.out.2; omega) (by have := hF3.out.1.size; omega))); have hOB := hide hownB; have hg4 := hide (H2.out.1.fr0 hF4.out.1); have c4 := hg4.out.at_ 2 (v := .slice (some ⟨gf, 0, none⟩) row.length cf) (by rfl); have f4 := hg4.out.frozen 2; clear hownB hgrowB hatB)))
    all_goals
      go_wp2_with fail
      go_ret
      have q := rfree_end (ps := ps.set k (gen, false)) (n := row.length + 1) (row := row ++ [k]) (ci := ci) hBg lg (by rw [List.length_set]; exact ⟨H2.out.1, H2.out.2.1, H2.out.2.2.1⟩) (by rw [List.length_set]; exact H2.out.2.2.2.2.2) hF4.out.1 hF4.out.2 (by simp) (by simpa [encN] using hOB.out)
      rw [List.length_set] at q
      exact ⟨rfl, by simpa using q⟩
end Go.Proofs.YtghffjlgiclieaaDoor
