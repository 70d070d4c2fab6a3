/- Of of the reference of layer 16, by contract. -/
import Derived.Test.YthjakngpegdhmaaDoorTable
import Derived.Test.YthjakngpegdhmaaDoorFrame
import Derived.Laws.Tables
import Derived.Deep.DeepCutAuto
import Derived.Deep.CutBlock
import Derived.Deep.WholeRow
namespace Go.Proofs.YthjakngpegdhmaaDoor
open Go.RowKit
theorem build_is {P : Program} {ops : Array Oper} {rest : List Oper} {o : Oper} {a : Act} {w : World} {Q : Exit → Act → World → Prop} (hg : o.guard = none) (t : TypeId) (parts : Array (Nat × Operand)) (ho : o.op = .build t parts) (cells : Array Value)
    (hf : P.built t (parts.map fun (i, x) => (i, a.eval x)).toList = some cells) (h : wpList P ops Q rest (a.put o.dst (.agg cells)) w) : wpList P ops Q (o :: rest) a w :=
  wpList_build hg t parts ho (by rw [hf]; rfl) (by rw [hf]; exact h)
theorem blk4_reads {w : World} {g : Nat} {t : TypeId} {a0 a1 a2 a3 : Value} (h : Blk w g t #[a0, a1, a2, a3]) (v0 v1 v2 v3 : Value) :
    (w.setCell ⟨g, 0, none⟩ v0).cell? ⟨g, 0, none⟩ = some v0 ∧ ((w.setCell ⟨g, 0, none⟩ v0).setCell ⟨g, 1, none⟩ v1).cell? ⟨g, 1, none⟩ = some v1 ∧
    (((w.setCell ⟨g, 0, none⟩ v0).setCell ⟨g, 1, none⟩ v1).setCell ⟨g, 2, none⟩ v2).cell? ⟨g, 2, none⟩ = some v2 ∧
    ((((w.setCell ⟨g, 0, none⟩ v0).setCell ⟨g, 1, none⟩ v1).setCell ⟨g, 2, none⟩ v2).setCell ⟨g, 3, none⟩ v3).cell? ⟨g, 3, none⟩ = some v3 :=
  ⟨(h.set_ 0 v0).at_ 0 rfl, ((h.set_ 0 v0).set_ 1 v1).at_ 1 rfl, (((h.set_ 0 v0).set_ 1 v1).set_ 2 v2).at_ 2 rfl, ((((h.set_ 0 v0).set_ 1 v1).set_ 2 v2).set_ 3 v3).at_ 3 rfl⟩
theorem Fr.set4 {w w1 : World} (h : Fr [] w w1) (v0 v1 v2 v3 : Value) : Fr [] w ((((w1.setCell ⟨w.heap.size, 0, none⟩ v0).setCell ⟨w.heap.size, 1, none⟩ v1).setCell ⟨w.heap.size, 2, none⟩ v2).setCell ⟨w.heap.size, 3, none⟩ v3) :=
  (((h.setCell (.inr (Nat.le_refl _)) _).setCell (.inr (Nat.le_refl _)) _).setCell (.inr (Nat.le_refl _)) _).setCell (.inr (Nat.le_refl _)) _
theorem tabSize : (Tryd.prog.info? 61).map (·.size) = some rowCells.toArray.size := by kernel_rfl
set_option maxRecDepth 100000 in
set_option maxHeartbeats 4000000 in
theorem refOf_calls {w : World} (op : Int) : Calls Tryd.prog 9 #[.int .i64 op] w fun e w' => e = .returned (.tuple #[.agg (encR (rowOf op)).toArray, .bool (isOp op)]) ∧ Fr [] w w' := by
  generalize hr : rowOf op = r
  generalize hb : isOp op = b
  have Hrb := hide (And.intro hr hb)
  clear hr hb
  go_enter Tryd.func9, Tryd.ntmps9
  go_upto_region 2 with (first | refine build_is rfl 61 _ rfl rowCells.toArray (by kernel_rfl) ?_ | refine wpList_store_row rfl 61 _ _ rfl (w.heap.size + 1) rowCells.toArray rfl rfl 61 _ (Blk.new_at _ _ _ _ (by simp)) tabSize (by kernel_rfl) (by kernel_rfl) ?_)
  have hw1 : ∀ cz, (((w.alloc (.cells #[.string ⟨#[]⟩, .int .i64 0, .int .i64 0, .int .i64 0] 24)).alloc (.cells cz 61)).setRow (w.heap.size + 1) rowCells.toArray) = (w.alloc (.cells #[.string ⟨#[]⟩, .int .i64 0, .int .i64 0, .int .i64 0] 24)).alloc (.cells rowCells.toArray 61) := by
    intro cz
    rw [show w.heap.size + 1 = (w.alloc (.cells #[.string ⟨#[]⟩, .int .i64 0, .int .i64 0, .int .i64 0] 24)).heap.size from by simp only [World.alloc, Array.size_push], World.setRow_alloc_new]
  rw [hw1]
  clear hw1
  have hB : Blk ((w.alloc (.cells #[.string ⟨#[]⟩, .int .i64 0, .int .i64 0, .int .i64 0] 24)).alloc (.cells rowCells.toArray 61)) (w.heap.size + 1) 61 rowCells.toArray := Blk.new_at _ _ _ _ (by simp only [World.alloc, Array.size_push])
  have hf1 : Fr [] w ((w.alloc (.cells #[.string ⟨#[]⟩, .int .i64 0, .int .i64 0, .int .i64 0] 24)).alloc (.cells rowCells.toArray 61)) := ((Fr.refl _ _).alloc _).alloc _
  have hR : Blk ((w.alloc (.cells #[.string ⟨#[]⟩, .int .i64 0, .int .i64 0, .int .i64 0] 24)).alloc (.cells rowCells.toArray 61)) w.heap.size 24 #[.string ⟨#[]⟩, .int .i64 0, .int .i64 0, .int .i64 0] := (Blk.new w _ _).alloc _
  generalize World.alloc (World.alloc w _) _ = w1 at hB hf1 hR ⊢
  have lB := hB.lt
  have lR := hR.lt
  have nBR : w.heap.size + 1 ≠ w.heap.size := by omega
  have nRB := nBR.symm
  have r0 := hR.at_ 0 (v := .string ⟨#[]⟩) rfl
  have r1 := hR.at_ 1 (v := .int .i64 0) rfl
  have r2 := hR.at_ 2 (v := .int .i64 0) rfl
  have r3 := hR.at_ 3 (v := .int .i64 0) rfl
  have fR := hR.frozen
  have Hf1 := hide hf1
  have HR := hide hR
  have hcell : ∀ k, k < 36 → ∀ j v, j < 4 → (encR (rowsL.getD k zR))[j]? = some v → w1.cell? ⟨w.heap.size + 1, k * 4 + j, none⟩ = some v := by
    intro k hk j v hj hv
    refine hB.at_ _ ?_
    have hx : rowsL[k]? = some (rowsL.getD k zR) := by
      rw [List.getElem?_eq_getElem (by rw [rows_len]; exact hk), List.getD_eq_getElem?_getD, List.getElem?_eq_getElem (by rw [rows_len]; exact hk)]; rfl
    rw [List.getElem?_toArray]
    exact (flat_get encR_len hx j hj).trans hv
  have HC := hide hcell
  clear hcell hf1 hR hB
  by_cases h0 : op < 0
  · obtain rfl : r = zR := Hrb.out.1.symm.trans (if_neg (by omega))
    obtain rfl : b = false := Hrb.out.2.symm.trans (decide_eq_false (by omega))
    go_wp2_with fail
    obtain ⟨q0, q1, q2, q3⟩ := blk4_reads HR.out (.string ⟨#[]⟩) (.int .i64 0) (.int .i64 0) (.int .i64 0)
    refine bodyPost_ret (v := .tuple #[.agg (encR zR).toArray, .bool false]) (by simp [results, Tryd.results9, go_sem, encR, zR, q0, q1, q2, q3]) rfl ⟨rfl, ?_⟩
    exact Hf1.out.set4 _ _ _ _
  · obtain ⟨k, rfl⟩ := Int.eq_ofNat_of_zero_le (a := op) (by omega)
    by_cases h1 : 36 ≤ k
    · obtain rfl : r = zR := Hrb.out.1.symm.trans (if_neg (by omega))
      obtain rfl : b = false := Hrb.out.2.symm.trans (decide_eq_false (by omega))
      have k1 : (35 : Int) < (k : Int) := by omega
      go_wp2_with fail
      obtain ⟨q0, q1, q2, q3⟩ := blk4_reads HR.out (.string ⟨#[]⟩) (.int .i64 0) (.int .i64 0) (.int .i64 0)
      refine bodyPost_ret (v := .tuple #[.agg (encR zR).toArray, .bool false]) (by simp [results, Tryd.results9, go_sem, encR, zR, q0, q1, q2, q3]) rfl ⟨rfl, ?_⟩
      exact Hf1.out.set4 _ _ _ _
    · have e : rowsL.getD k zR = r := (Hrb.out.1.symm.trans (by unfold rowOf; rw [if_pos (by omega)]; rfl)).symm
      obtain rfl : b = true := Hrb.out.2.symm.trans (decide_eq_true (by omega))
      have c0 := HC.out k (by omega) 0 (.string ⟨r.w.toArray⟩) (by omega) (by rw [e]; rfl)
      have c1 := HC.out k (by omega) 1 (.int .i64 r.a) (by omega) (by rw [e]; rfl)
      have c2 := HC.out k (by omega) 2 (.int .i64 r.t) (by omega) (by rw [e]; rfl)
      have c3 := HC.out k (by omega) 3 (.int .i64 r.l) (by omega) (by rw [e]; rfl)
      clear e Hrb
      obtain ⟨rw_, ra, rt, rl⟩ := r
      simp only at c0 c1 c2 c3
      change w1.cell? ⟨w.heap.size + 1, k * 4, none⟩ = _ at c0
      have k0 : (0 : Int) ≤ (k : Int) := by omega
      have k1 : (k : Int) < 36 := by omega
      have k2 : ¬ (35 : Int) < (k : Int) := by omega
      clear HC
      go_wp2_with fail
      obtain ⟨q0, q1, q2, q3⟩ := blk4_reads HR.out (.string ⟨rw_.toArray⟩) (.int .i64 ra) (.int .i64 rt) (.int .i64 rl)
      refine bodyPost_ret (v := .tuple #[.agg (encR ⟨rw_, ra, rt, rl⟩).toArray, .bool true]) (by simp [results, Tryd.results9, go_sem, encR, q0, q1, q2, q3]) rfl ⟨rfl, ?_⟩
      exact Hf1.out.set4 _ _ _ _
end Go.Proofs.YthjakngpegdhmaaDoor
