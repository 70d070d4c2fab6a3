/- An array variable that begins as zeros, in one step: a walk that stores its cells one by one is too long. -/
import Derived.Test.YtmjdnmpiheaidaaDoorRest
import Derived.Great.Walk
import Derived.Great.BuildSlice
import Derived.Deep.WholeRow
namespace Go.Proofs.YtmjdnmpiheaidaaDoor
open Go.RowKit

theorem arg_keep {w W : World} {p : Addr} {v : Value} (h0 : w.cell? p = some v) (hp : p.block < w.heap.size) (hf : Fr [] w W) : W.cell? p = some v := (hf.cell hp (by simp)).trans h0

theorem wpList_zeros {P : Program} {ops : Array Oper} {rest : List Oper} {o1 o2 o3 : Oper} {a : Act} {w : World} {Q : Exit → Act → World → Prop} (g1 : o1.guard = none) (g2 : o2.guard = none) (g3 : o3.guard = none) (t : TypeId) (d1 d2 : Nat)
    (h1 : o1.op = .build t #[]) (h2 : o2.op = .alloc t) (h3 : o3.op = .store t (.tmp d2) (.tmp d1)) (e1 : o1.dst = some d1) (e2 : o2.dst = some d2) (e3 : o3.dst = none)
    (z : Array Value) (hz : P.built t [] = some z) (hi : (P.info? t).map (fun i => (i.zero, i.size)) = some (some (.agg z), z.size)) (hc : z.all (·.oneCell') = true)
    (hx : ((a.put (some d1) (.agg z)).put (some d2) (.pointer (some ⟨w.heap.size, 0, none⟩))).eval (.tmp d2) = .pointer (some ⟨w.heap.size, 0, none⟩))
    (hy : ((a.put (some d1) (.agg z)).put (some d2) (.pointer (some ⟨w.heap.size, 0, none⟩))).eval (.tmp d1) = .agg z)
    (h : wpList P ops Q rest ((a.put (some d1) (.agg z)).put (some d2) (.pointer (some ⟨w.heap.size, 0, none⟩))) (w.alloc (.cells z t))) :
    wpList P ops Q (o1 :: o2 :: o3 :: rest) a w := by
  obtain ⟨hz0, hs⟩ := zero_of_info hi
  refine wpList_buildTo g1 t #[] h1 (some d1) e1 z (by simpa using hz) ?_
  refine Go.Great.wpList_allocTo g2 (some d2) e2 (.pointer (some ⟨w.heap.size, 0, none⟩)) (.cells z t) ?_ ?_
  · unfold execOp
    simp [h2, Instr.alloc, hz0, newVar, newRow, run_newObj_alloc, Value.cells, Result.andThen]
  · refine wpList_store_rowTo g3 t (.tmp d2) (.tmp d1) h3 e3 w.heap.size z hx hy t z (heap_alloc_last w _) hs rfl hc ?_
    rw [World.setRow_alloc_new]
    exact h
end Go.Proofs.YtmjdnmpiheaidaaDoor
