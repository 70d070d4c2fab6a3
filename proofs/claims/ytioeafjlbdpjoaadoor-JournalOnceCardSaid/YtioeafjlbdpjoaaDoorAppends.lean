/- Appends: of nothing, and to a row that is new. -/
import Derived.Test.YtioeafjlbdpjoaaDoorRest
namespace Go.Proofs.YtioeafjlbdpjoaaDoor
open Go.RowKit

/-- an append of nothing to an empty slice -/
theorem run_append_zero {P : Program} (w : World) (t ty e : TypeId) (i : TypeInfo) (ht : P.underlying t = some (.slice e)) (hi : P.info? e = some i) (N : Nat) (A : Option Addr) (c : Nat) :
    (Builtin.append_ #[t, t] ty #[.slice (some ⟨N, 0, none⟩) 0 0, .slice A 0 c]).run P w = .ok (.slice (some ⟨N, 0, none⟩) 0 0) w := by
  cases A with
  | none => simp [Builtin.append_, run_underlying ht, sizeOf, typeInfo, hi, Builtin.lenOf, Builtin.firstCells, storeCells]
  | some a =>
    have hl : (loadCells a 0).run P w = .ok #[] w := by simp [loadCells, loadCellsFrom]
    simp [Builtin.append_, run_underlying ht, sizeOf, typeInfo, hi, Builtin.lenOf, Builtin.firstCells, storeCells, hl, Result.andThen]
theorem step_append_zero {P : Program} {ops : Array Oper} {o : Oper} {a : Act} {w : World} {K : Act → World → Prop} {Q : Exit → Act → World → Prop} {E : Prop} (hgd : o.guard = none) (s x : Operand) (t : TypeId)
    (ho : o.op = .call { callee := .builtin .append, args := #[s, x], argTypes := #[t, t] }) (e : TypeId) (i : TypeInfo) (ht : P.underlying t = some (.slice e)) (hi : P.info? e = some i) (N : Nat) (A : Option Addr) (c : Nat)
    (hs : a.eval s = .slice (some ⟨N, 0, none⟩) 0 0) (hx : a.eval x = .slice A 0 c) (h : K (a.put o.dst (.slice (some ⟨N, 0, none⟩) 0 0)) w) :
    if Region.wanted o (yielded ops a.tmps) = true then Oper.wp P o a w K Q else E := by
  have hw : Region.wanted o (yielded ops a.tmps) = true := by simp [Region.wanted, hgd]
  rw [if_pos hw]
  unfold Oper.wp execOp
  simp only [ho, resolve, invoke, builtin, Sem.run_bind, Sem.run_pure, Result.andThen_ok, List.map_toArray, List.map_cons, List.map_nil, hs, hx, run_append_zero w t _ e i ht hi N A c]
  exact h
/-- an append to a row that is new: nothing elder has turned -/
theorem grown_new {w2 X w3 : World} {v : Value} (hX : Fr [] w2 X) (hg : X.grownBy w3 v.ownBlock) (hv : ∀ b, v.ownBlock = some b → w2.heap.size ≤ b) : Fr [] w2 w3 := hX.grown hg (fun k hk => .inr (hv k hk))

end Go.Proofs.YtioeafjlbdpjoaaDoor
