/- A call that comes up in a region which draws its order, opened for a contract. -/
import Derived.Test.YtioeafjlbdpjoaaDoorLib
import Derived.Deep.RegionLaw
namespace Go.Proofs.YtioeafjlbdpjoaaDoor
open Go.RowKit
theorem step_open {P : Program} {ops : Array Oper} {o : Oper} {a : Act} {w : World} {K : Act → World → Prop} {Q : Exit → Act → World → Prop} {E : Prop} (hgd : o.guard = none) (h : Oper.wp P o a w K Q) : if Region.wanted o (yielded ops a.tmps) = true then Oper.wp P o a w K Q else E := by
  have hw : Region.wanted o (yielded ops a.tmps) = true := by simp [Region.wanted, hgd]
  rw [if_pos hw]; exact h
theorem keep_fr {w w' : World} {g : Nat} {t : TypeId} {cs : Array Value} {v : Value} (h : Blk w g t cs) (i : Nat) (hv : cs[i]? = some v) (hf : Fr [] w w') : w'.cell? ⟨g, i, none⟩ = some v := (h.fr0 hf).at_ i hv
end Go.Proofs.YtioeafjlbdpjoaaDoor
