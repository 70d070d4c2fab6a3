/- A set of components as an argument. -/
import Derived.Test.YtclmmfkbkaldlaaDoorLeaf
namespace Go.Proofs.YtclmmfkbkaldlaaDoor
open Go.ChangeShapes Go.WideShapes Go.ChangeAt Go.RowKit Go.Deep
theorem wf_u32 {n : Int} (h : (Lit.int .u32 n).wf = true) : 0 ≤ n ∧ n ≤ 4294967295 := by
  have h1 : IntKind.u32.min = 0 := rfl
  have h2 : IntKind.u32.max = 4294967295 := rfl
  simp only [Lit.wf, Bool.and_eq_true, decide_eq_true_eq] at h
  omega
set_option maxRecDepth 100000 in
theorem open_mask {H : Type} {enc : TypeId × Value → H} {W : World} {base : Nat} {spare : Nat → Bool} {held : Bool} {v : Value} {d : DataW H} {ps : List MemPlace} {r : Reach} {b0 : Nat}
    (hv : Value.okWide Tryd.prog W r b0 33 v) (h : DataW.Trod enc Tryd.prog W base spare held 33 v d ps) : ∃ m : Nat, v = .int .u32 m ∧ m < 4294967296 := by
  obtain ⟨n, rfl, _, _, hw⟩ := open_int Tryd.underlying33 hv h
  obtain ⟨h0, h1⟩ := wf_u32 hw
  exact ⟨n.toNat, congrArg (Value.int .u32) (Int.toNat_of_nonneg h0).symm, (Int.toNat_lt h0).2 (Int.lt_of_le_of_lt h1 (by decide))⟩
def encM (x : Nat) : List Value := [.int .u32 x]
theorem encM_len (x : Nat) : (encM x).length = 1 := rfl
theorem maskLeaves : leaves Tryd.prog 5 33 = some [.int .u32] := by kernel_rfl
theorem maskCells : Tryd.prog.cellsOf 33 = 1 := by kernel_rfl
set_option maxRecDepth 100000 in
theorem open_masks {H : Type} {enc : TypeId × Value → H} {W : World} {base : Nat} {spare : Nat → Bool} {held : Bool} {v : Value} {d : DataW H} {ps : List MemPlace} {r : Reach} {b0 : Nat}
    (hv : Value.okWide Tryd.prog W r b0 22 v) (h : DataW.Trod enc Tryd.prog W base spare held 22 v d ps) :
    ∃ (A : Option Addr) (n c : Nat) (l : List Nat), v = .slice A n c ∧ l.length = n ∧ n ≤ maxLen ∧ (∀ m ∈ l, m < 4294967296) ∧ Reads W W.heap.size 1 A n (l.flatMap encM) :=
  open_list (k := 1) encM (fun m => m < 4294967296) encM_len Tryd.underlying22 maskCells (by omega) (fun n cs x h => by
    have h4 := leaves_ok 5 _ _ _ _ _ maskLeaves h
    cases h4 with | cons a0 b0 => cases b0 with | nil =>
    obtain ⟨x0, rfl, w0⟩ := a0
    obtain ⟨h0, h1⟩ := wf_u32 w0
    exact ⟨x0.toNat, by rw [encM, congrArg (Value.int .u32) (Int.toNat_of_nonneg h0)], (Int.toNat_lt h0).2 (Int.lt_of_le_of_lt h1 (by decide))⟩) hv h
end Go.Proofs.YtclmmfkbkaldlaaDoor
