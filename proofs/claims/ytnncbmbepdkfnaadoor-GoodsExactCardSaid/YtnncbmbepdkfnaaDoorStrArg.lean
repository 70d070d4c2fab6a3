/- A string as an argument, opened. -/
import Derived.Test.YtnncbmbepdkfnaaDoorLeaf
import Derived.ChangeMaps5
namespace Go.Proofs.YtnncbmbepdkfnaaDoor
open Go.ChangeShapes Go.WideShapes Go.ChangeAt Go.RowKit Go.Deep
set_option maxRecDepth 100000 in
theorem open_str {H : Type} {enc : TypeId × Value → H} {W : World} {base : Nat} {spare : Nat → Bool} {held : Bool} {v : Value} {d : DataW H} {ps : List MemPlace} {r : Reach} {b0 : Nat}
    (hv : Value.okWide Tryd.prog W r b0 9 v) (h : DataW.Trod enc Tryd.prog W base spare held 9 v d ps) : ∃ ws : List UInt8, v = .string ⟨ws.toArray⟩ ∧ ws.length ≤ maxLen := by
  obtain ⟨s, rfl, -, -, hs⟩ := Go.ChangeMaps.open_string Tryd.underlying9 hv h
  exact ⟨s.data.toList, rfl, by rw [Array.length_toList]; exact hs⟩
end Go.Proofs.YtnncbmbepdkfnaaDoor
