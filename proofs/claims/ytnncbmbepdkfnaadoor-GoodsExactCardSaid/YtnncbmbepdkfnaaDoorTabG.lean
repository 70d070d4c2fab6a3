/- The table of package math/bits, as its own initialiser lays it. -/
import Derived.Test.YtnncbmbepdkfnaaDoorLib
namespace Go.Proofs.YtnncbmbepdkfnaaDoor
def tab : List Nat := [0, 1, 28, 2, 29, 14, 24, 3, 30, 22, 20, 15, 25, 17, 4, 8, 31, 27, 13, 23, 21, 19, 16, 7, 26, 12, 18, 6, 11, 5, 10, 9]
def Tab (w : World) : Prop := 20 < w.heap.size ∧ ∀ i v, tab[i]? = some v → w.cell? ⟨20, i, none⟩ = some (.int .u8 (v : Nat))
theorem tab_of {w : World} (h : ∀ i, w.cell? ⟨20, i, none⟩ = (tab.map fun v => Value.int .u8 (v : Nat))[i]?) : Tab w :=
  ⟨World.block_lt_of_cell? w _ (h 0), fun i v hv => by rw [h i, List.getElem?_map, hv]; rfl⟩
end Go.Proofs.YtnncbmbepdkfnaaDoor
