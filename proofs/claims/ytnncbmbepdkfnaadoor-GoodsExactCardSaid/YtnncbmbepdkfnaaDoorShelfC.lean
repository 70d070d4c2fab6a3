/- Contracts of Go's library (slices), laid over this program. -/
import Derived.Shelf.Slices.Clone
import Derived.Test.YtnncbmbepdkfnaaDoorErr
namespace Go.Proofs.YtnncbmbepdkfnaaDoor
open Go.Shelf
def Tryd.lNm2_15_ren : Go.Shelf.Ren := ⟨fun | 15 => 29 | n => n, fun | 22 => 36 | 3 => 3 | 4 => 4 | n => n, fun  | n => n⟩
theorem Tryd.lNm2_15 : Lays2.n15 Tryd.prog Tryd.lNm2_15_ren where
  mixed := by kernel_rfl
  f15 := Tryd.func29.trans (congrArg some (by kernel_rfl))
  t3 := Tryd.underlying3
  a3 := Tryd.isAgg3
  z3 := Tryd.sizeOf3
  v3 := Tryd.zeroValue3
  t4 := Tryd.underlying4
  a4 := Tryd.isAgg4
  z4 := Tryd.sizeOf4
  v4 := Tryd.zeroValue4
  t22 := Tryd.underlying36
  a22 := Tryd.isAgg36
  z22 := Tryd.sizeOf36
  v22 := Tryd.zeroValue36
  i3 := by kernel_rfl
end Go.Proofs.YtnncbmbepdkfnaaDoor
