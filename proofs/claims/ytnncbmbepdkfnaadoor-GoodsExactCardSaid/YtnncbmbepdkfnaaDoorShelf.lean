/- Contracts of Go's library (slices), laid over this program. -/
import Derived.Shelf.Strings.OnBuilder
import Derived.Test.YtnncbmbepdkfnaaDoorErr
namespace Go.Proofs.YtnncbmbepdkfnaaDoor
open Go.Shelf
def Tryd.lNm_156_ren : Go.Shelf.Ren := ⟨fun | 156 => 45 | 165 => 55 | 166 => 56 | 169 => 57 | 240 => 65 | 241 => 66 | 276 => 68 | 277 => 69 | n => n, fun | 31 => 103 | 9 => 9 | 3 => 3 | 4 => 4 | 0 => 0 | 20 => 20 | 72 => 123 | 76 => 39 | 70 => 120 | 37 => 121 | 75 => 26 | 127 => 131 | 164 => 133 | 5 => 5 | 80 => 126 | n => n, fun  | n => n⟩
theorem Tryd.lNm_156 : Lays.n156 Tryd.prog Tryd.lNm_156_ren where
  mixed := by kernel_rfl
  f156 := Tryd.func45.trans (congrArg some (by kernel_rfl))
  f165 := Tryd.func55.trans (congrArg some (by kernel_rfl))
  f166 := Tryd.func56.trans (congrArg some (by kernel_rfl))
  f169 := Tryd.func57.trans (congrArg some (by kernel_rfl))
  f240 := Tryd.func65.trans (congrArg some (by kernel_rfl))
  f241 := Tryd.func66.trans (congrArg some (by kernel_rfl))
  f276 := Tryd.func68.trans (congrArg some (by kernel_rfl))
  f277 := Tryd.func69.trans (congrArg some (by kernel_rfl))
  t0 := Tryd.underlying0
  a0 := Tryd.isAgg0
  z0 := Tryd.sizeOf0
  v0 := Tryd.zeroValue0
  t3 := Tryd.underlying3
  a3 := Tryd.isAgg3
  z3 := Tryd.sizeOf3
  v3 := Tryd.zeroValue3
  t4 := Tryd.underlying4
  a4 := Tryd.isAgg4
  z4 := Tryd.sizeOf4
  v4 := Tryd.zeroValue4
  t9 := Tryd.underlying9
  a9 := Tryd.isAgg9
  z9 := Tryd.sizeOf9
  v9 := Tryd.zeroValue9
  t20 := Tryd.underlying20
  a20 := Tryd.isAgg20
  z20 := Tryd.sizeOf20
  v20 := Tryd.zeroValue20
  t31 := Tryd.underlying103
  a31 := Tryd.isAgg103
  z31 := Tryd.sizeOf103
  v31 := Tryd.zeroValue103
  t37 := Tryd.underlying121
  a37 := Tryd.isAgg121
  z37 := Tryd.sizeOf121
  v37 := Tryd.zeroValue121
  t70 := Tryd.underlying120
  a70 := Tryd.isAgg120
  z70 := Tryd.sizeOf120
  v70 := Tryd.zeroValue120
  t72 := Tryd.underlying123
  a72 := Tryd.isAgg123
  z72 := Tryd.sizeOf123
  v72 := Tryd.zeroValue123
  t75 := Tryd.underlying26
  a75 := Tryd.isAgg26
  z75 := Tryd.sizeOf26
  v75 := Tryd.zeroValue26
  t76 := Tryd.underlying39
  a76 := Tryd.isAgg39
  z76 := Tryd.sizeOf39
  v76 := Tryd.zeroValue39
  t127 := Tryd.underlying131
  a127 := Tryd.isAgg131
  z127 := Tryd.sizeOf131
  v127 := Tryd.zeroValue131
  t164 := Tryd.underlying133
  a164 := Tryd.isAgg133
  z164 := Tryd.sizeOf133
  v164 := Tryd.zeroValue133
end Go.Proofs.YtnncbmbepdkfnaaDoor
