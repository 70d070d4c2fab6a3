/- Contracts of Go's library (slices), laid over this program. -/
import Derived.Shelf.Slices.Clone
import Derived.Shelf.Slices.Delete
import Derived.Shelf.Slices.SearchI
import Derived.Shelf.Spec.SlicesInsertGrow
import Derived.Test.YtpipgkglacmoeaaDoorErr
namespace Go.Proofs.YtpipgkglacmoeaaDoor
open Go.Shelf
def Tryd.lNm2_21_ren : Go.Shelf.Ren := ⟨fun | 21 => 39 | 27 => 43 | 28 => 44 | 35 => 46 | 39 => 47 | n => n, fun | 22 => 38 | 3 => 3 | 4 => 4 | 0 => 0 | n => n, fun  | n => n⟩
theorem Tryd.lNm2_21 : Lays2.n21 Tryd.prog Tryd.lNm2_21_ren where
  mixed := by kernel_rfl
  f21 := Tryd.func39.trans (congrArg some (by kernel_rfl))
  f27 := Tryd.func43.trans (congrArg some (by kernel_rfl))
  f28 := Tryd.func44.trans (congrArg some (by kernel_rfl))
  f35 := Tryd.func46.trans (congrArg some (by kernel_rfl))
  f39 := Tryd.func47.trans (congrArg some (by kernel_rfl))
  t0 := Tryd.underlying0
  a0 := Tryd.isAgg0
  z0 := Tryd.sizeOf0
  v0 := Tryd.zeroValue0
  t3 := Tryd.underlying3
  a3 := Tryd.isAgg3
  z3 := Tryd.sizeOf3
  v3 := Tryd.zeroValue3
  t4 := Tryd.underlying4
  a4 := Tryd.isAgg4
  z4 := Tryd.sizeOf4
  v4 := Tryd.zeroValue4
  t22 := Tryd.underlying38
  a22 := Tryd.isAgg38
  z22 := Tryd.sizeOf38
  v22 := Tryd.zeroValue38
  i3 := by kernel_rfl
def Tryd.lNm2_23_ren : Go.Shelf.Ren := ⟨fun | 23 => 32 | n => n, fun | 22 => 38 | 3 => 3 | 4 => 4 | 0 => 0 | n => n, fun  | n => n⟩
theorem Tryd.lNm2_23 : Lays2.n23 Tryd.prog Tryd.lNm2_23_ren where
  mixed := by kernel_rfl
  f23 := Tryd.func32.trans (congrArg some (by kernel_rfl))
  t0 := Tryd.underlying0
  a0 := Tryd.isAgg0
  z0 := Tryd.sizeOf0
  v0 := Tryd.zeroValue0
  t3 := Tryd.underlying3
  a3 := Tryd.isAgg3
  z3 := Tryd.sizeOf3
  v3 := Tryd.zeroValue3
  t4 := Tryd.underlying4
  a4 := Tryd.isAgg4
  z4 := Tryd.sizeOf4
  v4 := Tryd.zeroValue4
  t22 := Tryd.underlying38
  a22 := Tryd.isAgg38
  z22 := Tryd.sizeOf38
  v22 := Tryd.zeroValue38
  i3 := by kernel_rfl
def Tryd.lNm2_25_ren : Go.Shelf.Ren := ⟨fun | 25 => 31 | 31 => 40 | 32 => 41 | 37 => 45 | n => n, fun | 22 => 38 | 3 => 3 | 4 => 4 | 40 => 46 | 0 => 0 | n => n, fun  | n => n⟩
theorem Tryd.lNm2_25 : Lays2.n25 Tryd.prog Tryd.lNm2_25_ren where
  mixed := by kernel_rfl
  f25 := Tryd.func31.trans (congrArg some (by kernel_rfl))
  f31 := Tryd.func40.trans (congrArg some (by kernel_rfl))
  f32 := Tryd.func41.trans (congrArg some (by kernel_rfl))
  f37 := Tryd.func45.trans (congrArg some (by kernel_rfl))
  t0 := Tryd.underlying0
  a0 := Tryd.isAgg0
  z0 := Tryd.sizeOf0
  v0 := Tryd.zeroValue0
  t3 := Tryd.underlying3
  a3 := Tryd.isAgg3
  z3 := Tryd.sizeOf3
  v3 := Tryd.zeroValue3
  t4 := Tryd.underlying4
  a4 := Tryd.isAgg4
  z4 := Tryd.sizeOf4
  v4 := Tryd.zeroValue4
  t22 := Tryd.underlying38
  a22 := Tryd.isAgg38
  z22 := Tryd.sizeOf38
  v22 := Tryd.zeroValue38
  t40 := Tryd.underlying46
  a40 := Tryd.isAgg46
  z40 := Tryd.sizeOf46
  v40 := Tryd.zeroValue46
def Tryd.lNm2_15_ren : Go.Shelf.Ren := ⟨fun | 15 => 33 | n => n, fun | 22 => 38 | 3 => 3 | 4 => 4 | n => n, fun  | n => n⟩
theorem Tryd.lNm2_15 : Lays2.n15 Tryd.prog Tryd.lNm2_15_ren where
  mixed := by kernel_rfl
  f15 := Tryd.func33.trans (congrArg some (by kernel_rfl))
  t3 := Tryd.underlying3
  a3 := Tryd.isAgg3
  z3 := Tryd.sizeOf3
  v3 := Tryd.zeroValue3
  t4 := Tryd.underlying4
  a4 := Tryd.isAgg4
  z4 := Tryd.sizeOf4
  v4 := Tryd.zeroValue4
  t22 := Tryd.underlying38
  a22 := Tryd.isAgg38
  z22 := Tryd.sizeOf38
  v22 := Tryd.zeroValue38
  i3 := by kernel_rfl
end Go.Proofs.YtpipgkglacmoeaaDoor
