/- Where the library's functions lie at this seat's dump. -/
import Derived.Test.YtbbihimlahngfaaIter
import Derived.Test.YtbbihimlahngfaaChecked
namespace Go.Proofs.Ytbbihimlahngfaa
open Go Go.Shelf Go.Proofs

def Try.itRen : Ren where
  f := fun x => match x with | 6 => 29 | 7 => 30 | 8 => 31 | 9 => 32 | 10 => 33 | 11 => 34 | n => n
  t := fun x => match x with | 3 => 5 | 23 => 42 | 24 => 49 | 26 => 29 | 27 => 69 | 28 => 70 | 33 => 74 | n => n
  g := fun n => n

theorem Try.sortedL : SlLaysU.n6 Try.prog Try.itRen where
  mixed := by kernel_rfl
  f6 := ⟨Try.f29.name, by kernel_rfl, Try.func29.trans (congrArg some (by kernel_rfl))⟩
  f8 := ⟨Try.f31.name, by kernel_rfl, Try.func31.trans (congrArg some (by kernel_rfl))⟩
  f11 := ⟨Try.f34.name, by kernel_rfl, Try.func34.trans (congrArg some (by kernel_rfl))⟩
  t0 := Try.underlying0
  a0 := Try.isAgg0
  z0 := Try.sizeOf0
  v0 := Try.zeroValue0
  t24 := Try.underlying49
  a24 := Try.isAgg49
  z24 := Try.sizeOf49
  v24 := Try.zeroValue49
  t26 := Try.underlying29
  a26 := Try.isAgg29
  z26 := Try.sizeOf29
  v26 := Try.zeroValue29
  t28 := Try.underlying70
  a28 := Try.isAgg70
  z28 := Try.sizeOf70
  v28 := Try.zeroValue70
  i26 := by kernel_rfl

theorem Try.keysL : SlLaysU.n7 Try.prog Try.itRen where
  mixed := by kernel_rfl
  f7 := ⟨Try.f30.name, by kernel_rfl, Try.func30.trans (congrArg some (by kernel_rfl))⟩
  f10 := ⟨Try.f33.name, by kernel_rfl, Try.func33.trans (congrArg some (by kernel_rfl))⟩
  t0 := Try.underlying0
  a0 := Try.isAgg0
  z0 := Try.sizeOf0
  v0 := Try.zeroValue0
  t4 := Try.underlying4
  a4 := Try.isAgg4
  z4 := Try.sizeOf4
  v4 := Try.zeroValue4
  t23 := Try.underlying42
  a23 := Try.isAgg42
  z23 := Try.sizeOf42
  v23 := Try.zeroValue42
  t26 := Try.underlying29
  a26 := Try.isAgg29
  z26 := Try.sizeOf29
  v26 := Try.zeroValue29
  t27 := Try.underlying69
  a27 := Try.isAgg69
  z27 := Try.sizeOf69
  v27 := Try.zeroValue69
  t28 := Try.underlying70
  a28 := Try.isAgg70
  z28 := Try.sizeOf70
  v28 := Try.zeroValue70
  t33 := Try.underlying74
  a33 := Try.isAgg74
  z33 := Try.sizeOf74
  v33 := Try.zeroValue74

end Go.Proofs.Ytbbihimlahngfaa
