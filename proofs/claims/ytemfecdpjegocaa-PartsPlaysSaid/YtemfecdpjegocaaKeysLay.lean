/-
  The library contracts on maps.Keys and slices.Sorted at int keys, laid at this seat by the kit (lay-plain.mjs).
-/
import Derived.Shelf.SlIterI.Nil
import Derived.Ground.GgzProg
import Derived.Test.YtemfecdpjegocaaProg
namespace Go.Proofs
open Go.Shelf
def Try.keysK_ren : Go.Shelf.Ren := ⟨fun | 7 => 62 | 10 => 78 | n => n, fun | 23 => 120 | 26 => 3 | 3 => 124 | 28 => 129 | 0 => 0 | 27 => 128 | 33 => 82 | 4 => 4 | n => n, fun | n => n⟩
theorem Try.keysK : Go.Proofs.SlLaysZI.n7 Try.prog Try.keysK_ren := {
  mixed := by kernel_rfl
  f7 := ⟨Try.f62.name, by decide, Try.func62.trans (congrArg some (by kernel_rfl))⟩
  f10 := ⟨Try.f78.name, by decide, Try.func78.trans (congrArg some (by kernel_rfl))⟩
  t0 := Try.underlying0
  a0 := Try.isAgg0
  z0 := Try.sizeOf0
  v0 := Try.zeroValue0
  t4 := Try.underlying4
  a4 := Try.isAgg4
  z4 := Try.sizeOf4
  v4 := Try.zeroValue4
  t23 := Try.underlying120
  a23 := Try.isAgg120
  z23 := Try.sizeOf120
  v23 := Try.zeroValue120
  t26 := Try.underlying3
  a26 := Try.isAgg3
  z26 := Try.sizeOf3
  v26 := Try.zeroValue3
  t27 := Try.underlying128
  a27 := Try.isAgg128
  z27 := Try.sizeOf128
  v27 := Try.zeroValue128
  t28 := Try.underlying129
  a28 := Try.isAgg129
  z28 := Try.sizeOf129
  v28 := Try.zeroValue129
  t33 := Try.underlying82
  a33 := Try.isAgg82
  z33 := Try.sizeOf82
  v33 := Try.zeroValue82 }
def Try.sortedK_ren : Go.Shelf.Ren := ⟨fun | 6 => 61 | 8 => 76 | 9 => 77 | 11 => 90 | 13 => 92 | 12 => 91 | 23 => 107 | 24 => 108 | 14 => 98 | 15 => 99 | 16 => 100 | 17 => 101 | 18 => 102 | 19 => 103 | 20 => 104 | 21 => 105 | 22 => 106 | 25 => 112 | 26 => 113 | 27 => 114 | 28 => 115 | 29 => 116 | 30 => 117 | 31 => 119 | n => n, fun | 26 => 3 | 28 => 129 | 24 => 80 | 0 => 0 | 3 => 3 | 37 => 137 | 48 => 43 | 50 => 106 | 4 => 4 | 40 => 170 | 39 => 169 | 45 => 175 | 5 => 5 | 9 => 9 | 51 => 182 | 55 => 185 | 57 => 187 | 58 => 188 | 33 => 82 | n => n, fun | n => n⟩
theorem Try.sortedK : Go.Proofs.SlLaysZI.n6 Try.prog Try.sortedK_ren := {
  mixed := by kernel_rfl
  f6 := ⟨Try.f61.name, by decide, Try.func61.trans (congrArg some (by kernel_rfl))⟩
  f8 := ⟨Try.f76.name, by decide, Try.func76.trans (congrArg some (by kernel_rfl))⟩
  f11 := ⟨Try.f90.name, by decide, Try.func90.trans (congrArg some (by kernel_rfl))⟩
  t0 := Try.underlying0
  a0 := Try.isAgg0
  z0 := Try.sizeOf0
  v0 := Try.zeroValue0
  t24 := Try.underlying80
  a24 := Try.isAgg80
  z24 := Try.sizeOf80
  v24 := Try.zeroValue80
  t26 := Try.underlying3
  a26 := Try.isAgg3
  z26 := Try.sizeOf3
  v26 := Try.zeroValue3
  t28 := Try.underlying129
  a28 := Try.isAgg129
  z28 := Try.sizeOf129
  v28 := Try.zeroValue129
  i26 := by kernel_rfl }
end Go.Proofs
