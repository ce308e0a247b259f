/-
  The library contracts on maps.Keys and slices.Sorted at string keys, laid at this seat by the kit (lay-plain.mjs, lay-iter.mjs).
-/
import Derived.Shelf.SlIter.Nil
import Derived.Shelf.SortM.Plain
import Derived.Shelf.SortM.SortNone
import Derived.Ground.GgzProg
import Derived.Ground.SlgmProg
import Derived.Test.YtemfecdpjegocaaDoorProg
namespace Go.Proofs
open Go.RowKit Go.Maps Go.Sort Go.Shelf
def Tryd.keys28_ren : Go.Shelf.Ren := ⟨fun | 7 => 28 | 10 => 33 | n => n, fun | 23 => 56 | 26 => 9 | 3 => 60 | 28 => 68 | 0 => 0 | 27 => 67 | 33 => 73 | 4 => 4 | n => n, fun | n => n⟩
theorem Tryd.keys28 : Go.Proofs.SlLaysZ.n7 Tryd.prog Tryd.keys28_ren := {
  mixed := by kernel_rfl
  f7 := ⟨Tryd.f28.name, by decide, Tryd.func28.trans (congrArg some (by kernel_rfl))⟩
  f10 := ⟨Tryd.f33.name, by decide, Tryd.func33.trans (congrArg some (by kernel_rfl))⟩
  t0 := Tryd.underlying0
  a0 := Tryd.isAgg0
  z0 := Tryd.sizeOf0
  v0 := Tryd.zeroValue0
  t4 := Tryd.underlying4
  a4 := Tryd.isAgg4
  z4 := Tryd.sizeOf4
  v4 := Tryd.zeroValue4
  t23 := Tryd.underlying56
  a23 := Tryd.isAgg56
  z23 := Tryd.sizeOf56
  v23 := Tryd.zeroValue56
  t26 := Tryd.underlying9
  a26 := Tryd.isAgg9
  z26 := Tryd.sizeOf9
  v26 := Tryd.zeroValue9
  t27 := Tryd.underlying67
  a27 := Tryd.isAgg67
  z27 := Tryd.sizeOf67
  v27 := Tryd.zeroValue67
  t28 := Tryd.underlying68
  a28 := Tryd.isAgg68
  z28 := Tryd.sizeOf68
  v28 := Tryd.zeroValue68
  t33 := Tryd.underlying73
  a33 := Tryd.isAgg73
  z33 := Tryd.sizeOf73
  v33 := Tryd.zeroValue73 }
def Tryd.sorted27_ren : Go.Shelf.Ren := ⟨fun | 6 => 27 | 8 => 31 | 9 => 32 | 11 => 34 | 13 => 36 | 12 => 35 | 23 => 46 | 24 => 47 | 14 => 37 | 15 => 38 | 16 => 39 | 17 => 40 | 18 => 41 | 19 => 42 | 20 => 43 | 21 => 44 | 22 => 45 | 25 => 48 | 26 => 49 | 27 => 50 | 28 => 51 | 29 => 52 | 30 => 53 | 31 => 54 | n => n, fun | 26 => 9 | 28 => 68 | 24 => 39 | 0 => 0 | 3 => 3 | 37 => 77 | 48 => 88 | 50 => 90 | 4 => 4 | 40 => 80 | 39 => 79 | 45 => 85 | 5 => 5 | 9 => 9 | 51 => 91 | 55 => 95 | 57 => 97 | 58 => 98 | 33 => 73 | n => n, fun | n => n⟩
theorem Tryd.sorted27 : Go.Proofs.SlLaysZ.n6 Tryd.prog Tryd.sorted27_ren := {
  mixed := by kernel_rfl
  f6 := ⟨Tryd.f27.name, by decide, Tryd.func27.trans (congrArg some (by kernel_rfl))⟩
  f8 := ⟨Tryd.f31.name, by decide, Tryd.func31.trans (congrArg some (by kernel_rfl))⟩
  f11 := ⟨Tryd.f34.name, by decide, Tryd.func34.trans (congrArg some (by kernel_rfl))⟩
  t0 := Tryd.underlying0
  a0 := Tryd.isAgg0
  z0 := Tryd.sizeOf0
  v0 := Tryd.zeroValue0
  t24 := Tryd.underlying39
  a24 := Tryd.isAgg39
  z24 := Tryd.sizeOf39
  v24 := Tryd.zeroValue39
  t26 := Tryd.underlying9
  a26 := Tryd.isAgg9
  z26 := Tryd.sizeOf9
  v26 := Tryd.zeroValue9
  t28 := Tryd.underlying68
  a28 := Tryd.isAgg68
  z28 := Tryd.sizeOf68
  v28 := Tryd.zeroValue68
  i26 := by kernel_rfl }
def Tryd.sort32_ren : Go.Shelf.Ren := ⟨fun | 6 => 32 | 8 => 36 | 9 => 35 | 19 => 46 | 20 => 47 | 21 => 37 | 22 => 38 | 23 => 39 | 24 => 40 | 25 => 41 | 26 => 42 | 27 => 43 | 28 => 44 | 29 => 45 | 36 => 48 | 31 => 49 | 32 => 50 | 37 => 51 | 38 => 52 | 39 => 53 | 41 => 54 | n => n, fun | 27 => 39 | 29 => 9 | 3 => 3 | 32 => 77 | 26 => 39 | 0 => 0 | 44 => 88 | 46 => 90 | 4 => 4 | 36 => 80 | 35 => 79 | 41 => 85 | 5 => 5 | 9 => 9 | 53 => 91 | 57 => 95 | 63 => 97 | 64 => 98 | n => n, fun | n => n⟩
theorem Tryd.sort32 : Go.Proofs.SlLaysM.n6 Tryd.prog Tryd.sort32_ren := {
  mixed := by kernel_rfl
  f6 := ⟨Tryd.f32.name, by decide, Tryd.func32.trans (congrArg some (by kernel_rfl))⟩
  f8 := Tryd.func36.trans (congrArg some (by kernel_rfl))
  f9 := ⟨Tryd.f35.name, by decide, Tryd.func35.trans (congrArg some (by kernel_rfl))⟩
  f19 := Tryd.func46.trans (congrArg some (by kernel_rfl))
  f20 := Tryd.func47.trans (congrArg some (by kernel_rfl))
  f21 := ⟨Tryd.f37.name, by decide, Tryd.func37.trans (congrArg some (by kernel_rfl))⟩
  f22 := ⟨Tryd.f38.name, by decide, Tryd.func38.trans (congrArg some (by kernel_rfl))⟩
  f23 := ⟨Tryd.f39.name, by decide, Tryd.func39.trans (congrArg some (by kernel_rfl))⟩
  f24 := ⟨Tryd.f40.name, by decide, Tryd.func40.trans (congrArg some (by kernel_rfl))⟩
  f25 := ⟨Tryd.f41.name, by decide, Tryd.func41.trans (congrArg some (by kernel_rfl))⟩
  f26 := ⟨Tryd.f42.name, by decide, Tryd.func42.trans (congrArg some (by kernel_rfl))⟩
  f27 := ⟨Tryd.f43.name, by decide, Tryd.func43.trans (congrArg some (by kernel_rfl))⟩
  f28 := ⟨Tryd.f44.name, by decide, Tryd.func44.trans (congrArg some (by kernel_rfl))⟩
  f29 := ⟨Tryd.f45.name, by decide, Tryd.func45.trans (congrArg some (by kernel_rfl))⟩
  f31 := Tryd.func49.trans (congrArg some (by kernel_rfl))
  f32 := Tryd.func50.trans (congrArg some (by kernel_rfl))
  f36 := ⟨Tryd.f48.name, by decide, Tryd.func48.trans (congrArg some (by kernel_rfl))⟩
  f37 := ⟨Tryd.f51.name, by decide, Tryd.func51.trans (congrArg some (by kernel_rfl))⟩
  f38 := ⟨Tryd.f52.name, by decide, Tryd.func52.trans (congrArg some (by kernel_rfl))⟩
  f39 := ⟨Tryd.f53.name, by decide, Tryd.func53.trans (congrArg some (by kernel_rfl))⟩
  f41 := ⟨Tryd.f54.name, by decide, Tryd.func54.trans (congrArg some (by kernel_rfl))⟩
  t0 := Tryd.underlying0
  a0 := Tryd.isAgg0
  z0 := Tryd.sizeOf0
  v0 := Tryd.zeroValue0
  t3 := Tryd.underlying3
  a3 := Tryd.isAgg3
  z3 := Tryd.sizeOf3
  v3 := Tryd.zeroValue3
  t4 := Tryd.underlying4
  a4 := Tryd.isAgg4
  z4 := Tryd.sizeOf4
  v4 := Tryd.zeroValue4
  t5 := Tryd.underlying5
  a5 := Tryd.isAgg5
  z5 := Tryd.sizeOf5
  v5 := Tryd.zeroValue5
  t9 := Tryd.underlying9
  a9 := Tryd.isAgg9
  z9 := Tryd.sizeOf9
  v9 := Tryd.zeroValue9
  t26 := Tryd.underlying39
  a26 := Tryd.isAgg39
  z26 := Tryd.sizeOf39
  v26 := Tryd.zeroValue39
  t27 := Tryd.underlying39
  a27 := Tryd.isAgg39
  z27 := Tryd.sizeOf39
  v27 := Tryd.zeroValue39
  t29 := Tryd.underlying9
  a29 := Tryd.isAgg9
  z29 := Tryd.sizeOf9
  v29 := Tryd.zeroValue9
  t32 := Tryd.underlying77
  a32 := Tryd.isAgg77
  z32 := Tryd.sizeOf77
  v32 := Tryd.zeroValue77
  t35 := Tryd.underlying79
  a35 := Tryd.isAgg79
  z35 := Tryd.sizeOf79
  v35 := Tryd.zeroValue79
  t36 := Tryd.underlying80
  a36 := Tryd.isAgg80
  z36 := Tryd.sizeOf80
  v36 := Tryd.zeroValue80
  t41 := Tryd.underlying85
  a41 := Tryd.isAgg85
  z41 := Tryd.sizeOf85
  v41 := Tryd.zeroValue85
  t44 := Tryd.underlying88
  a44 := Tryd.isAgg88
  z44 := Tryd.sizeOf88
  v44 := Tryd.zeroValue88
  t46 := Tryd.underlying90
  a46 := Tryd.isAgg90
  z46 := Tryd.sizeOf90
  v46 := Tryd.zeroValue90
  t53 := Tryd.underlying91
  a53 := Tryd.isAgg91
  z53 := Tryd.sizeOf91
  v53 := Tryd.zeroValue91
  t57 := Tryd.underlying95
  a57 := Tryd.isAgg95
  z57 := Tryd.sizeOf95
  v57 := Tryd.zeroValue95
  t63 := Tryd.underlying97
  a63 := Tryd.isAgg97
  z63 := Tryd.sizeOf97
  v63 := Tryd.zeroValue97
  t64 := Tryd.underlying98
  a64 := Tryd.isAgg98
  z64 := Tryd.sizeOf98
  v64 := Tryd.zeroValue98 }
theorem Tryd.sorts27 (m : Nat) : AnyZ.SortsIn Tryd.prog Tryd.sorted27_ren Fence.wide m :=
  ⟨fun blk off cap ss W hH hblk hsz => callsIn_wide.2 (AnyM.slices_Sort_string Tryd.sort32 blk off cap ss W hH hblk hsz),
   fun p cap W => callsIn_wide.2 (AnyM.slices_Sort_string_none Tryd.sort32 p cap W)⟩

theorem Tryd.maps_Keys_28 (mb : Option Nat) (W : World) : CallsIn Fence.wide 5 Tryd.prog 28 #[.map mb] W fun e w' => e = .returned (.func (.func 33) #[] #[.pointer (some ⟨W.heap.size, 0, none⟩)]) ∧ w' = W.alloc (.cells #[.map mb] 56) :=
  AnyZ.keys_in Tryd.keys28 Fence.wide 5 trivial rfl mb W

set_option maxHeartbeats 1000000 in
theorem Tryd.slices_Sorted_keys_27_28 {H : Type} (b nn : Nat) (D0 : DataW H) (R : Value → Option (DataW H × List MemPlace)) (w : World) (hown : w.ownsMap Tryd.prog 9 R b nn D0) (hmax : Maps.size D0 ≤ maxLen) (hbytes : Maps.size D0 * 16 ≤ 140737488355328) :
    CallsIn Fence.wide 5 Tryd.prog 27 #[.func (.func 33) #[] #[.pointer (some ⟨w.heap.size, 0, none⟩)]] (w.alloc (.cells #[.map (some b)] 56)) fun e w' => ∃ (v : Value) (ss : List (List UInt8)), e = .returned v ∧ ss.Perm (strKeys D0) ∧
      w'.ownsRow (w.alloc (.cells #[.map (some b)] 56)).heap.size 9 1 v ss.length ((ss.mergeSort (fun x y => decide (x ≤ y))).map encStr) ∧ (v = .slice none 0 0 ↔ ss = []) ∧ Below (w.alloc (.cells #[.map (some b)] 56)).heap.size (w.alloc (.cells #[.map (some b)] 56)) w' := by
  have hbl := hown.lt
  have hseq : SeqGives Fence.wide 2 Tryd.prog 33 #[.pointer (some ⟨w.heap.size, 0, none⟩)] encStr (fun ss => ss.Perm (strKeys D0)) (Maps.size D0) (w.alloc (.cells #[.map (some b)] 56)) :=
    AnyZ.keys_gives (ρ := Tryd.keys28_ren) { Tryd.keys28 with } Fence.wide _ trivial rfl (by omega) w.heap.size b nn D0 _ (by simp) (by simp) (by
      obtain ⟨es, clock, hb, Ft, hs, hD⟩ := hown
      exact ⟨es, clock, (Below.heap_alloc _ _ b hbl).trans hb, Ft, hs, hD⟩)
  exact AnyZ.sorted_in Tryd.sorted27 Fence.wide 5 trivial trivial trivial trivial rfl (by omega) (Tryd.sorts27 _) (enters_of Tryd.func32 (by kernel_rfl) rfl) 33 #[.pointer (some ⟨w.heap.size, 0, none⟩)] trivial (enters_of Tryd.func33 (by kernel_rfl) rfl) _ _ hmax hbytes _ hseq

end Go.Proofs
