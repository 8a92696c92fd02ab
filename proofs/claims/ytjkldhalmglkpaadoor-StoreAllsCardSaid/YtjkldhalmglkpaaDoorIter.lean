/-
  The kit's contracts on sorted keys of a map, laid at this seat's dump in plain words (by lay-plain.mjs).
-/
import Derived.Shelf.SlIter.Nil
import Derived.Shelf.SortM.Plain
import Derived.Shelf.SortM.SortNone
import Derived.Ground.GgzProg
import Derived.Ground.SlgmProg
import Derived.Test.YtjkldhalmglkpaaDoorChecked
namespace Go.Proofs
open Go.Shelf
def Tryd.keys57_ren : Go.Shelf.Ren := ⟨fun | 7 => 57 | 10 => 79 | n => n, fun | 23 => 84 | 26 => 9 | 3 => 30 | 28 => 103 | 0 => 0 | 27 => 102 | 33 => 127 | 4 => 4 | n => n, fun | n => n⟩
theorem Tryd.keys57 : Go.Proofs.SlLaysZ.n7 Tryd.prog Tryd.keys57_ren := {
  mixed := by kernel_rfl
  f7 := ⟨Tryd.f57.name, by decide, Tryd.func57.trans (congrArg some (by kernel_rfl))⟩
  f10 := ⟨Tryd.f79.name, by decide, Tryd.func79.trans (congrArg some (by kernel_rfl))⟩
  t0 := Tryd.underlying0
  a0 := Tryd.isAgg0
  z0 := Tryd.sizeOf0
  v0 := Tryd.zeroValue0
  t4 := Tryd.underlying4
  a4 := Tryd.isAgg4
  z4 := Tryd.sizeOf4
  v4 := Tryd.zeroValue4
  t23 := Tryd.underlying84
  a23 := Tryd.isAgg84
  z23 := Tryd.sizeOf84
  v23 := Tryd.zeroValue84
  t26 := Tryd.underlying9
  a26 := Tryd.isAgg9
  z26 := Tryd.sizeOf9
  v26 := Tryd.zeroValue9
  t27 := Tryd.underlying102
  a27 := Tryd.isAgg102
  z27 := Tryd.sizeOf102
  v27 := Tryd.zeroValue102
  t28 := Tryd.underlying103
  a28 := Tryd.isAgg103
  z28 := Tryd.sizeOf103
  v28 := Tryd.zeroValue103
  t33 := Tryd.underlying127
  a33 := Tryd.isAgg127
  z33 := Tryd.sizeOf127
  v33 := Tryd.zeroValue127 }
def Tryd.sorted56_ren : Go.Shelf.Ren := ⟨fun | 6 => 56 | 8 => 77 | 9 => 78 | 11 => 93 | 13 => 83 | 12 => 94 | 23 => 106 | 24 => 107 | 14 => 120 | 15 => 121 | 16 => 122 | 17 => 123 | 18 => 124 | 19 => 125 | 20 => 87 | 21 => 126 | 22 => 127 | 25 => 141 | 26 => 132 | 27 => 133 | 28 => 142 | 29 => 143 | 30 => 115 | 31 => 147 | n => n, fun | 26 => 9 | 28 => 103 | 24 => 67 | 0 => 0 | 3 => 3 | 37 => 132 | 48 => 157 | 50 => 159 | 4 => 4 | 40 => 151 | 39 => 150 | 45 => 116 | 5 => 5 | 9 => 9 | 51 => 181 | 55 => 185 | 57 => 194 | 58 => 195 | 33 => 127 | n => n, fun | n => n⟩
theorem Tryd.sorted56 : Go.Proofs.SlLaysZ.n6 Tryd.prog Tryd.sorted56_ren := {
  mixed := by kernel_rfl
  f6 := ⟨Tryd.f56.name, by decide, Tryd.func56.trans (congrArg some (by kernel_rfl))⟩
  f8 := ⟨Tryd.f77.name, by decide, Tryd.func77.trans (congrArg some (by kernel_rfl))⟩
  f11 := ⟨Tryd.f93.name, by decide, Tryd.func93.trans (congrArg some (by kernel_rfl))⟩
  t0 := Tryd.underlying0
  a0 := Tryd.isAgg0
  z0 := Tryd.sizeOf0
  v0 := Tryd.zeroValue0
  t24 := Tryd.underlying67
  a24 := Tryd.isAgg67
  z24 := Tryd.sizeOf67
  v24 := Tryd.zeroValue67
  t26 := Tryd.underlying9
  a26 := Tryd.isAgg9
  z26 := Tryd.sizeOf9
  v26 := Tryd.zeroValue9
  t28 := Tryd.underlying103
  a28 := Tryd.isAgg103
  z28 := Tryd.sizeOf103
  v28 := Tryd.zeroValue103
  i26 := by kernel_rfl }
def Tryd.sort78_ren : Go.Shelf.Ren := ⟨fun | 6 => 78 | 8 => 83 | 9 => 94 | 19 => 106 | 20 => 107 | 21 => 120 | 22 => 121 | 23 => 122 | 24 => 123 | 25 => 124 | 26 => 125 | 27 => 87 | 28 => 126 | 29 => 127 | 36 => 141 | 31 => 132 | 32 => 133 | 37 => 142 | 38 => 143 | 39 => 115 | 41 => 147 | n => n, fun | 27 => 67 | 29 => 9 | 3 => 3 | 32 => 132 | 26 => 67 | 0 => 0 | 44 => 157 | 46 => 159 | 4 => 4 | 36 => 151 | 35 => 150 | 41 => 116 | 5 => 5 | 9 => 9 | 53 => 181 | 57 => 185 | 63 => 194 | 64 => 195 | n => n, fun | n => n⟩
theorem Tryd.sort78 : Go.Proofs.SlLaysM.n6 Tryd.prog Tryd.sort78_ren := {
  mixed := by kernel_rfl
  f6 := ⟨Tryd.f78.name, by decide, Tryd.func78.trans (congrArg some (by kernel_rfl))⟩
  f8 := Tryd.func83.trans (congrArg some (by kernel_rfl))
  f9 := ⟨Tryd.f94.name, by decide, Tryd.func94.trans (congrArg some (by kernel_rfl))⟩
  f19 := Tryd.func106.trans (congrArg some (by kernel_rfl))
  f20 := Tryd.func107.trans (congrArg some (by kernel_rfl))
  f21 := ⟨Tryd.f120.name, by decide, Tryd.func120.trans (congrArg some (by kernel_rfl))⟩
  f22 := ⟨Tryd.f121.name, by decide, Tryd.func121.trans (congrArg some (by kernel_rfl))⟩
  f23 := ⟨Tryd.f122.name, by decide, Tryd.func122.trans (congrArg some (by kernel_rfl))⟩
  f24 := ⟨Tryd.f123.name, by decide, Tryd.func123.trans (congrArg some (by kernel_rfl))⟩
  f25 := ⟨Tryd.f124.name, by decide, Tryd.func124.trans (congrArg some (by kernel_rfl))⟩
  f26 := ⟨Tryd.f125.name, by decide, Tryd.func125.trans (congrArg some (by kernel_rfl))⟩
  f27 := ⟨Tryd.f87.name, by decide, Tryd.func87.trans (congrArg some (by kernel_rfl))⟩
  f28 := ⟨Tryd.f126.name, by decide, Tryd.func126.trans (congrArg some (by kernel_rfl))⟩
  f29 := ⟨Tryd.f127.name, by decide, Tryd.func127.trans (congrArg some (by kernel_rfl))⟩
  f31 := Tryd.func132.trans (congrArg some (by kernel_rfl))
  f32 := Tryd.func133.trans (congrArg some (by kernel_rfl))
  f36 := ⟨Tryd.f141.name, by decide, Tryd.func141.trans (congrArg some (by kernel_rfl))⟩
  f37 := ⟨Tryd.f142.name, by decide, Tryd.func142.trans (congrArg some (by kernel_rfl))⟩
  f38 := ⟨Tryd.f143.name, by decide, Tryd.func143.trans (congrArg some (by kernel_rfl))⟩
  f39 := ⟨Tryd.f115.name, by decide, Tryd.func115.trans (congrArg some (by kernel_rfl))⟩
  f41 := ⟨Tryd.f147.name, by decide, Tryd.func147.trans (congrArg some (by kernel_rfl))⟩
  t0 := Tryd.underlying0
  a0 := Tryd.isAgg0
  z0 := Tryd.sizeOf0
  v0 := Tryd.zeroValue0
  t3 := Tryd.underlying3
  a3 := Tryd.isAgg3
  z3 := Tryd.sizeOf3
  v3 := Tryd.zeroValue3
  t4 := Tryd.underlying4
  a4 := Tryd.isAgg4
  z4 := Tryd.sizeOf4
  v4 := Tryd.zeroValue4
  t5 := Tryd.underlying5
  a5 := Tryd.isAgg5
  z5 := Tryd.sizeOf5
  v5 := Tryd.zeroValue5
  t9 := Tryd.underlying9
  a9 := Tryd.isAgg9
  z9 := Tryd.sizeOf9
  v9 := Tryd.zeroValue9
  t26 := Tryd.underlying67
  a26 := Tryd.isAgg67
  z26 := Tryd.sizeOf67
  v26 := Tryd.zeroValue67
  t27 := Tryd.underlying67
  a27 := Tryd.isAgg67
  z27 := Tryd.sizeOf67
  v27 := Tryd.zeroValue67
  t29 := Tryd.underlying9
  a29 := Tryd.isAgg9
  z29 := Tryd.sizeOf9
  v29 := Tryd.zeroValue9
  t32 := Tryd.underlying132
  a32 := Tryd.isAgg132
  z32 := Tryd.sizeOf132
  v32 := Tryd.zeroValue132
  t35 := Tryd.underlying150
  a35 := Tryd.isAgg150
  z35 := Tryd.sizeOf150
  v35 := Tryd.zeroValue150
  t36 := Tryd.underlying151
  a36 := Tryd.isAgg151
  z36 := Tryd.sizeOf151
  v36 := Tryd.zeroValue151
  t41 := Tryd.underlying116
  a41 := Tryd.isAgg116
  z41 := Tryd.sizeOf116
  v41 := Tryd.zeroValue116
  t44 := Tryd.underlying157
  a44 := Tryd.isAgg157
  z44 := Tryd.sizeOf157
  v44 := Tryd.zeroValue157
  t46 := Tryd.underlying159
  a46 := Tryd.isAgg159
  z46 := Tryd.sizeOf159
  v46 := Tryd.zeroValue159
  t53 := Tryd.underlying181
  a53 := Tryd.isAgg181
  z53 := Tryd.sizeOf181
  v53 := Tryd.zeroValue181
  t57 := Tryd.underlying185
  a57 := Tryd.isAgg185
  z57 := Tryd.sizeOf185
  v57 := Tryd.zeroValue185
  t63 := Tryd.underlying194
  a63 := Tryd.isAgg194
  z63 := Tryd.sizeOf194
  v63 := Tryd.zeroValue194
  t64 := Tryd.underlying195
  a64 := Tryd.isAgg195
  z64 := Tryd.sizeOf195
  v64 := Tryd.zeroValue195 }
open Go.RowKit Go.Maps Go.Sort
/-- slices.Sort's two contracts at this dump, at the fence that asks nothing. -/
theorem Tryd.sorts56 (m : Nat) : AnyZ.SortsIn Tryd.prog Tryd.sorted56_ren Fence.wide m :=
  ⟨fun blk off cap ss W hH hblk hsz => callsIn_wide.2 (AnyM.slices_Sort_string Tryd.sort78 blk off cap ss W hH hblk hsz),
   fun p cap W => callsIn_wide.2 (AnyM.slices_Sort_string_none Tryd.sort78 p cap W)⟩

/-- **maps.Keys[map[string][]byte,string,[]byte], at whatever map, the nil one too:** a function value over ONE NEW BLOCK, which holds the map. -/
theorem Tryd.maps_Keys_57 (mb : Option Nat) (W : World) : CallsIn Fence.wide 5 Tryd.prog 57 #[.map mb] W fun e w' => e = .returned (.func (.func 79) #[] #[.pointer (some ⟨W.heap.size, 0, none⟩)]) ∧ w' = W.alloc (.cells #[.map mb] 84) :=
  AnyZ.keys_in Tryd.keys57 Fence.wide 5 trivial rfl mb W

end Go.Proofs
