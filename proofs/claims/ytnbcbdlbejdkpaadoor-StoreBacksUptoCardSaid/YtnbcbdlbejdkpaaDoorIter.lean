/-
  The kit's contracts on sorted keys of a map, laid at this seat's dump in plain words (by lay-plain.mjs).
-/
import Derived.Shelf.SlIter.Nil
import Derived.Shelf.SortM.Plain
import Derived.Shelf.SortM.SortNone
import Derived.Ground.GgzProg
import Derived.Ground.SlgmProg
import Derived.Test.YtnbcbdlbejdkpaaDoorChecked
namespace Go.Proofs
open Go.Shelf
def Tryd.keys108_ren : Go.Shelf.Ren := ⟨fun | 7 => 108 | 10 => 120 | n => n, fun | 23 => 124 | 26 => 9 | 3 => 91 | 28 => 173 | 0 => 0 | 27 => 172 | 33 => 192 | 4 => 4 | n => n, fun | n => n⟩
theorem Tryd.keys108 : Go.Proofs.SlLaysZ.n7 Tryd.prog Tryd.keys108_ren := {
  mixed := by kernel_rfl
  f7 := ⟨Tryd.f108.name, by decide, Tryd.func108.trans (congrArg some (by kernel_rfl))⟩
  f10 := ⟨Tryd.f120.name, by decide, Tryd.func120.trans (congrArg some (by kernel_rfl))⟩
  t0 := Tryd.underlying0
  a0 := Tryd.isAgg0
  z0 := Tryd.sizeOf0
  v0 := Tryd.zeroValue0
  t4 := Tryd.underlying4
  a4 := Tryd.isAgg4
  z4 := Tryd.sizeOf4
  v4 := Tryd.zeroValue4
  t23 := Tryd.underlying124
  a23 := Tryd.isAgg124
  z23 := Tryd.sizeOf124
  v23 := Tryd.zeroValue124
  t26 := Tryd.underlying9
  a26 := Tryd.isAgg9
  z26 := Tryd.sizeOf9
  v26 := Tryd.zeroValue9
  t27 := Tryd.underlying172
  a27 := Tryd.isAgg172
  z27 := Tryd.sizeOf172
  v27 := Tryd.zeroValue172
  t28 := Tryd.underlying173
  a28 := Tryd.isAgg173
  z28 := Tryd.sizeOf173
  v28 := Tryd.zeroValue173
  t33 := Tryd.underlying192
  a33 := Tryd.isAgg192
  z33 := Tryd.sizeOf192
  v33 := Tryd.zeroValue192 }
def Tryd.sorted107_ren : Go.Shelf.Ren := ⟨fun | 6 => 107 | 8 => 118 | 9 => 119 | 11 => 129 | 13 => 131 | 12 => 130 | 23 => 149 | 24 => 150 | 14 => 141 | 15 => 142 | 16 => 143 | 17 => 144 | 18 => 145 | 19 => 146 | 20 => 122 | 21 => 147 | 22 => 148 | 25 => 156 | 26 => 157 | 27 => 158 | 28 => 159 | 29 => 160 | 30 => 135 | 31 => 163 | n => n, fun | 26 => 9 | 28 => 173 | 24 => 95 | 0 => 0 | 3 => 3 | 37 => 161 | 48 => 219 | 50 => 23 | 4 => 4 | 40 => 213 | 39 => 212 | 45 => 181 | 5 => 5 | 9 => 9 | 51 => 230 | 55 => 234 | 57 => 239 | 58 => 240 | 33 => 192 | n => n, fun | n => n⟩
theorem Tryd.sorted107 : Go.Proofs.SlLaysZ.n6 Tryd.prog Tryd.sorted107_ren := {
  mixed := by kernel_rfl
  f6 := ⟨Tryd.f107.name, by decide, Tryd.func107.trans (congrArg some (by kernel_rfl))⟩
  f8 := ⟨Tryd.f118.name, by decide, Tryd.func118.trans (congrArg some (by kernel_rfl))⟩
  f11 := ⟨Tryd.f129.name, by decide, Tryd.func129.trans (congrArg some (by kernel_rfl))⟩
  t0 := Tryd.underlying0
  a0 := Tryd.isAgg0
  z0 := Tryd.sizeOf0
  v0 := Tryd.zeroValue0
  t24 := Tryd.underlying95
  a24 := Tryd.isAgg95
  z24 := Tryd.sizeOf95
  v24 := Tryd.zeroValue95
  t26 := Tryd.underlying9
  a26 := Tryd.isAgg9
  z26 := Tryd.sizeOf9
  v26 := Tryd.zeroValue9
  t28 := Tryd.underlying173
  a28 := Tryd.isAgg173
  z28 := Tryd.sizeOf173
  v28 := Tryd.zeroValue173
  i26 := by kernel_rfl }
def Tryd.sort119_ren : Go.Shelf.Ren := ⟨fun | 6 => 119 | 8 => 131 | 9 => 130 | 19 => 149 | 20 => 150 | 21 => 141 | 22 => 142 | 23 => 143 | 24 => 144 | 25 => 145 | 26 => 146 | 27 => 122 | 28 => 147 | 29 => 148 | 36 => 156 | 31 => 157 | 32 => 158 | 37 => 159 | 38 => 160 | 39 => 135 | 41 => 163 | n => n, fun | 27 => 95 | 29 => 9 | 3 => 3 | 32 => 161 | 26 => 95 | 0 => 0 | 44 => 219 | 46 => 23 | 4 => 4 | 36 => 213 | 35 => 212 | 41 => 181 | 5 => 5 | 9 => 9 | 53 => 230 | 57 => 234 | 63 => 239 | 64 => 240 | n => n, fun | n => n⟩
theorem Tryd.sort119 : Go.Proofs.SlLaysM.n6 Tryd.prog Tryd.sort119_ren := {
  mixed := by kernel_rfl
  f6 := ⟨Tryd.f119.name, by decide, Tryd.func119.trans (congrArg some (by kernel_rfl))⟩
  f8 := Tryd.func131.trans (congrArg some (by kernel_rfl))
  f9 := ⟨Tryd.f130.name, by decide, Tryd.func130.trans (congrArg some (by kernel_rfl))⟩
  f19 := Tryd.func149.trans (congrArg some (by kernel_rfl))
  f20 := Tryd.func150.trans (congrArg some (by kernel_rfl))
  f21 := ⟨Tryd.f141.name, by decide, Tryd.func141.trans (congrArg some (by kernel_rfl))⟩
  f22 := ⟨Tryd.f142.name, by decide, Tryd.func142.trans (congrArg some (by kernel_rfl))⟩
  f23 := ⟨Tryd.f143.name, by decide, Tryd.func143.trans (congrArg some (by kernel_rfl))⟩
  f24 := ⟨Tryd.f144.name, by decide, Tryd.func144.trans (congrArg some (by kernel_rfl))⟩
  f25 := ⟨Tryd.f145.name, by decide, Tryd.func145.trans (congrArg some (by kernel_rfl))⟩
  f26 := ⟨Tryd.f146.name, by decide, Tryd.func146.trans (congrArg some (by kernel_rfl))⟩
  f27 := ⟨Tryd.f122.name, by decide, Tryd.func122.trans (congrArg some (by kernel_rfl))⟩
  f28 := ⟨Tryd.f147.name, by decide, Tryd.func147.trans (congrArg some (by kernel_rfl))⟩
  f29 := ⟨Tryd.f148.name, by decide, Tryd.func148.trans (congrArg some (by kernel_rfl))⟩
  f31 := Tryd.func157.trans (congrArg some (by kernel_rfl))
  f32 := Tryd.func158.trans (congrArg some (by kernel_rfl))
  f36 := ⟨Tryd.f156.name, by decide, Tryd.func156.trans (congrArg some (by kernel_rfl))⟩
  f37 := ⟨Tryd.f159.name, by decide, Tryd.func159.trans (congrArg some (by kernel_rfl))⟩
  f38 := ⟨Tryd.f160.name, by decide, Tryd.func160.trans (congrArg some (by kernel_rfl))⟩
  f39 := ⟨Tryd.f135.name, by decide, Tryd.func135.trans (congrArg some (by kernel_rfl))⟩
  f41 := ⟨Tryd.f163.name, by decide, Tryd.func163.trans (congrArg some (by kernel_rfl))⟩
  t0 := Tryd.underlying0
  a0 := Tryd.isAgg0
  z0 := Tryd.sizeOf0
  v0 := Tryd.zeroValue0
  t3 := Tryd.underlying3
  a3 := Tryd.isAgg3
  z3 := Tryd.sizeOf3
  v3 := Tryd.zeroValue3
  t4 := Tryd.underlying4
  a4 := Tryd.isAgg4
  z4 := Tryd.sizeOf4
  v4 := Tryd.zeroValue4
  t5 := Tryd.underlying5
  a5 := Tryd.isAgg5
  z5 := Tryd.sizeOf5
  v5 := Tryd.zeroValue5
  t9 := Tryd.underlying9
  a9 := Tryd.isAgg9
  z9 := Tryd.sizeOf9
  v9 := Tryd.zeroValue9
  t26 := Tryd.underlying95
  a26 := Tryd.isAgg95
  z26 := Tryd.sizeOf95
  v26 := Tryd.zeroValue95
  t27 := Tryd.underlying95
  a27 := Tryd.isAgg95
  z27 := Tryd.sizeOf95
  v27 := Tryd.zeroValue95
  t29 := Tryd.underlying9
  a29 := Tryd.isAgg9
  z29 := Tryd.sizeOf9
  v29 := Tryd.zeroValue9
  t32 := Tryd.underlying161
  a32 := Tryd.isAgg161
  z32 := Tryd.sizeOf161
  v32 := Tryd.zeroValue161
  t35 := Tryd.underlying212
  a35 := Tryd.isAgg212
  z35 := Tryd.sizeOf212
  v35 := Tryd.zeroValue212
  t36 := Tryd.underlying213
  a36 := Tryd.isAgg213
  z36 := Tryd.sizeOf213
  v36 := Tryd.zeroValue213
  t41 := Tryd.underlying181
  a41 := Tryd.isAgg181
  z41 := Tryd.sizeOf181
  v41 := Tryd.zeroValue181
  t44 := Tryd.underlying219
  a44 := Tryd.isAgg219
  z44 := Tryd.sizeOf219
  v44 := Tryd.zeroValue219
  t46 := Tryd.underlying23
  a46 := Tryd.isAgg23
  z46 := Tryd.sizeOf23
  v46 := Tryd.zeroValue23
  t53 := Tryd.underlying230
  a53 := Tryd.isAgg230
  z53 := Tryd.sizeOf230
  v53 := Tryd.zeroValue230
  t57 := Tryd.underlying234
  a57 := Tryd.isAgg234
  z57 := Tryd.sizeOf234
  v57 := Tryd.zeroValue234
  t63 := Tryd.underlying239
  a63 := Tryd.isAgg239
  z63 := Tryd.sizeOf239
  v63 := Tryd.zeroValue239
  t64 := Tryd.underlying240
  a64 := Tryd.isAgg240
  z64 := Tryd.sizeOf240
  v64 := Tryd.zeroValue240 }
open Go.RowKit Go.Maps Go.Sort
/-- slices.Sort's two contracts at this dump, at the fence that asks nothing. -/
theorem Tryd.sorts107 (m : Nat) : AnyZ.SortsIn Tryd.prog Tryd.sorted107_ren Fence.wide m :=
  ⟨fun blk off cap ss W hH hblk hsz => callsIn_wide.2 (AnyM.slices_Sort_string Tryd.sort119 blk off cap ss W hH hblk hsz),
   fun p cap W => callsIn_wide.2 (AnyM.slices_Sort_string_none Tryd.sort119 p cap W)⟩

/-- **maps.Keys[map[string][]byte,string,[]byte], at whatever map, the nil one too:** a function value over ONE NEW BLOCK, which holds the map. -/
theorem Tryd.maps_Keys_108 (mb : Option Nat) (W : World) : CallsIn Fence.wide 5 Tryd.prog 108 #[.map mb] W fun e w' => e = .returned (.func (.func 120) #[] #[.pointer (some ⟨W.heap.size, 0, none⟩)]) ∧ w' = W.alloc (.cells #[.map mb] 124) :=
  AnyZ.keys_in Tryd.keys108 Fence.wide 5 trivial rfl mb W

end Go.Proofs
