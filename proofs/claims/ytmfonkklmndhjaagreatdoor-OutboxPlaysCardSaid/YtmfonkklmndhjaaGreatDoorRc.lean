/-
 The resolved texts of this seat's functions, printed by this session's own program, and that they are what the translation has.
-/
import Derived.Test.YtmfonkklmndhjaaGreatDoorChecked
import Derived.Test.YtmfonkklmndhjaaGreatDoorZCd
import Derived.KernelRfl
namespace Go.Proofs.YtmfonkklmndhjaaGreatDoor
open Go Go.Sl
abbrev oo (d : Nat) (r : RO) : ROp := ⟨some d, r, none⟩
set_option maxRecDepth 100000
/-- causeway/causewaylaw11.OutboxPlays -/
def rc3 : RC :=
 .seq (.ops 0 false [
 oo 6 (.val (.c (.bool false)))] [])
 (.seq (.seq (.ops 1 false [
 oo 12 (.call 4 []),
 oo 13 (.not (.t 12))] [])
 (.cond (.t 13) (.seq (.ops 2 false [
 oo 6 (.val (.c (.bool false)))] [])
 (.ret))
 (.skip)))
 (.seq (.seq (.ops 3 false [
 oo 14 (.val (.t 0)),
 oo 15 (.len (.t 14)),
 oo 16 (.bin .gtr (.t 15) (.c (.int .i64 4096)))] [])
 (.cond (.t 16) (.ops 4 false [
 oo 17 (.val (.t 0)),
 oo 18 (.slice 1 (.t 17) none (some (.c (.int .i64 4096))) none),
 oo 0 (.val (.t 18))] [])
 (.skip)))
 (.seq (.ops 5 false [
 oo 19 (.val (.t 0)),
 oo 20 (.call 5 [.t 19]),
 oo 21 (.build [(.string ⟨#[]⟩),(.slice none 0 0)] [(0,1,(.c (.string ⟨#[111]⟩))),(1,1,(.t 20))]),
 oo 22 (.buildS 27 1 [(.string ⟨#[]⟩),(.slice none 0 0)] [(0,2,(.t 21))]),
 oo 7 (.val (.t 22))] [])
 (.seq (.seq (.ops 6 false [
 oo 23 (.val (.t 1))] [])
 (.cond (.t 23) (.ops 7 false [
 oo 24 (.val (.t 0)),
 oo 25 (.call 5 [.t 24]),
 oo 26 (.build [(.string ⟨#[]⟩),(.slice none 0 0)] [(0,1,(.c (.string ⟨#[120]⟩))),(1,1,(.t 25))]),
 oo 27 (.buildS 27 1 [(.string ⟨#[]⟩),(.slice none 0 0)] [(0,2,(.t 26))]),
 oo 7 (.val (.t 27))] [])
 (.skip)))
 (.seq (.ops 8 false [
 oo 29 (.val (.t 7)),
 oo 30 (.build [(.slice none 0 0)] [(0,1,(.t 29))]),
 oo 31 (.box 35 (.t 30)),
 oo 32 (.iface 33 (.t 31)),
 oo 33 (.call 6 [.t 32]),
 oo 28 (.val (.t 33)),
 oo 34 (.extract 0 (.t 28)),
 oo 35 (.extract 1 (.t 28)),
 oo 8 (.val (.t 34)),
 oo 9 (.val (.t 35))] [])
 (.seq (.seq (.ops 9 false [
 oo 36 (.val (.t 9)),
 oo 37 (.bin .neq (.t 36) (.c (.int .i64 0))),
 oo 38 (.val (.t 37)),
 ⟨some 39,.val (.t 8),some (38,false)⟩,
 ⟨some 40,.eqp .ptr false (.t 39) (.c (.pointer none)),some (38,false)⟩,
 oo 41 (.pick (.t 38) (.c (.bool true)) (.t 40))] [])
 (.cond (.t 41) (.seq (.ops 10 false [
 oo 6 (.val (.c (.bool false)))] [])
 (.ret))
 (.skip)))
 (.seq (.ops 11 false [
 oo 42 (.val (.t 7)),
 oo 43 (.call 7 [.t 42]),
 oo 10 (.val (.t 43))] [])
 (.seq (.seq (.ops 12 false [
 oo 11 (.val (.c (.int .i64 0)))] [])
 (.block 0 (.loop (.seq (.seq (.ops 13 false [
 oo 44 (.val (.t 11)),
 oo 45 (.val (.t 2)),
 oo 46 (.len (.t 45)),
 oo 47 (.bin .lss (.t 44) (.t 46))] [])
 (.cond (.t 47) (.skip)
 (.exit 0)))
 (.seq (.block 1 (.seq (.ops 15 false [
 oo 50 (.val (.t 8)),
 oo 51 (.val (.t 10)),
 oo 52 (.val (.t 2)),
 oo 53 (.val (.t 11)),
 oo 54 (.indexS 30 (.t 52) (.t 53)),
 oo 55 (.loadN 30 (.t 54)),
 oo 56 (.call 8 [.t 50,.t 51,.t 55]),
 oo 57 (.not (.t 56))] [])
 (.cond (.t 57) (.seq (.ops 16 false [
 oo 6 (.val (.c (.bool false)))] [])
 (.ret))
 (.skip))))
 (.ops 14 false [
 oo 48 (.val (.t 11)),
 oo 49 (.bin .add (.t 48) (.c (.int .i64 1))),
 oo 11 (.val (.t 49))] []))))))
 (.seq (.ops 17 false [
 oo 58 (.val (.t 8)),
 oo 59 (.val (.t 10)),
 oo 60 (.call 9 [.t 58,.t 59]),
 oo 6 (.val (.t 60))] [])
 (.ret))))))))))
def rs3 : List RR := [.tmp 6]
theorem fun3 : FunR Tryz.prog 3 rc3 rs3 61 := ⟨Tryz.f3, Tryz.func3, by kernel_rfl, by kernel_rfl, by kernel_rfl⟩
/-- causeway/causewaylaw11.known -/
def rc4 : RC :=
 .seq (.ops 0 false [
 oo 0 (.val (.c (.bool false)))] [])
 (.seq (.ops 1 false [
 oo 8 (.call 10 []),
 oo 1 (.val (.t 8))] [])
 (.seq (.seq (.ops 2 false [
 oo 9 (.val (.t 1)),
 oo 10 (.eqp .ptr false (.t 9) (.c (.pointer none)))] [])
 (.cond (.t 10) (.seq (.ops 3 false [
 oo 0 (.val (.c (.bool false)))] [])
 (.ret))
 (.skip)))
 (.seq (.ops 4 false [
 oo 11 (.build [(.int .u64 0),(.int .u64 0),(.int .u64 0),(.int .u64 0)] [(0,1,(.c (.int .u64 256)))]),
 oo 12 (.build [(.int .i64 0),(.int .i64 0),(.int .i64 0),(.int .u8 0),(.int .u8 0),(.int .u8 0),(.int .u8 0),(.int .u8 0),(.int .u8 0),(.int .u8 0),(.int .u8 0),(.int .u8 0),(.int .u8 0),(.int .u8 0),(.int .u8 0),(.int .u8 0),(.int .u8 0),(.int .u8 0),(.int .u8 0),(.int .u8 0),(.int .u8 0),(.int .u8 0),(.int .u8 0),(.int .u64 0),(.int .u64 0),(.int .u64 0),(.int .u64 0)] [(1,1,(.c (.int .i64 5))),(2,1,(.c (.int .i64 3))),(23,4,(.t 11))]),
 oo 2 (.alloc 45 [(.int .i64 0),(.int .i64 0),(.int .i64 0),(.int .u8 0),(.int .u8 0),(.int .u8 0),(.int .u8 0),(.int .u8 0),(.int .u8 0),(.int .u8 0),(.int .u8 0),(.int .u8 0),(.int .u8 0),(.int .u8 0),(.int .u8 0),(.int .u8 0),(.int .u8 0),(.int .u8 0),(.int .u8 0),(.int .u8 0),(.int .u8 0),(.int .u8 0),(.int .u8 0),(.int .u64 0),(.int .u64 0),(.int .u64 0),(.int .u64 0)]),
 ⟨none,.store 27 (.t 2) (.t 12),none⟩] [])
 (.seq (.ops 5 false [
 oo 14 (.loadN 27 (.t 2)),
 oo 15 (.call 11 [.t 14]),
 oo 13 (.val (.t 15)),
 oo 16 (.extract 0 (.t 13)),
 oo 17 (.extract 1 (.t 13)),
 oo 3 (.val (.t 16)),
 oo 4 (.val (.t 17))] [])
 (.seq (.ops 6 false [
 oo 18 (.val (.t 1)),
 oo 19 (.loadN 27 (.t 2)),
 oo 20 (.call 12 [.t 18,.t 19]),
 oo 5 (.val (.t 20))] [])
 (.seq (.ops 7 false [
 oo 22 (.val (.t 1)),
 oo 23 (.call 13 [(.t 22),(.c (.int .i64 0))]),
 oo 21 (.val (.t 23)),
 oo 24 (.extract 0 (.t 21)),
 oo 25 (.extract 1 (.t 21)),
 oo 6 (.alloc 45 [(.int .i64 0),(.int .i64 0),(.int .i64 0),(.int .u8 0),(.int .u8 0),(.int .u8 0),(.int .u8 0),(.int .u8 0),(.int .u8 0),(.int .u8 0),(.int .u8 0),(.int .u8 0),(.int .u8 0),(.int .u8 0),(.int .u8 0),(.int .u8 0),(.int .u8 0),(.int .u8 0),(.int .u8 0),(.int .u8 0),(.int .u8 0),(.int .u8 0),(.int .u8 0),(.int .u64 0),(.int .u64 0),(.int .u64 0),(.int .u64 0)]),
 ⟨none,.store 27 (.t 6) (.t 24),none⟩,
 oo 7 (.val (.t 25))] [])
 (.seq (.ops 8 false [
 oo 26 (.val (.t 4)),
 oo 27 (.bin .eql (.t 26) (.c (.int .i64 0))),
 oo 28 (.val (.t 27)),
 ⟨some 29,.val (.t 3),some (28,true)⟩,
 ⟨some 30,.len (.t 29),some (28,true)⟩,
 ⟨some 31,.bin .eql (.t 30) (.c (.int .i64 29)),some (28,true)⟩,
 oo 32 (.pick (.t 28) (.t 31) (.c (.bool false))),
 oo 33 (.val (.t 32)),
 ⟨some 34,.val (.t 3),some (33,true)⟩,
 ⟨some 35,.indexS 1 (.t 34) (.c (.int .i64 0)),some (33,true)⟩,
 ⟨some 36,.load (.t 35),some (33,true)⟩,
 ⟨some 37,.bin .eql (.t 36) (.c (.int .u8 76)),some (33,true)⟩,
 oo 38 (.pick (.t 33) (.t 37) (.c (.bool false))),
 oo 39 (.val (.t 38)),
 ⟨some 40,.val (.t 3),some (39,true)⟩,
 ⟨some 41,.indexS 1 (.t 40) (.c (.int .i64 1)),some (39,true)⟩,
 ⟨some 42,.load (.t 41),some (39,true)⟩,
 ⟨some 43,.bin .eql (.t 42) (.c (.int .u8 0)),some (39,true)⟩,
 oo 44 (.pick (.t 39) (.t 43) (.c (.bool false))),
 oo 45 (.val (.t 44)),
 ⟨some 46,.val (.t 3),some (45,true)⟩,
 ⟨some 47,.indexS 1 (.t 46) (.c (.int .i64 2)),some (45,true)⟩,
 ⟨some 48,.load (.t 47),some (45,true)⟩,
 ⟨some 49,.bin .eql (.t 48) (.c (.int .u8 1)),some (45,true)⟩,
 oo 50 (.pick (.t 45) (.t 49) (.c (.bool false))),
 oo 51 (.val (.t 50)),
 ⟨some 52,.val (.t 3),some (51,true)⟩,
 ⟨some 53,.indexS 1 (.t 52) (.c (.int .i64 3)),some (51,true)⟩,
 ⟨some 54,.load (.t 53),some (51,true)⟩,
 ⟨some 55,.bin .eql (.t 54) (.c (.int .u8 5)),some (51,true)⟩,
 oo 56 (.pick (.t 51) (.t 55) (.c (.bool false))),
 oo 57 (.val (.t 56)),
 ⟨some 58,.val (.t 5),some (57,true)⟩,
 ⟨some 59,.bin .eql (.t 58) (.c (.int .i64 0)),some (57,true)⟩,
 oo 60 (.pick (.t 57) (.t 59) (.c (.bool false))),
 oo 61 (.val (.t 60)),
 ⟨some 62,.val (.t 7),some (61,true)⟩,
 ⟨some 63,.bin .eql (.t 62) (.c (.int .i64 0)),some (61,true)⟩,
 oo 64 (.pick (.t 61) (.t 63) (.c (.bool false))),
 oo 65 (.val (.t 64)),
 ⟨some 66,.loadN 27 (.t 6),some (65,true)⟩,
 ⟨some 67,.loadN 27 (.t 2),some (65,true)⟩,
 ⟨some 68,.eqn false 45 (.t 66) (.t 67),some (65,true)⟩,
 oo 69 (.pick (.t 65) (.t 68) (.c (.bool false))),
 oo 70 (.val (.t 69)),
 ⟨some 71,.val (.t 1),some (70,true)⟩,
 ⟨some 72,.nilCheck (.t 71),some (70,true)⟩,
 ⟨some 73,.fieldA 0 (.t 72),some (70,true)⟩,
 ⟨some 74,.call 14 [.t 73],some (70,true)⟩,
 ⟨some 75,.bin .eql (.t 74) (.c (.int .i64 1)),some (70,true)⟩,
 oo 76 (.pick (.t 70) (.t 75) (.c (.bool false))),
 oo 0 (.val (.t 76))] [])
 (.ret))))))))
def rs4 : List RR := [.tmp 0]
theorem fun4 : FunR Tryz.prog 4 rc4 rs4 77 := ⟨Tryz.f4, Tryz.func4, by kernel_rfl, by kernel_rfl, by kernel_rfl⟩
/-- causeway/causewaylaw11.own -/
def rc5 : RC :=
 .seq (.ops 0 false [
 oo 2 (.val (.c (.slice none 0 0)))] [])
 (.seq (.ops 1 false [
 oo 4 (.val (.t 0)),
 oo 5 (.len (.t 4)),
 oo 6 (.mkS 22 (.t 5) (.t 5)),
 oo 3 (.val (.t 6))] [])
 (.seq (.ops 2 false [
 oo 7 (.val (.t 3)),
 oo 8 (.val (.t 0)),
 oo 9 (.blt .copy #[22,22] 3 [.t 7,.t 8])] [])
 (.seq (.ops 3 false [
 oo 10 (.val (.t 3)),
 oo 2 (.val (.t 10))] [])
 (.ret))))
def rs5 : List RR := [.tmp 2]
theorem fun5 : FunR Tryz.prog 5 rc5 rs5 11 := ⟨Tryz.f5, Tryz.func5, by kernel_rfl, by kernel_rfl, by kernel_rfl⟩
/-- causeway/store.Over -/
def rc6 : RC :=
 .seq (.ops 0 false [
 oo 2 (.val (.c (.pointer none))),
 oo 3 (.val (.c (.int .i64 0)))] [])
 (.seq (.seq (.ops 1 false [
 oo 4 (.val (.t 0)),
 oo 5 (.eqp .ifc false (.t 4) (.c .nilIface))] [])
 (.cond (.t 5) (.seq (.ops 2 false [
 oo 2 (.val (.c (.pointer none))),
 oo 3 (.val (.c (.int .i64 1)))] [])
 (.ret))
 (.skip)))
 (.seq (.ops 3 false [
 oo 6 (.val (.t 0)),
 oo 7 (.mkMap 66),
 oo 8 (.mkMap 66),
 oo 9 (.build [.nilIface,(.map none),(.map none),(.slice none 0 0),(.slice none 0 0)] [(0,1,(.t 6)),(1,1,(.t 7)),(2,1,(.t 8))]),
 oo 10 (.box 70 (.t 9)),
 oo 2 (.val (.t 10)),
 oo 3 (.val (.c (.int .i64 0)))] [])
 (.ret)))
def rs6 : List RR := [.tmp 2, .tmp 3]
theorem fun6 : FunR Tryz.prog 6 rc6 rs6 11 := ⟨Tryz.f6, Tryz.func6, by kernel_rfl, by kernel_rfl, by kernel_rfl⟩
/-- causeway/causewayref07.Part -/
def rc7 : RC :=
 .seq (.ops 0 false [
 oo 2 (.val (.c (.pointer none)))] [])
 (.seq (.ops 1 false [
 oo 3 (.val (.t 0)),
 oo 4 (.build [(.slice none 0 0),(.bool false),(.slice none 0 0),(.slice none 0 0),(.slice none 0 0),(.slice none 0 0),(.int .i64 0)] [(0,1,(.t 3)),(1,1,(.c (.bool true)))]),
 oo 5 (.box 73 (.t 4)),
 oo 2 (.val (.t 5))] [])
 (.ret))
def rs7 : List RR := [.tmp 2]
theorem fun7 : FunR Tryz.prog 7 rc7 rs7 6 := ⟨Tryz.f7, Tryz.func7, by kernel_rfl, by kernel_rfl, by kernel_rfl⟩
/-- causeway/causewaylaw11.stepped -/
def rc8 : RC :=
 .seq (.ops 0 false [
 oo 5 (.box 47 (.t 2)),
 oo 6 (.val (.c (.bool false)))] [])
 (.seq (.seq (.ops 1 false [
 oo 19 (.fieldA 0 (.t 5)),
 oo 20 (.load (.t 19)),
 oo 21 (.call 15 [(.t 20),(.c (.int .i64 8))])] [])
 (.block 0 (.seq (.seq (.ops 2 false [
 oo 23 (.bin .eql (.t 21) (.c (.int .i64 0))),
 oo 22 (.val (.t 23))] [])
 (.cond (.t 22) (.skip)
 (.seq (.ops 3 false [
 oo 24 (.bin .eql (.t 21) (.c (.int .i64 1))),
 oo 22 (.val (.t 24))] [])
 (.cond (.t 22) (.skip)
 (.ops 4 false [
 oo 25 (.bin .eql (.t 21) (.c (.int .i64 2))),
 oo 22 (.val (.t 25))] [])))))
 (.cond (.t 22) (.seq (.ops 5 false [
 oo 27 (.val (.t 0)),
 oo 28 (.fieldA 3 (.t 5)),
 oo 29 (.loadN 27 (.t 28)),
 oo 30 (.call 16 [.t 27,.t 29]),
 oo 26 (.val (.t 30)),
 oo 31 (.extract 0 (.t 26)),
 oo 32 (.extract 1 (.t 26)),
 oo 7 (.val (.t 31)),
 oo 8 (.val (.t 32))] [])
 (.seq (.ops 6 false [
 oo 34 (.val (.t 1)),
 oo 35 (.fieldA 3 (.t 5)),
 oo 36 (.loadN 27 (.t 35)),
 oo 37 (.call 17 [.t 34,.t 36]),
 oo 33 (.val (.t 37)),
 oo 38 (.extract 0 (.t 33)),
 oo 39 (.extract 1 (.t 33)),
 oo 9 (.val (.t 38)),
 oo 10 (.val (.t 39))] [])
 (.seq (.ops 7 false [
 oo 40 (.val (.t 7)),
 oo 41 (.val (.t 9)),
 oo 42 (.bin .eql (.t 40) (.t 41)),
 oo 43 (.val (.t 42)),
 ⟨some 44,.val (.t 8),some (43,true)⟩,
 ⟨some 45,.val (.t 10),some (43,true)⟩,
 ⟨some 46,.bin .eql (.t 44) (.t 45),some (43,true)⟩,
 oo 47 (.pick (.t 43) (.t 46) (.c (.bool false))),
 oo 6 (.val (.t 47))] [])
 (.ret))))
 (.seq (.ops 8 false [
 oo 49 (.bin .eql (.t 21) (.c (.int .i64 3))),
 oo 48 (.val (.t 49))] [])
 (.cond (.t 48) (.seq (.ops 9 false [
 oo 51 (.val (.t 0)),
 oo 52 (.call 18 [.t 51]),
 oo 50 (.val (.t 52)),
 oo 53 (.extract 0 (.t 50)),
 oo 54 (.extract 1 (.t 50)),
 oo 11 (.val (.t 53)),
 oo 12 (.val (.t 54))] [])
 (.seq (.ops 10 false [
 oo 56 (.val (.t 1)),
 oo 57 (.call 19 [.t 56]),
 oo 55 (.val (.t 57)),
 oo 58 (.extract 0 (.t 55)),
 oo 59 (.extract 1 (.t 55)),
 oo 13 (.val (.t 58)),
 oo 14 (.val (.t 59))] [])
 (.seq (.ops 11 false [
 oo 60 (.val (.t 11)),
 oo 61 (.val (.t 13)),
 oo 62 (.bin .eql (.t 60) (.t 61)),
 oo 63 (.val (.t 62)),
 ⟨some 64,.val (.t 12),some (63,true)⟩,
 ⟨some 65,.val (.t 14),some (63,true)⟩,
 ⟨some 66,.bin .eql (.t 64) (.t 65),some (63,true)⟩,
 oo 67 (.pick (.t 63) (.t 66) (.c (.bool false))),
 oo 6 (.val (.t 67))] [])
 (.ret))))
 (.seq (.seq (.ops 12 false [
 oo 69 (.bin .eql (.t 21) (.c (.int .i64 4))),
 oo 68 (.val (.t 69))] [])
 (.cond (.t 68) (.skip)
 (.ops 13 false [
 oo 70 (.bin .eql (.t 21) (.c (.int .i64 5))),
 oo 68 (.val (.t 70))] [])))
 (.cond (.t 68) (.seq (.ops 14 false [
 oo 72 (.val (.t 0)),
 oo 73 (.call 20 [.t 72]),
 oo 71 (.val (.t 73)),
 oo 74 (.extract 0 (.t 71)),
 oo 75 (.extract 1 (.t 71)),
 oo 15 (.alloc 81 (List.replicate 32 (.int .u8 0))),
 ⟨none,.store 32 (.t 15) (.t 74),none⟩,
 oo 16 (.val (.t 75))] [])
 (.seq (.ops 15 false [
 oo 77 (.val (.t 1)),
 oo 78 (.call 21 [.t 77]),
 oo 76 (.val (.t 78)),
 oo 79 (.extract 0 (.t 76)),
 oo 80 (.extract 1 (.t 76)),
 oo 17 (.alloc 81 (List.replicate 32 (.int .u8 0))),
 ⟨none,.store 32 (.t 17) (.t 79),none⟩,
 oo 18 (.val (.t 80))] [])
 (.seq (.ops 16 false [
 oo 81 (.loadN 32 (.t 15)),
 oo 82 (.loadN 32 (.t 17)),
 oo 83 (.eqn false 81 (.t 81) (.t 82)),
 oo 84 (.val (.t 83)),
 ⟨some 85,.val (.t 16),some (84,true)⟩,
 ⟨some 86,.val (.t 18),some (84,true)⟩,
 ⟨some 87,.bin .eql (.t 85) (.t 86),some (84,true)⟩,
 oo 88 (.pick (.t 84) (.t 87) (.c (.bool false))),
 oo 6 (.val (.t 88))] [])
 (.ret))))
 (.seq (.ops 17 false [
 oo 90 (.bin .eql (.t 21) (.c (.int .i64 6))),
 oo 89 (.val (.t 90))] [])
 (.cond (.t 89) (.seq (.ops 18 false [
 oo 91 (.val (.t 0)),
 oo 92 (.call 22 [.t 91]),
 oo 93 (.val (.t 1)),
 oo 94 (.call 23 [.t 93]),
 oo 95 (.bin .eql (.t 92) (.t 94)),
 oo 6 (.val (.t 95))] [])
 (.ret))
 (.skip)))))))))))
 (.seq (.ops 19 true [
 oo 96 (.val (.t 0)),
 oo 97 (.fieldA 1 (.t 5)),
 oo 98 (.load (.t 97)),
 oo 99 (.call 24 [.t 96,.t 98]),
 oo 100 (.val (.t 1)),
 oo 101 (.fieldA 1 (.t 5)),
 oo 102 (.load (.t 101)),
 oo 103 (.call 25 [.t 100,.t 102]),
 oo 104 (.bin .eql (.t 99) (.t 103)),
 oo 6 (.val (.t 104))] [([],[]),([],[]),([1],[1]),([0,2],[0,2]),([],[]),([],[]),([5],[5]),([4,6,3],[4,6]),([3,7],[3,7]),([8,7,0,1,2,3,4,5,6,7,8],[8])])
 (.ret)))
def rs8 : List RR := [.tmp 6]
theorem fun8 : FunR Tryz.prog 8 rc8 rs8 105 := ⟨Tryz.f8, Tryz.func8, by kernel_rfl, by kernel_rfl, by kernel_rfl⟩
/-- causeway/causewaylaw11.touched -/
def rc9 : RC :=
 .seq (.ops 0 false [
 oo 4 (.val (.c (.bool false)))] [])
 (.seq (.ops 1 false [
 oo 11 (.val (.t 0)),
 oo 12 (.call 26 [.t 11]),
 oo 5 (.val (.t 12))] [])
 (.seq (.ops 2 false [
 oo 13 (.val (.t 1)),
 oo 14 (.call 27 [.t 13]),
 oo 6 (.val (.t 14))] [])
 (.seq (.ops 3 false [
 oo 15 (.val (.t 0)),
 oo 16 (.call 28 [.t 15]),
 oo 7 (.val (.t 16))] [])
 (.seq (.ops 4 false [
 oo 17 (.val (.t 1)),
 oo 18 (.call 29 [.t 17]),
 oo 8 (.val (.t 18))] [])
 (.seq (.seq (.ops 5 false [
 oo 19 (.val (.t 5)),
 oo 20 (.len (.t 19)),
 oo 21 (.val (.t 6)),
 oo 22 (.len (.t 21)),
 oo 23 (.bin .neq (.t 20) (.t 22)),
 oo 24 (.val (.t 23)),
 ⟨some 25,.val (.t 7),some (24,false)⟩,
 ⟨some 26,.len (.t 25),some (24,false)⟩,
 ⟨some 27,.val (.t 8),some (24,false)⟩,
 ⟨some 28,.len (.t 27),some (24,false)⟩,
 ⟨some 29,.bin .neq (.t 26) (.t 28),some (24,false)⟩,
 oo 30 (.pick (.t 24) (.c (.bool true)) (.t 29))] [])
 (.cond (.t 30) (.seq (.ops 6 false [
 oo 4 (.val (.c (.bool false)))] [])
 (.ret))
 (.skip)))
 (.seq (.seq (.ops 7 false [
 oo 9 (.val (.c (.int .i64 0)))] [])
 (.block 0 (.loop (.seq (.seq (.ops 8 false [
 oo 31 (.val (.t 9)),
 oo 32 (.val (.t 5)),
 oo 33 (.len (.t 32)),
 oo 34 (.bin .lss (.t 31) (.t 33))] [])
 (.cond (.t 34) (.skip)
 (.exit 0)))
 (.seq (.block 1 (.seq (.ops 10 true [
 oo 37 (.val (.t 5)),
 oo 38 (.val (.t 9)),
 oo 39 (.indexS 1 (.t 37) (.t 38)),
 oo 40 (.load (.t 39)),
 oo 41 (.val (.t 6)),
 oo 42 (.val (.t 9)),
 oo 43 (.indexS 1 (.t 41) (.t 42)),
 oo 44 (.load (.t 43)),
 oo 45 (.eqp .str true (.t 40) (.t 44))] [([],[]),([],[]),([0,1],[0,1]),([2],[2]),([],[]),([],[]),([4,5],[4,5]),([6],[6]),([3,7],[3,7])])
 (.cond (.t 45) (.seq (.ops 11 false [
 oo 4 (.val (.c (.bool false)))] [])
 (.ret))
 (.skip))))
 (.ops 9 false [
 oo 35 (.val (.t 9)),
 oo 36 (.bin .add (.t 35) (.c (.int .i64 1))),
 oo 9 (.val (.t 36))] []))))))
 (.seq (.seq (.ops 12 false [
 oo 10 (.val (.c (.int .i64 0)))] [])
 (.block 2 (.loop (.seq (.seq (.ops 13 false [
 oo 46 (.val (.t 10)),
 oo 47 (.val (.t 7)),
 oo 48 (.len (.t 47)),
 oo 49 (.bin .lss (.t 46) (.t 48))] [])
 (.cond (.t 49) (.skip)
 (.exit 2)))
 (.seq (.block 3 (.seq (.ops 15 true [
 oo 52 (.val (.t 7)),
 oo 53 (.val (.t 10)),
 oo 54 (.indexS 3 (.t 52) (.t 53)),
 oo 55 (.fieldA 0 (.t 54)),
 oo 56 (.load (.t 55)),
 oo 57 (.val (.t 8)),
 oo 58 (.val (.t 10)),
 oo 59 (.indexS 3 (.t 57) (.t 58)),
 oo 60 (.fieldA 0 (.t 59)),
 oo 61 (.load (.t 60)),
 oo 62 (.eqp .str true (.t 56) (.t 61)),
 oo 63 (.val (.t 62)),
 ⟨some 64,.val (.t 7),some (63,false)⟩,
 ⟨some 65,.val (.t 10),some (63,false)⟩,
 ⟨some 66,.indexS 3 (.t 64) (.t 65),some (63,false)⟩,
 ⟨some 67,.fieldA 1 (.t 66),some (63,false)⟩,
 ⟨some 68,.load (.t 67),some (63,false)⟩,
 ⟨some 69,.cvt 22 9 (.t 68),some (63,false)⟩,
 ⟨some 70,.val (.t 8),some (63,false)⟩,
 ⟨some 71,.val (.t 10),some (63,false)⟩,
 ⟨some 72,.indexS 3 (.t 70) (.t 71),some (63,false)⟩,
 ⟨some 73,.fieldA 1 (.t 72),some (63,false)⟩,
 ⟨some 74,.load (.t 73),some (63,false)⟩,
 ⟨some 75,.cvt 22 9 (.t 74),some (63,false)⟩,
 ⟨some 76,.eqp .str true (.t 69) (.t 75),some (63,false)⟩,
 oo 77 (.pick (.t 63) (.c (.bool true)) (.t 76)),
 oo 78 (.val (.t 77)),
 ⟨some 79,.val (.t 7),some (78,false)⟩,
 ⟨some 80,.val (.t 10),some (78,false)⟩,
 ⟨some 81,.indexS 3 (.t 79) (.t 80),some (78,false)⟩,
 ⟨some 82,.fieldA 2 (.t 81),some (78,false)⟩,
 ⟨some 83,.load (.t 82),some (78,false)⟩,
 ⟨some 84,.cvt 22 9 (.t 83),some (78,false)⟩,
 ⟨some 85,.val (.t 8),some (78,false)⟩,
 ⟨some 86,.val (.t 10),some (78,false)⟩,
 ⟨some 87,.indexS 3 (.t 85) (.t 86),some (78,false)⟩,
 ⟨some 88,.fieldA 2 (.t 87),some (78,false)⟩,
 ⟨some 89,.load (.t 88),some (78,false)⟩,
 ⟨some 90,.cvt 22 9 (.t 89),some (78,false)⟩,
 ⟨some 91,.eqp .str true (.t 84) (.t 90),some (78,false)⟩,
 oo 92 (.pick (.t 78) (.c (.bool true)) (.t 91))] [([],[]),([],[]),([0,1],[0,1]),([2],[2]),([3],[3]),([],[]),([],[]),([5,6],[5,6]),([7],[7]),([8],[8]),([4,9],[4,9]),([10],[10]),([11],[11]),([11],[11]),([12,13,11],[11,12,13]),([14,11],[11,14]),([15,11],[11,15]),([16,11],[11,16]),([11],[11]),([11],[11]),([18,19,11],[11,18,19]),([20,11],[11,20]),([21,11],[11,21]),([22,11],[11,22]),([17,23,11],[11,17,23]),([11,24],[11,24]),([25,11],[25]),([26],[26]),([26],[26]),([27,28,26],[26,27,28]),([29,26],[26,29]),([30,26],[26,30]),([31,26],[26,31]),([26],[26]),([26],[26]),([33,34,26],[26,33,34]),([35,26],[26,35]),([36,26],[26,36]),([37,26],[26,37]),([32,38,26],[26,32,38]),([26,39],[26,39])])
 (.cond (.t 92) (.seq (.ops 16 false [
 oo 4 (.val (.c (.bool false)))] [])
 (.ret))
 (.skip))))
 (.ops 14 false [
 oo 50 (.val (.t 10)),
 oo 51 (.bin .add (.t 50) (.c (.int .i64 1))),
 oo 10 (.val (.t 51))] []))))))
 (.seq (.ops 17 false [
 oo 4 (.val (.c (.bool true)))] [])
 (.ret)))))))))
def rs9 : List RR := [.tmp 4]
theorem fun9 : FunR Tryz.prog 9 rc9 rs9 93 := ⟨Tryz.f9, Tryz.func9, by kernel_rfl, by kernel_rfl, by kernel_rfl⟩
/-- causeway/outbox.New -/
def rc10 : RC :=
 .seq (.ops 0 false [
 oo 0 (.val (.c (.pointer none)))] [])
 (.seq (.ops 1 false [
 oo 1 (.build [(.slice none 0 0),(.slice none 0 0)] []),
 oo 2 (.box 63 (.t 1)),
 oo 0 (.val (.t 2))] [])
 (.ret))
def rs10 : List RR := [.tmp 0]
theorem fun10 : FunR Tryz.prog 10 rc10 rs10 3 := ⟨Tryz.f10, Tryz.func10, by kernel_rfl, by kernel_rfl, by kernel_rfl⟩
/-- causeway/outbox.Bytes -/
def rc11 : RC :=
 .seq (.ops 0 false [
 oo 1 (.box 45 (.t 0)),
 oo 2 (.val (.c (.slice none 0 0))),
 oo 3 (.val (.c (.int .i64 0)))] [])
 (.seq (.seq (.ops 1 false [
 oo 5 (.loadN 27 (.t 1)),
 oo 6 (.call 30 [.t 5]),
 oo 7 (.not (.t 6))] [])
 (.cond (.t 7) (.seq (.ops 2 false [
 oo 2 (.val (.c (.slice none 0 0))),
 oo 3 (.val (.c (.int .i64 110)))] [])
 (.ret))
 (.skip)))
 (.seq (.ops 3 false [
 oo 8 (.call 31 []),
 oo 4 (.val (.t 8))] [])
 (.seq (.ops 4 false [
 oo 9 (.val (.t 4)),
 oo 10 (.call 32 [(.t 9),(.c (.int .u8 76))])] [])
 (.seq (.ops 5 false [
 oo 11 (.val (.t 4)),
 oo 12 (.fieldA 0 (.t 1)),
 oo 13 (.load (.t 12)),
 oo 14 (.call 33 [.t 11,.t 13])] [])
 (.seq (.ops 6 false [
 oo 15 (.val (.t 4)),
 oo 16 (.fieldA 1 (.t 1)),
 oo 17 (.load (.t 16)),
 oo 18 (.call 33 [.t 15,.t 17])] [])
 (.seq (.ops 7 false [
 oo 19 (.val (.t 4)),
 oo 20 (.fieldA 2 (.t 1)),
 oo 21 (.load (.t 20)),
 oo 22 (.call 33 [.t 19,.t 21])] [])
 (.seq (.ops 8 false [
 oo 23 (.val (.t 4)),
 oo 24 (.fieldA 3 (.t 1)),
 oo 25 (.loadN 20 (.t 24)),
 oo 26 (.call 34 [.t 23,.t 25])] [])
 (.seq (.ops 9 false [
 oo 27 (.val (.t 4)),
 oo 28 (.fieldA 23 (.t 1)),
 oo 29 (.loadN 4 (.t 28)),
 oo 30 (.call 35 [.t 27,.t 29])] [])
 (.seq (.ops 10 false [
 oo 31 (.val (.t 4)),
 oo 32 (.call 36 [.t 31]),
 oo 33 (.extract 0 (.t 32)),
 oo 34 (.extract 1 (.t 32)),
 oo 2 (.val (.t 33)),
 oo 3 (.val (.t 34))] [])
 (.ret))))))))))
def rs11 : List RR := [.tmp 2, .tmp 3]
theorem fun11 : FunR Tryz.prog 11 rc11 rs11 35 := ⟨Tryz.f11, Tryz.func11, by kernel_rfl, by kernel_rfl, by kernel_rfl⟩
/-- (*causeway/outbox.Book).Put -/
def rc12 : RC :=
 .seq (.ops 0 false [
 oo 3 (.box 45 (.t 1)),
 oo 4 (.val (.c (.int .i64 0)))] [])
 (.seq (.ops 1 false [
 oo 8 (.loadN 27 (.t 3)),
 oo 9 (.call 11 [.t 8]),
 oo 7 (.val (.t 9)),
 oo 10 (.extract 0 (.t 7)),
 oo 11 (.extract 1 (.t 7)),
 oo 5 (.val (.t 10)),
 oo 6 (.val (.t 11))] [])
 (.seq (.block 0 (.seq (.ops 2 false [
 oo 13 (.val (.t 6)),
 oo 14 (.bin .neq (.t 13) (.c (.int .i64 0))),
 oo 12 (.val (.t 14))] [])
 (.cond (.t 12) (.seq (.ops 3 false [
 oo 15 (.val (.t 6)),
 oo 4 (.val (.t 15))] [])
 (.ret))
 (.seq (.ops 4 true [
 oo 17 (.fieldA 0 (.t 3)),
 oo 18 (.load (.t 17)),
 oo 19 (.val (.t 0)),
 oo 20 (.nilCheck (.t 19)),
 oo 21 (.fieldA 0 (.t 20)),
 oo 22 (.call 14 [.t 21]),
 oo 23 (.bin .neq (.t 18) (.t 22)),
 oo 16 (.val (.t 23))] [([],[]),([0],[0]),([],[]),([2],[2]),([3],[3]),([4],[4]),([1,5],[1,5]),([6,5],[6])])
 (.cond (.t 16) (.seq (.ops 5 false [
 oo 4 (.val (.c (.int .i64 111)))] [])
 (.ret))
 (.skip))))))
 (.seq (.ops 6 true [
 oo 24 (.val (.t 0)),
 oo 25 (.val (.t 0)),
 oo 26 (.nilCheck (.t 25)),
 oo 27 (.fieldA 0 (.t 26)),
 oo 28 (.fieldA 0 (.t 27)),
 oo 29 (.load (.t 28)),
 oo 30 (.loadN 27 (.t 3)),
 oo 31 (.buildS 45 1 [(.int .i64 0),(.int .i64 0),(.int .i64 0),(.int .u8 0),(.int .u8 0),(.int .u8 0),(.int .u8 0),(.int .u8 0),(.int .u8 0),(.int .u8 0),(.int .u8 0),(.int .u8 0),(.int .u8 0),(.int .u8 0),(.int .u8 0),(.int .u8 0),(.int .u8 0),(.int .u8 0),(.int .u8 0),(.int .u8 0),(.int .u8 0),(.int .u8 0),(.int .u8 0),(.int .u64 0),(.int .u64 0),(.int .u64 0),(.int .u64 0)] [(0,27,(.t 30))]),
 oo 32 (.blt .append #[58,58] 58 [.t 29,.t 31]),
 oo 33 (.nilCheck (.t 24)),
 oo 34 (.fieldA 0 (.t 33)),
 oo 35 (.fieldA 0 (.t 34)),
 ⟨none,.store 1 (.t 35) (.t 32),none⟩] [([],[]),([],[]),([1],[1]),([2],[2]),([3],[3]),([4],[4]),([],[]),([6],[6]),([5,7],[5,7]),([0,0,1,2,3,4,5,6,7,8],[0]),([9,0,1,2,3,4,5,6,7,8],[9]),([10,0,1,2,3,4,5,6,7,8],[10]),([11,8,8,0,1,2,3,4,5,6,7,8],[8,11])])
 (.seq (.ops 7 false [
 oo 36 (.val (.t 0)),
 oo 37 (.val (.t 0)),
 oo 38 (.nilCheck (.t 37)),
 oo 39 (.fieldA 0 (.t 38)),
 oo 40 (.fieldA 1 (.t 39)),
 oo 41 (.load (.t 40)),
 oo 42 (.val (.t 5)),
 oo 43 (.buildS 22 1 [(.slice none 0 0)] [(0,1,(.t 42))]),
 oo 44 (.blt .append #[59,59] 59 [.t 41,.t 43]),
 oo 45 (.nilCheck (.t 36)),
 oo 46 (.fieldA 0 (.t 45)),
 oo 47 (.fieldA 1 (.t 46)),
 ⟨none,.store 1 (.t 47) (.t 44),none⟩] [])
 (.seq (.ops 8 false [
 oo 4 (.val (.c (.int .i64 0)))] [])
 (.ret))))))
def rs12 : List RR := [.tmp 4]
theorem fun12 : FunR Tryz.prog 12 rc12 rs12 48 := ⟨Tryz.f12, Tryz.func12, by kernel_rfl, by kernel_rfl, by kernel_rfl⟩
/-- (*causeway/outbox.Book).Leaf -/
def rc13 : RC :=
 .seq (.ops 0 false [
 oo 4 (.alloc 45 [(.int .i64 0),(.int .i64 0),(.int .i64 0),(.int .u8 0),(.int .u8 0),(.int .u8 0),(.int .u8 0),(.int .u8 0),(.int .u8 0),(.int .u8 0),(.int .u8 0),(.int .u8 0),(.int .u8 0),(.int .u8 0),(.int .u8 0),(.int .u8 0),(.int .u8 0),(.int .u8 0),(.int .u8 0),(.int .u8 0),(.int .u8 0),(.int .u8 0),(.int .u8 0),(.int .u64 0),(.int .u64 0),(.int .u64 0),(.int .u64 0)]),
 oo 5 (.val (.c (.int .i64 0)))] [])
 (.seq (.seq (.ops 1 false [
 oo 6 (.val (.t 1)),
 oo 7 (.bin .lss (.t 6) (.c (.int .i64 0))),
 oo 8 (.val (.t 7)),
 ⟨some 9,.val (.t 1),some (8,false)⟩,
 ⟨some 10,.val (.t 0),some (8,false)⟩,
 ⟨some 11,.nilCheck (.t 10),some (8,false)⟩,
 ⟨some 12,.fieldA 0 (.t 11),some (8,false)⟩,
 ⟨some 13,.call 14 [.t 12],some (8,false)⟩,
 ⟨some 14,.bin .geq (.t 9) (.t 13),some (8,false)⟩,
 oo 15 (.pick (.t 8) (.c (.bool true)) (.t 14))] [])
 (.cond (.t 15) (.seq (.ops 2 false [
 oo 16 (.build [(.int .i64 0),(.int .i64 0),(.int .i64 0),(.int .u8 0),(.int .u8 0),(.int .u8 0),(.int .u8 0),(.int .u8 0),(.int .u8 0),(.int .u8 0),(.int .u8 0),(.int .u8 0),(.int .u8 0),(.int .u8 0),(.int .u8 0),(.int .u8 0),(.int .u8 0),(.int .u8 0),(.int .u8 0),(.int .u8 0),(.int .u8 0),(.int .u8 0),(.int .u8 0),(.int .u64 0),(.int .u64 0),(.int .u64 0),(.int .u64 0)] []),
 ⟨none,.store 27 (.t 4) (.t 16),none⟩,
 oo 5 (.val (.c (.int .i64 111)))] [])
 (.ret))
 (.skip)))
 (.seq (.ops 3 false [
 oo 17 (.val (.t 0)),
 oo 18 (.nilCheck (.t 17)),
 oo 19 (.fieldA 0 (.t 18)),
 oo 20 (.fieldA 0 (.t 19)),
 oo 21 (.load (.t 20)),
 oo 22 (.val (.t 1)),
 oo 23 (.indexS 27 (.t 21) (.t 22)),
 oo 24 (.loadN 27 (.t 23)),
 ⟨none,.store 27 (.t 4) (.t 24),none⟩,
 oo 5 (.val (.c (.int .i64 0)))] [])
 (.ret)))
def rs13 : List RR := [.cell 4 (some 27), .tmp 5]
theorem fun13 : FunR Tryz.prog 13 rc13 rs13 25 := ⟨Tryz.f13, Tryz.func13, by kernel_rfl, by kernel_rfl, by kernel_rfl⟩
/-- (*causeway/outbox.rows).Len -/
def rc14 : RC :=
 .seq (.ops 0 false [
 oo 2 (.val (.c (.int .i64 0)))] [])
 (.seq (.ops 1 false [
 oo 3 (.val (.t 0)),
 oo 4 (.nilCheck (.t 3)),
 oo 5 (.fieldA 0 (.t 4)),
 oo 6 (.load (.t 5)),
 oo 7 (.len (.t 6)),
 oo 2 (.val (.t 7))] [])
 (.ret))
def rs14 : List RR := [.tmp 2]
theorem fun14 : FunR Tryz.prog 14 rc14 rs14 8 := ⟨Tryz.f14, Tryz.func14, by kernel_rfl, by kernel_rfl, by kernel_rfl⟩
/-- causeway/causewaylaw11.pick -/
def rc15 : RC :=
 .seq (.ops 0 false [
 oo 4 (.val (.c (.int .i64 0)))] [])
 (.seq (.seq (.ops 1 false [
 oo 5 (.val (.t 0)),
 oo 6 (.bin .lss (.t 5) (.c (.int .i64 0)))] [])
 (.cond (.t 6) (.ops 2 false [
 oo 7 (.val (.t 0)),
 oo 8 (.bin .add (.t 7) (.c (.int .i64 1))),
 oo 9 (.neg (.t 8)),
 oo 0 (.val (.t 9))] [])
 (.skip)))
 (.seq (.ops 3 false [
 oo 10 (.val (.t 0)),
 oo 11 (.val (.t 1)),
 oo 12 (.bin .rem (.t 10) (.t 11)),
 oo 4 (.val (.t 12))] [])
 (.ret)))
def rs15 : List RR := [.tmp 4]
theorem fun15 : FunR Tryz.prog 15 rc15 rs15 13 := ⟨Tryz.f15, Tryz.func15, by kernel_rfl, by kernel_rfl, by kernel_rfl⟩
/-- causeway/outbox.Add -/
def rc16 : RC :=
 .seq (.ops 0 false [
 oo 3 (.box 45 (.t 1)),
 oo 4 (.val (.c (.int .i64 0))),
 oo 5 (.val (.c (.int .i64 0)))] [])
 (.seq (.block 0 (.seq (.ops 1 false [
 oo 11 (.val (.t 0)),
 oo 12 (.eqp .ptr false (.t 11) (.c (.pointer none))),
 oo 10 (.val (.t 12))] [])
 (.cond (.t 10) (.seq (.ops 2 false [
 oo 4 (.val (.c (.int .i64 0))),
 oo 5 (.val (.c (.int .i64 1)))] [])
 (.ret))
 (.seq (.ops 3 false [
 oo 14 (.fieldA 0 (.t 3)),
 oo 15 (.load (.t 14)),
 oo 16 (.bin .neq (.t 15) (.c (.int .i64 0))),
 oo 17 (.val (.t 16)),
 ⟨some 18,.loadN 27 (.t 3),some (17,false)⟩,
 ⟨some 19,.call 30 [.t 18],some (17,false)⟩,
 ⟨some 20,.not (.t 19),some (17,false)⟩,
 oo 21 (.pick (.t 17) (.c (.bool true)) (.t 20)),
 oo 13 (.val (.t 21))] [])
 (.cond (.t 13) (.seq (.ops 4 false [
 oo 4 (.val (.c (.int .i64 0))),
 oo 5 (.val (.c (.int .i64 110)))] [])
 (.ret))
 (.skip))))))
 (.seq (.ops 5 false [
 oo 23 (.val (.t 0)),
 oo 24 (.call 37 [.t 23]),
 oo 22 (.val (.t 24)),
 oo 25 (.extract 0 (.t 22)),
 oo 26 (.extract 1 (.t 22)),
 oo 6 (.alloc 103 [(.pointer none)]),
 ⟨none,.store 1 (.t 6) (.t 25),none⟩,
 oo 7 (.val (.t 26))] [])
 (.seq (.block 1 (.seq (.ops 6 false [
 oo 28 (.val (.t 7)),
 oo 29 (.bin .neq (.t 28) (.c (.int .i64 0))),
 oo 27 (.val (.t 29))] [])
 (.cond (.t 27) (.seq (.ops 7 false [
 oo 30 (.val (.t 7)),
 oo 4 (.val (.c (.int .i64 0))),
 oo 5 (.val (.t 30))] [])
 (.ret))
 (.seq (.ops 8 false [
 oo 32 (.fieldA 0 (.t 6)),
 oo 33 (.load (.t 32)),
 oo 34 (.call 38 [.t 33]),
 oo 35 (.bin .geq (.t 34) (.c (.int .i64 1099511627776))),
 oo 31 (.val (.t 35))] [])
 (.cond (.t 31) (.seq (.ops 9 false [
 oo 4 (.val (.c (.int .i64 0))),
 oo 5 (.val (.c (.int .i64 114)))] [])
 (.ret))
 (.skip))))))
 (.seq (.ops 10 false [
 oo 36 (.fieldA 0 (.t 6)),
 oo 37 (.load (.t 36)),
 oo 38 (.call 38 [.t 37]),
 oo 39 (.fieldA 0 (.t 3)),
 ⟨none,.store 1 (.t 39) (.t 38),none⟩] [])
 (.seq (.ops 11 false [
 oo 41 (.loadN 27 (.t 3)),
 oo 42 (.call 11 [.t 41]),
 oo 40 (.val (.t 42)),
 oo 43 (.extract 0 (.t 40)),
 oo 44 (.extract 1 (.t 40)),
 oo 8 (.val (.t 43)),
 oo 7 (.val (.t 44))] [])
 (.seq (.seq (.ops 12 false [
 oo 45 (.val (.t 7)),
 oo 46 (.bin .neq (.t 45) (.c (.int .i64 0)))] [])
 (.cond (.t 46) (.seq (.ops 13 false [
 oo 47 (.val (.t 7)),
 oo 4 (.val (.c (.int .i64 0))),
 oo 5 (.val (.t 47))] [])
 (.ret))
 (.skip)))
 (.seq (.ops 14 false [
 oo 48 (.fieldA 0 (.t 6)),
 oo 49 (.load (.t 48)),
 oo 50 (.val (.t 8)),
 oo 51 (.call 39 [.t 49,.t 50])] [])
 (.seq (.seq (.ops 15 false [
 oo 52 (.val (.t 0)),
 oo 53 (.loadN 1 (.t 6)),
 oo 54 (.call 41 [.t 53]),
 oo 55 (.call 40 [(.t 52),(.c (.string ⟨#[111]⟩)),(.t 54)]),
 oo 9 (.val (.t 55))] [])
 (.seq (.ops 16 false [
 oo 56 (.val (.t 9)),
 oo 57 (.bin .neq (.t 56) (.c (.int .i64 0)))] [])
 (.cond (.t 57) (.seq (.ops 17 false [
 oo 58 (.val (.t 9)),
 oo 4 (.val (.c (.int .i64 0))),
 oo 5 (.val (.t 58))] [])
 (.ret))
 (.skip))))
 (.seq (.ops 18 false [
 oo 59 (.fieldA 0 (.t 3)),
 oo 60 (.load (.t 59)),
 oo 4 (.val (.t 60)),
 oo 5 (.val (.c (.int .i64 0)))] [])
 (.ret))))))))))
def rs16 : List RR := [.tmp 4, .tmp 5]
theorem fun16 : FunR Tryz.prog 16 rc16 rs16 61 := ⟨Tryz.f16, Tryz.func16, by kernel_rfl, by kernel_rfl, by kernel_rfl⟩
/-- causeway/causewayref11.Add -/
def rc17 : RC :=
 .seq (.ops 0 false [
 oo 3 (.box 45 (.t 1)),
 oo 4 (.val (.c (.int .i64 0))),
 oo 5 (.val (.c (.int .i64 0)))] [])
 (.seq (.seq (.ops 1 false [
 oo 10 (.val (.t 0)),
 oo 11 (.eqp .ptr false (.t 10) (.c (.pointer none)))] [])
 (.cond (.t 11) (.seq (.ops 2 false [
 oo 4 (.val (.c (.int .i64 0))),
 oo 5 (.val (.c (.int .i64 1)))] [])
 (.ret))
 (.skip)))
 (.seq (.seq (.ops 3 false [
 oo 12 (.fieldA 0 (.t 3)),
 oo 13 (.load (.t 12)),
 oo 14 (.bin .neq (.t 13) (.c (.int .i64 0))),
 oo 15 (.val (.t 14)),
 ⟨some 16,.loadN 27 (.t 3),some (15,false)⟩,
 ⟨some 17,.call 42 [.t 16],some (15,false)⟩,
 ⟨some 18,.not (.t 17),some (15,false)⟩,
 oo 19 (.pick (.t 15) (.c (.bool true)) (.t 18))] [])
 (.cond (.t 19) (.seq (.ops 4 false [
 oo 4 (.val (.c (.int .i64 0))),
 oo 5 (.val (.c (.int .i64 110)))] [])
 (.ret))
 (.skip)))
 (.seq (.ops 5 false [
 oo 21 (.val (.t 0)),
 oo 22 (.call 43 [.t 21]),
 oo 20 (.val (.t 22)),
 oo 23 (.extract 0 (.t 20)),
 oo 24 (.extract 1 (.t 20)),
 oo 6 (.alloc 111 [(.int .i64 0),(.slice none 0 0)]),
 ⟨none,.store 2 (.t 6) (.t 23),none⟩,
 oo 7 (.val (.t 24))] [])
 (.seq (.seq (.ops 6 false [
 oo 25 (.val (.t 7)),
 oo 26 (.bin .neq (.t 25) (.c (.int .i64 0)))] [])
 (.cond (.t 26) (.seq (.ops 7 false [
 oo 27 (.val (.t 7)),
 oo 4 (.val (.c (.int .i64 0))),
 oo 5 (.val (.t 27))] [])
 (.ret))
 (.skip)))
 (.seq (.seq (.ops 8 false [
 oo 28 (.fieldA 0 (.t 6)),
 oo 29 (.load (.t 28)),
 oo 30 (.bin .eql (.t 29) (.c (.int .i64 1099511627776)))] [])
 (.cond (.t 30) (.seq (.ops 9 false [
 oo 4 (.val (.c (.int .i64 0))),
 oo 5 (.val (.c (.int .i64 114)))] [])
 (.ret))
 (.skip)))
 (.seq (.ops 10 false [
 oo 31 (.fieldA 0 (.t 6)),
 oo 32 (.load (.t 31)),
 oo 33 (.fieldA 0 (.t 3)),
 ⟨none,.store 1 (.t 33) (.t 32),none⟩] [])
 (.seq (.ops 11 true [
 oo 35 (.loadN 2 (.t 6)),
 oo 36 (.loadN 27 (.t 3)),
 oo 37 (.call 45 [.t 36]),
 oo 38 (.call 44 [.t 35,.t 37]),
 oo 34 (.val (.t 38)),
 oo 39 (.extract 0 (.t 34)),
 oo 40 (.extract 1 (.t 34)),
 oo 8 (.alloc 111 [(.int .i64 0),(.slice none 0 0)]),
 ⟨none,.store 2 (.t 8) (.t 39),none⟩,
 oo 9 (.val (.t 40))] [([],[]),([],[]),([1],[1]),([0,2,2],[0,2]),([3],[3]),([4],[4]),([4],[4]),([],[]),([7,5,3,0,1,2,3,4,5,7],[5,7]),([6,8,0,1,2,3,4,5,6,7,8],[6])])
 (.seq (.ops 12 false [
 oo 41 (.val (.t 0)),
 oo 42 (.loadN 2 (.t 8)),
 oo 43 (.call 47 [.t 42]),
 oo 44 (.call 46 [(.t 41),(.c (.string ⟨#[111]⟩)),(.t 43)]),
 oo 7 (.val (.t 44))] [])
 (.seq (.seq (.ops 13 false [
 oo 45 (.val (.t 7)),
 oo 46 (.bin .neq (.t 45) (.c (.int .i64 0)))] [])
 (.cond (.t 46) (.seq (.ops 14 false [
 oo 47 (.val (.t 7)),
 oo 4 (.val (.c (.int .i64 0))),
 oo 5 (.val (.t 47))] [])
 (.ret))
 (.skip)))
 (.seq (.ops 15 false [
 oo 48 (.val (.t 9)),
 oo 4 (.val (.t 48)),
 oo 5 (.val (.c (.int .i64 0)))] [])
 (.ret)))))))))))
def rs17 : List RR := [.tmp 4, .tmp 5]
theorem fun17 : FunR Tryz.prog 17 rc17 rs17 49 := ⟨Tryz.f17, Tryz.func17, by kernel_rfl, by kernel_rfl, by kernel_rfl⟩
/-- causeway/outbox.Size -/
def rc18 : RC :=
 .seq (.ops 0 false [
 oo 2 (.val (.c (.int .i64 0))),
 oo 3 (.val (.c (.int .i64 0)))] [])
 (.seq (.ops 1 false [
 oo 7 (.val (.t 0)),
 oo 8 (.call 37 [.t 7]),
 oo 6 (.val (.t 8)),
 oo 9 (.extract 0 (.t 6)),
 oo 10 (.extract 1 (.t 6)),
 oo 4 (.alloc 103 [(.pointer none)]),
 ⟨none,.store 1 (.t 4) (.t 9),none⟩,
 oo 5 (.val (.t 10))] [])
 (.seq (.seq (.ops 2 false [
 oo 11 (.val (.t 5)),
 oo 12 (.bin .neq (.t 11) (.c (.int .i64 0)))] [])
 (.cond (.t 12) (.seq (.ops 3 false [
 oo 13 (.val (.t 5)),
 oo 2 (.val (.c (.int .i64 0))),
 oo 3 (.val (.t 13))] [])
 (.ret))
 (.skip)))
 (.seq (.ops 4 false [
 oo 14 (.fieldA 0 (.t 4)),
 oo 15 (.load (.t 14)),
 oo 16 (.call 38 [.t 15]),
 oo 2 (.val (.t 16)),
 oo 3 (.val (.c (.int .i64 0)))] [])
 (.ret))))
def rs18 : List RR := [.tmp 2, .tmp 3]
theorem fun18 : FunR Tryz.prog 18 rc18 rs18 17 := ⟨Tryz.f18, Tryz.func18, by kernel_rfl, by kernel_rfl, by kernel_rfl⟩
/-- causeway/causewayref11.Size -/
def rc19 : RC :=
 .seq (.ops 0 false [
 oo 2 (.val (.c (.int .i64 0))),
 oo 3 (.val (.c (.int .i64 0)))] [])
 (.seq (.ops 1 false [
 oo 7 (.val (.t 0)),
 oo 8 (.call 43 [.t 7]),
 oo 6 (.val (.t 8)),
 oo 9 (.extract 0 (.t 6)),
 oo 10 (.extract 1 (.t 6)),
 oo 4 (.alloc 111 [(.int .i64 0),(.slice none 0 0)]),
 ⟨none,.store 2 (.t 4) (.t 9),none⟩,
 oo 5 (.val (.t 10))] [])
 (.seq (.ops 2 false [
 oo 11 (.fieldA 0 (.t 4)),
 oo 12 (.load (.t 11)),
 oo 13 (.val (.t 5)),
 oo 2 (.val (.t 12)),
 oo 3 (.val (.t 13))] [])
 (.ret)))
def rs19 : List RR := [.tmp 2, .tmp 3]
theorem fun19 : FunR Tryz.prog 19 rc19 rs19 14 := ⟨Tryz.f19, Tryz.func19, by kernel_rfl, by kernel_rfl, by kernel_rfl⟩
/-- causeway/outbox.Root -/
def rc20 : RC :=
 .seq (.ops 0 false [
 oo 2 (.alloc 81 (List.replicate 32 (.int .u8 0))),
 oo 3 (.val (.c (.int .i64 0)))] [])
 (.seq (.ops 1 false [
 oo 7 (.val (.t 0)),
 oo 8 (.call 37 [.t 7]),
 oo 6 (.val (.t 8)),
 oo 9 (.extract 0 (.t 6)),
 oo 10 (.extract 1 (.t 6)),
 oo 4 (.alloc 103 [(.pointer none)]),
 ⟨none,.store 1 (.t 4) (.t 9),none⟩,
 oo 5 (.val (.t 10))] [])
 (.seq (.seq (.ops 2 false [
 oo 11 (.val (.t 5)),
 oo 12 (.bin .neq (.t 11) (.c (.int .i64 0)))] [])
 (.cond (.t 12) (.seq (.ops 3 false [
 oo 13 (.build (List.replicate 32 (.int .u8 0)) []),
 oo 14 (.val (.t 5)),
 ⟨none,.store 32 (.t 2) (.t 13),none⟩,
 oo 3 (.val (.t 14))] [])
 (.ret))
 (.skip)))
 (.seq (.ops 4 false [
 oo 15 (.fieldA 0 (.t 4)),
 oo 16 (.load (.t 15)),
 oo 17 (.call 48 [.t 16]),
 ⟨none,.store 32 (.t 2) (.t 17),none⟩,
 oo 3 (.val (.c (.int .i64 0)))] [])
 (.ret))))
def rs20 : List RR := [.cell 2 (some 32), .tmp 3]
theorem fun20 : FunR Tryz.prog 20 rc20 rs20 18 := ⟨Tryz.f20, Tryz.func20, by kernel_rfl, by kernel_rfl, by kernel_rfl⟩
/-- causeway/causewayref11.Root -/
def rc21 : RC :=
 .seq (.ops 0 false [
 oo 2 (.alloc 81 (List.replicate 32 (.int .u8 0))),
 oo 3 (.val (.c (.int .i64 0)))] [])
 (.seq (.ops 1 false [
 oo 7 (.val (.t 0)),
 oo 8 (.call 43 [.t 7]),
 oo 6 (.val (.t 8)),
 oo 9 (.extract 0 (.t 6)),
 oo 10 (.extract 1 (.t 6)),
 oo 4 (.alloc 111 [(.int .i64 0),(.slice none 0 0)]),
 ⟨none,.store 2 (.t 4) (.t 9),none⟩,
 oo 5 (.val (.t 10))] [])
 (.seq (.seq (.ops 2 false [
 oo 11 (.val (.t 5)),
 oo 12 (.bin .neq (.t 11) (.c (.int .i64 0)))] [])
 (.cond (.t 12) (.seq (.ops 3 false [
 oo 13 (.build (List.replicate 32 (.int .u8 0)) []),
 oo 14 (.val (.t 5)),
 ⟨none,.store 32 (.t 2) (.t 13),none⟩,
 oo 3 (.val (.t 14))] [])
 (.ret))
 (.skip)))
 (.seq (.ops 4 false [
 oo 15 (.loadN 2 (.t 4)),
 oo 16 (.call 49 [.t 15]),
 ⟨none,.store 32 (.t 2) (.t 16),none⟩,
 oo 3 (.val (.c (.int .i64 0)))] [])
 (.ret))))
def rs21 : List RR := [.cell 2 (some 32), .tmp 3]
theorem fun21 : FunR Tryz.prog 21 rc21 rs21 17 := ⟨Tryz.f21, Tryz.func21, by kernel_rfl, by kernel_rfl, by kernel_rfl⟩
/-- (*causeway/store.State).Mark -/
def rc22 : RC :=
 .seq (.ops 0 false [
 oo 2 (.val (.c (.int .i64 0)))] [])
 (.seq (.ops 1 true [
 oo 3 (.val (.t 0)),
 oo 4 (.val (.t 0)),
 oo 5 (.nilCheck (.t 4)),
 oo 6 (.fieldA 4 (.t 5)),
 oo 7 (.load (.t 6)),
 oo 8 (.val (.t 0)),
 oo 9 (.nilCheck (.t 8)),
 oo 10 (.fieldA 3 (.t 9)),
 oo 11 (.load (.t 10)),
 oo 12 (.len (.t 11)),
 oo 13 (.buildS 3 1 [(.int .i64 0)] [(0,1,(.t 12))]),
 oo 14 (.blt .append #[68,68] 68 [.t 7,.t 13]),
 oo 15 (.nilCheck (.t 3)),
 oo 16 (.fieldA 4 (.t 15)),
 ⟨none,.store 1 (.t 16) (.t 14),none⟩] [([],[]),([],[]),([1],[1]),([2],[2]),([3],[3]),([],[]),([5],[5]),([6],[6]),([7],[7]),([8],[8]),([9],[9]),([4,10],[4,10]),([0,0,1,2,3,4,5,6,7,8,9,10,11],[0]),([12,0,1,2,3,4,5,6,7,8,9,10,11],[12]),([13,11,11,0,1,2,3,4,5,6,7,8,9,10,11],[11,13])])
 (.seq (.ops 2 false [
 oo 17 (.val (.t 0)),
 oo 18 (.nilCheck (.t 17)),
 oo 19 (.fieldA 4 (.t 18)),
 oo 20 (.load (.t 19)),
 oo 21 (.len (.t 20)),
 oo 22 (.bin .sub (.t 21) (.c (.int .i64 1))),
 oo 2 (.val (.t 22))] [])
 (.ret)))
def rs22 : List RR := [.tmp 2]
theorem fun22 : FunR Tryz.prog 22 rc22 rs22 23 := ⟨Tryz.f22, Tryz.func22, by kernel_rfl, by kernel_rfl, by kernel_rfl⟩
/-- (*causeway/causewayref07.State).Mark -/
def rc23 : RC :=
 .seq (.ops 0 false [
 oo 2 (.val (.c (.int .i64 0)))] [])
 (.seq (.ops 1 true [
 oo 3 (.val (.t 0)),
 oo 4 (.val (.t 0)),
 oo 5 (.nilCheck (.t 4)),
 oo 6 (.fieldA 5 (.t 5)),
 oo 7 (.load (.t 6)),
 oo 8 (.val (.t 0)),
 oo 9 (.nilCheck (.t 8)),
 oo 10 (.fieldA 4 (.t 9)),
 oo 11 (.load (.t 10)),
 oo 12 (.len (.t 11)),
 oo 13 (.buildS 3 1 [(.int .i64 0)] [(0,1,(.t 12))]),
 oo 14 (.blt .append #[68,68] 68 [.t 7,.t 13]),
 oo 15 (.nilCheck (.t 3)),
 oo 16 (.fieldA 5 (.t 15)),
 ⟨none,.store 1 (.t 16) (.t 14),none⟩] [([],[]),([],[]),([1],[1]),([2],[2]),([3],[3]),([],[]),([5],[5]),([6],[6]),([7],[7]),([8],[8]),([9],[9]),([4,10],[4,10]),([0,0,1,2,3,4,5,6,7,8,9,10,11],[0]),([12,0,1,2,3,4,5,6,7,8,9,10,11],[12]),([13,11,11,0,1,2,3,4,5,6,7,8,9,10,11],[11,13])])
 (.seq (.ops 2 false [
 oo 17 (.val (.t 0)),
 oo 18 (.nilCheck (.t 17)),
 oo 19 (.fieldA 5 (.t 18)),
 oo 20 (.load (.t 19)),
 oo 21 (.len (.t 20)),
 oo 22 (.bin .sub (.t 21) (.c (.int .i64 1))),
 oo 2 (.val (.t 22))] [])
 (.ret)))
def rs23 : List RR := [.tmp 2]
theorem fun23 : FunR Tryz.prog 23 rc23 rs23 23 := ⟨Tryz.f23, Tryz.func23, by kernel_rfl, by kernel_rfl, by kernel_rfl⟩
/-- (*causeway/store.State).Back -/
def rc24 : RC :=
 .seq (.ops 0 false [
 oo 4 (.val (.c (.int .i64 0)))] [])
 (.seq (.seq (.ops 1 false [
 oo 8 (.val (.t 1)),
 oo 9 (.bin .lss (.t 8) (.c (.int .i64 0))),
 oo 10 (.val (.t 9)),
 ⟨some 11,.val (.t 1),some (10,false)⟩,
 ⟨some 12,.val (.t 0),some (10,false)⟩,
 ⟨some 13,.nilCheck (.t 12),some (10,false)⟩,
 ⟨some 14,.fieldA 4 (.t 13),some (10,false)⟩,
 ⟨some 15,.load (.t 14),some (10,false)⟩,
 ⟨some 16,.len (.t 15),some (10,false)⟩,
 ⟨some 17,.bin .geq (.t 11) (.t 16),some (10,false)⟩,
 oo 18 (.pick (.t 10) (.c (.bool true)) (.t 17))] [])
 (.cond (.t 18) (.seq (.ops 2 false [
 oo 4 (.val (.c (.int .i64 72)))] [])
 (.ret))
 (.skip)))
 (.seq (.ops 3 false [
 oo 19 (.val (.t 0)),
 oo 20 (.nilCheck (.t 19)),
 oo 21 (.fieldA 4 (.t 20)),
 oo 22 (.load (.t 21)),
 oo 23 (.val (.t 1)),
 oo 24 (.indexS 1 (.t 22) (.t 23)),
 oo 25 (.load (.t 24)),
 oo 5 (.val (.t 25))] [])
 (.seq (.seq (.ops 4 false [
 oo 26 (.val (.t 0)),
 oo 27 (.nilCheck (.t 26)),
 oo 28 (.fieldA 3 (.t 27)),
 oo 29 (.load (.t 28)),
 oo 30 (.len (.t 29)),
 oo 31 (.bin .sub (.t 30) (.c (.int .i64 1))),
 oo 6 (.val (.t 31))] [])
 (.block 0 (.loop (.seq (.seq (.ops 5 false [
 oo 32 (.val (.t 6)),
 oo 33 (.val (.t 5)),
 oo 34 (.bin .geq (.t 32) (.t 33))] [])
 (.cond (.t 34) (.skip)
 (.exit 0)))
 (.seq (.block 1 (.seq (.ops 7 false [
 oo 37 (.val (.t 0)),
 oo 38 (.nilCheck (.t 37)),
 oo 39 (.fieldA 3 (.t 38)),
 oo 40 (.load (.t 39)),
 oo 41 (.val (.t 6)),
 oo 42 (.indexS 3 (.t 40) (.t 41)),
 oo 43 (.loadN 3 (.t 42)),
 oo 7 (.alloc 121 [(.string ⟨#[]⟩),(.slice none 0 0),(.bool false)]),
 ⟨none,.store 3 (.t 7) (.t 43),none⟩] [])
 (.seq (.ops 8 false [
 oo 44 (.fieldA 2 (.t 7)),
 oo 45 (.load (.t 44))] [])
 (.cond (.t 45) (.ops 9 true [
 oo 46 (.val (.t 0)),
 oo 47 (.nilCheck (.t 46)),
 oo 48 (.fieldA 2 (.t 47)),
 oo 49 (.load (.t 48)),
 oo 50 (.fieldA 0 (.t 7)),
 oo 51 (.load (.t 50)),
 oo 52 (.fieldA 1 (.t 7)),
 oo 53 (.load (.t 52)),
 ⟨none,.upd 66 (.t 49) (.t 51) (.t 53),none⟩] [([],[]),([0],[0]),([1],[1]),([2],[2]),([],[]),([4],[4]),([],[]),([6],[6]),([3,5,7,0,1,2,3,4,5,6,7],[3,5,7])])
 (.ops 10 true [
 oo 54 (.val (.t 0)),
 oo 55 (.nilCheck (.t 54)),
 oo 56 (.fieldA 2 (.t 55)),
 oo 57 (.load (.t 56)),
 oo 58 (.fieldA 0 (.t 7)),
 oo 59 (.load (.t 58)),
 ⟨none,.blt .delete #[66,9] 0 [.t 57,.t 59],none⟩] [([],[]),([0],[0]),([1],[1]),([2],[2]),([],[]),([4],[4]),([3,5],[3,5])])))))
 (.ops 6 false [
 oo 35 (.val (.t 6)),
 oo 36 (.bin .sub (.t 35) (.c (.int .i64 1))),
 oo 6 (.val (.t 36))] []))))))
 (.seq (.ops 11 false [
 oo 60 (.val (.t 0)),
 oo 61 (.val (.t 0)),
 oo 62 (.nilCheck (.t 61)),
 oo 63 (.fieldA 3 (.t 62)),
 oo 64 (.load (.t 63)),
 oo 65 (.val (.t 5)),
 oo 66 (.slice 3 (.t 64) none (some (.t 65)) none),
 oo 67 (.nilCheck (.t 60)),
 oo 68 (.fieldA 3 (.t 67)),
 ⟨none,.store 1 (.t 68) (.t 66),none⟩] [])
 (.seq (.ops 12 false [
 oo 69 (.val (.t 0)),
 oo 70 (.val (.t 0)),
 oo 71 (.nilCheck (.t 70)),
 oo 72 (.fieldA 4 (.t 71)),
 oo 73 (.load (.t 72)),
 oo 74 (.val (.t 1)),
 oo 75 (.bin .add (.t 74) (.c (.int .i64 1))),
 oo 76 (.slice 1 (.t 73) none (some (.t 75)) none),
 oo 77 (.nilCheck (.t 69)),
 oo 78 (.fieldA 4 (.t 77)),
 ⟨none,.store 1 (.t 78) (.t 76),none⟩] [])
 (.seq (.ops 13 false [
 oo 4 (.val (.c (.int .i64 0)))] [])
 (.ret)))))))
def rs24 : List RR := [.tmp 4]
theorem fun24 : FunR Tryz.prog 24 rc24 rs24 79 := ⟨Tryz.f24, Tryz.func24, by kernel_rfl, by kernel_rfl, by kernel_rfl⟩
/-- (*causeway/causewayref07.State).Back -/
def rc25 : RC :=
 .seq (.ops 0 false [
 oo 4 (.val (.c (.int .i64 0)))] [])
 (.seq (.seq (.ops 1 false [
 oo 5 (.val (.t 1)),
 oo 6 (.bin .lss (.t 5) (.c (.int .i64 0))),
 oo 7 (.val (.t 6)),
 ⟨some 8,.val (.t 1),some (7,false)⟩,
 ⟨some 9,.val (.t 0),some (7,false)⟩,
 ⟨some 10,.nilCheck (.t 9),some (7,false)⟩,
 ⟨some 11,.fieldA 5 (.t 10),some (7,false)⟩,
 ⟨some 12,.load (.t 11),some (7,false)⟩,
 ⟨some 13,.len (.t 12),some (7,false)⟩,
 ⟨some 14,.bin .geq (.t 8) (.t 13),some (7,false)⟩,
 oo 15 (.pick (.t 7) (.c (.bool true)) (.t 14))] [])
 (.cond (.t 15) (.seq (.ops 2 false [
 oo 4 (.val (.c (.int .i64 72)))] [])
 (.ret))
 (.skip)))
 (.seq (.ops 3 true [
 oo 16 (.val (.t 0)),
 oo 17 (.val (.t 0)),
 oo 18 (.nilCheck (.t 17)),
 oo 19 (.fieldA 4 (.t 18)),
 oo 20 (.load (.t 19)),
 oo 21 (.val (.t 0)),
 oo 22 (.nilCheck (.t 21)),
 oo 23 (.fieldA 5 (.t 22)),
 oo 24 (.load (.t 23)),
 oo 25 (.val (.t 1)),
 oo 26 (.indexS 1 (.t 24) (.t 25)),
 oo 27 (.load (.t 26)),
 oo 28 (.slice 2 (.t 20) none (some (.t 27)) none),
 oo 29 (.nilCheck (.t 16)),
 oo 30 (.fieldA 4 (.t 29)),
 ⟨none,.store 1 (.t 30) (.t 28),none⟩] [([],[]),([],[]),([1],[1]),([2],[2]),([3],[3]),([],[]),([5],[5]),([6],[6]),([7],[7]),([],[]),([8,9],[8,9]),([10],[10]),([4,11],[4,11]),([0,0,1,2,3,4,5,6,7,8,9,10,11,12],[0]),([13,0,1,2,3,4,5,6,7,8,9,10,11,12],[13]),([14,12,0,1,2,3,4,5,6,7,8,9,10,11,12],[12,14])])
 (.seq (.ops 4 false [
 oo 31 (.val (.t 0)),
 oo 32 (.val (.t 0)),
 oo 33 (.nilCheck (.t 32)),
 oo 34 (.fieldA 5 (.t 33)),
 oo 35 (.load (.t 34)),
 oo 36 (.val (.t 1)),
 oo 37 (.bin .add (.t 36) (.c (.int .i64 1))),
 oo 38 (.slice 1 (.t 35) none (some (.t 37)) none),
 oo 39 (.nilCheck (.t 31)),
 oo 40 (.fieldA 5 (.t 39)),
 ⟨none,.store 1 (.t 40) (.t 38),none⟩] [])
 (.seq (.ops 5 false [
 oo 4 (.val (.c (.int .i64 0)))] [])
 (.ret)))))
def rs25 : List RR := [.tmp 4]
theorem fun25 : FunR Tryz.prog 25 rc25 rs25 41 := ⟨Tryz.f25, Tryz.func25, by kernel_rfl, by kernel_rfl, by kernel_rfl⟩
/-- (*causeway/store.State).Touched -/
def rc26 : RC :=
 .seq (.ops 0 false [
 oo 2 (.val (.c (.slice none 0 0)))] [])
 (.seq (.ops 1 false [
 oo 3 (.val (.t 0)),
 oo 4 (.nilCheck (.t 3)),
 oo 5 (.fieldA 1 (.t 4)),
 oo 6 (.load (.t 5)),
 oo 7 (.call 51 [.t 6]),
 oo 8 (.call 50 [.t 7]),
 oo 2 (.val (.t 8))] [])
 (.ret))
def rs26 : List RR := [.tmp 2]
theorem fun26 : FunR Tryz.prog 26 rc26 rs26 9 := ⟨Tryz.f26, Tryz.func26, by kernel_rfl, by kernel_rfl, by kernel_rfl⟩
/-- (*causeway/causewayref07.State).Touched -/
def rc27 : RC :=
 .seq (.ops 0 false [
 oo 2 (.val (.c (.slice none 0 0)))] [])
 (.seq (.ops 1 false [
 oo 3 (.val (.c (.slice none 0 0)))] [])
 (.seq (.seq (.ops 2 false [
 oo 4 (.val (.c (.int .i64 0)))] [])
 (.block 0 (.loop (.seq (.seq (.ops 3 false [
 oo 5 (.val (.t 4)),
 oo 6 (.val (.t 0)),
 oo 7 (.nilCheck (.t 6)),
 oo 8 (.fieldA 3 (.t 7)),
 oo 9 (.load (.t 8)),
 oo 10 (.len (.t 9)),
 oo 11 (.bin .lss (.t 5) (.t 10))] [])
 (.cond (.t 11) (.skip)
 (.exit 0)))
 (.seq (.block 1 (.ops 5 false [
 oo 14 (.val (.t 3)),
 oo 15 (.val (.t 0)),
 oo 16 (.nilCheck (.t 15)),
 oo 17 (.fieldA 3 (.t 16)),
 oo 18 (.load (.t 17)),
 oo 19 (.val (.t 4)),
 oo 20 (.indexS 2 (.t 18) (.t 19)),
 oo 21 (.fieldA 0 (.t 20)),
 oo 22 (.load (.t 21)),
 oo 23 (.buildS 9 1 [(.string ⟨#[]⟩)] [(0,1,(.t 22))]),
 oo 24 (.blt .append #[86,86] 86 [.t 14,.t 23]),
 oo 3 (.val (.t 24))] []))
 (.ops 4 false [
 oo 12 (.val (.t 4)),
 oo 13 (.bin .add (.t 12) (.c (.int .i64 1))),
 oo 4 (.val (.t 13))] []))))))
 (.seq (.ops 6 false [
 oo 25 (.val (.t 3)),
 oo 2 (.val (.t 25))] [])
 (.ret))))
def rs27 : List RR := [.tmp 2]
theorem fun27 : FunR Tryz.prog 27 rc27 rs27 26 := ⟨Tryz.f27, Tryz.func27, by kernel_rfl, by kernel_rfl, by kernel_rfl⟩
/-- (*causeway/store.State).Changes -/
def rc28 : RC :=
 .seq (.ops 0 false [
 oo 2 (.val (.c (.slice none 0 0)))] [])
 (.seq (.ops 1 false [
 oo 3 (.val (.c (.slice none 0 0)))] [])
 (.seq (.seq (.ops 2 false [
 oo 7 (.val (.t 0)),
 oo 8 (.call 26 [.t 7]),
 oo 9 (.len (.t 8)),
 oo 10 (.val (.c (.int .i64 0)))] [])
 (.block 0 (.loop (.seq (.ops 3 false [
 oo 11 (.bin .lss (.t 10) (.t 9))] [])
 (.seq (.cond (.t 11) (.skip)
 (.exit 0))
 (.seq (.block 1 (.seq (.ops 4 false [
 oo 12 (.indexS 1 (.t 8) (.t 10)),
 oo 13 (.load (.t 12)),
 oo 5 (.val (.t 13))] [])
 (.seq (.ops 5 false [
 oo 14 (.val (.t 0)),
 oo 15 (.val (.t 5)),
 oo 16 (.call 52 [.t 14,.t 15]),
 oo 6 (.val (.t 16))] [])
 (.seq (.ops 6 false [
 oo 17 (.val (.t 6)),
 oo 18 (.val (.t 0)),
 oo 19 (.nilCheck (.t 18)),
 oo 20 (.fieldA 1 (.t 19)),
 oo 21 (.load (.t 20)),
 oo 22 (.val (.t 5)),
 oo 23 (.look 66 (.t 21) (.t 22) false),
 oo 24 (.call 53 [.t 17,.t 23]),
 oo 25 (.not (.t 24))] [])
 (.cond (.t 25) (.ops 7 false [
 oo 26 (.val (.t 3)),
 oo 27 (.val (.t 5)),
 oo 28 (.val (.t 0)),
 oo 29 (.nilCheck (.t 28)),
 oo 30 (.fieldA 1 (.t 29)),
 oo 31 (.load (.t 30)),
 oo 32 (.val (.t 5)),
 oo 33 (.look 66 (.t 31) (.t 32) false),
 oo 34 (.call 54 [.t 33]),
 oo 35 (.val (.t 6)),
 oo 36 (.call 54 [.t 35]),
 oo 37 (.build [(.string ⟨#[]⟩),(.slice none 0 0),(.slice none 0 0)] [(0,1,(.t 27)),(1,1,(.t 34)),(2,1,(.t 36))]),
 oo 38 (.buildS 91 1 [(.string ⟨#[]⟩),(.slice none 0 0),(.slice none 0 0)] [(0,3,(.t 37))]),
 oo 39 (.blt .append #[88,88] 88 [.t 26,.t 38]),
 oo 3 (.val (.t 39))] [])
 (.skip))))))
 (.ops 8 false [
 oo 40 (.bin .add (.t 10) (.c (.int .i64 1))),
 oo 10 (.val (.t 40))] [])))))))
 (.seq (.ops 9 false [
 oo 41 (.val (.t 3)),
 oo 2 (.val (.t 41))] [])
 (.ret))))
def rs28 : List RR := [.tmp 2]
theorem fun28 : FunR Tryz.prog 28 rc28 rs28 42 := ⟨Tryz.f28, Tryz.func28, by kernel_rfl, by kernel_rfl, by kernel_rfl⟩
/-- (*causeway/causewayref07.State).Changes -/
def rc29 : RC :=
 .seq (.ops 0 false [
 oo 2 (.val (.c (.slice none 0 0)))] [])
 (.seq (.ops 1 false [
 oo 3 (.val (.c (.slice none 0 0)))] [])
 (.seq (.seq (.ops 2 false [
 oo 4 (.val (.c (.int .i64 0)))] [])
 (.block 0 (.loop (.seq (.seq (.ops 3 false [
 oo 6 (.val (.t 4)),
 oo 7 (.val (.t 0)),
 oo 8 (.nilCheck (.t 7)),
 oo 9 (.fieldA 3 (.t 8)),
 oo 10 (.load (.t 9)),
 oo 11 (.len (.t 10)),
 oo 12 (.bin .lss (.t 6) (.t 11))] [])
 (.cond (.t 12) (.skip)
 (.exit 0)))
 (.seq (.block 1 (.seq (.ops 5 false [
 oo 15 (.val (.t 0)),
 oo 16 (.val (.t 0)),
 oo 17 (.nilCheck (.t 16)),
 oo 18 (.fieldA 3 (.t 17)),
 oo 19 (.load (.t 18)),
 oo 20 (.val (.t 4)),
 oo 21 (.indexS 2 (.t 19) (.t 20)),
 oo 22 (.fieldA 0 (.t 21)),
 oo 23 (.load (.t 22)),
 oo 24 (.call 55 [.t 15,.t 23]),
 oo 5 (.val (.t 24))] [])
 (.seq (.ops 6 true [
 oo 25 (.val (.t 5)),
 oo 26 (.cvt 22 9 (.t 25)),
 oo 27 (.val (.t 0)),
 oo 28 (.nilCheck (.t 27)),
 oo 29 (.fieldA 3 (.t 28)),
 oo 30 (.load (.t 29)),
 oo 31 (.val (.t 4)),
 oo 32 (.indexS 2 (.t 30) (.t 31)),
 oo 33 (.fieldA 1 (.t 32)),
 oo 34 (.load (.t 33)),
 oo 35 (.cvt 22 9 (.t 34)),
 oo 36 (.eqp .str true (.t 26) (.t 35))] [([],[]),([0],[0]),([],[]),([2],[2]),([3],[3]),([4],[4]),([],[]),([5,6],[5,6]),([7],[7]),([8],[8]),([9],[9]),([1,10],[1,10])])
 (.cond (.t 36) (.ops 7 true [
 oo 37 (.val (.t 3)),
 oo 38 (.val (.t 0)),
 oo 39 (.nilCheck (.t 38)),
 oo 40 (.fieldA 3 (.t 39)),
 oo 41 (.load (.t 40)),
 oo 42 (.val (.t 4)),
 oo 43 (.indexS 2 (.t 41) (.t 42)),
 oo 44 (.fieldA 0 (.t 43)),
 oo 45 (.load (.t 44)),
 oo 46 (.val (.t 0)),
 oo 47 (.nilCheck (.t 46)),
 oo 48 (.fieldA 3 (.t 47)),
 oo 49 (.load (.t 48)),
 oo 50 (.val (.t 4)),
 oo 51 (.indexS 2 (.t 49) (.t 50)),
 oo 52 (.fieldA 1 (.t 51)),
 oo 53 (.load (.t 52)),
 oo 54 (.call 56 [.t 53]),
 oo 55 (.val (.t 5)),
 oo 56 (.call 56 [.t 55]),
 oo 57 (.build [(.string ⟨#[]⟩),(.slice none 0 0),(.slice none 0 0)] [(0,1,(.t 45)),(1,1,(.t 54)),(2,1,(.t 56))]),
 oo 58 (.buildS 91 1 [(.string ⟨#[]⟩),(.slice none 0 0),(.slice none 0 0)] [(0,3,(.t 57))]),
 oo 59 (.blt .append #[88,88] 88 [.t 37,.t 58]),
 oo 3 (.val (.t 59))] [([],[]),([],[]),([1],[1]),([2],[2]),([3],[3]),([],[]),([4,5],[4,5]),([6],[6]),([7],[7]),([],[]),([9],[9]),([10],[10]),([11],[11]),([],[]),([12,13],[12,13]),([14],[14]),([15],[15]),([16],[16]),([],[]),([18,17],[18]),([8,17,19],[8,17,19]),([20],[20]),([0,21,19],[0,21]),([22,22,0,1,2,3,4,5,6,7,8,9,10,11,12,13,14,15,16,17,18,19,20,21,22],[0,22])])
 (.skip)))))
 (.ops 4 false [
 oo 13 (.val (.t 4)),
 oo 14 (.bin .add (.t 13) (.c (.int .i64 1))),
 oo 4 (.val (.t 14))] []))))))
 (.seq (.ops 8 false [
 oo 60 (.val (.t 3)),
 oo 2 (.val (.t 60))] [])
 (.ret))))
def rs29 : List RR := [.tmp 2]
theorem fun29 : FunR Tryz.prog 29 rc29 rs29 61 := ⟨Tryz.f29, Tryz.func29, by kernel_rfl, by kernel_rfl, by kernel_rfl⟩
/-- causeway/outbox.may -/
def rc30 : RC :=
 .seq (.ops 0 false [
 oo 1 (.box 45 (.t 0)),
 oo 2 (.val (.c (.bool false)))] [])
 (.seq (.ops 1 false [
 oo 3 (.fieldA 0 (.t 1)),
 oo 4 (.load (.t 3)),
 oo 5 (.call 57 [.t 4]),
 oo 6 (.val (.t 5)),
 ⟨some 7,.fieldA 1 (.t 1),some (6,true)⟩,
 ⟨some 8,.load (.t 7),some (6,true)⟩,
 ⟨some 9,.call 57 [.t 8],some (6,true)⟩,
 oo 10 (.pick (.t 6) (.t 9) (.c (.bool false))),
 oo 11 (.val (.t 10)),
 ⟨some 12,.fieldA 2 (.t 1),some (11,true)⟩,
 ⟨some 13,.load (.t 12),some (11,true)⟩,
 ⟨some 14,.bin .geq (.t 13) (.c (.int .i64 0)),some (11,true)⟩,
 oo 15 (.pick (.t 11) (.t 14) (.c (.bool false))),
 oo 16 (.val (.t 15)),
 ⟨some 17,.fieldA 2 (.t 1),some (16,true)⟩,
 ⟨some 18,.load (.t 17),some (16,true)⟩,
 ⟨some 19,.bin .lss (.t 18) (.c (.int .i64 64)),some (16,true)⟩,
 oo 20 (.pick (.t 16) (.t 19) (.c (.bool false))),
 oo 21 (.val (.t 20)),
 ⟨some 22,.fieldA 23 (.t 1),some (21,true)⟩,
 ⟨some 23,.loadN 4 (.t 22),some (21,true)⟩,
 ⟨some 24,.call 58 [.t 23],some (21,true)⟩,
 ⟨some 25,.not (.t 24),some (21,true)⟩,
 oo 26 (.pick (.t 21) (.t 25) (.c (.bool false))),
 oo 2 (.val (.t 26))] [])
 (.ret))
def rs30 : List RR := [.tmp 2]
theorem fun30 : FunR Tryz.prog 30 rc30 rs30 27 := ⟨Tryz.f30, Tryz.func30, by kernel_rfl, by kernel_rfl, by kernel_rfl⟩
/-- causeway/wire.NewWriter -/
def rc31 : RC :=
 .seq (.ops 0 false [
 oo 0 (.val (.c (.pointer none)))] [])
 (.seq (.ops 1 false [
 oo 1 (.build [(.slice none 0 0),(.int .i64 0)] []),
 oo 2 (.box 131 (.t 1)),
 oo 0 (.val (.t 2))] [])
 (.ret))
def rs31 : List RR := [.tmp 0]
theorem fun31 : FunR Tryz.prog 31 rc31 rs31 3 := ⟨Tryz.f31, Tryz.func31, by kernel_rfl, by kernel_rfl, by kernel_rfl⟩
/-- (*causeway/wire.Writer).Byte -/
def rc32 : RC :=
 .ops 0 false [
 oo 4 (.val (.t 0)),
 oo 5 (.val (.t 1)),
 oo 6 (.buildS 5 1 [(.int .u8 0)] [(0,1,(.t 5))]),
 oo 7 (.buildS 22 1 [(.slice none 0 0)] [(0,1,(.t 6))]),
 oo 8 (.call 59 [.t 4,.t 7])] []
def rs32 : List RR := []
theorem fun32 : FunR Tryz.prog 32 rc32 rs32 9 := ⟨Tryz.f32, Tryz.func32, by kernel_rfl, by kernel_rfl, by kernel_rfl⟩
/-- (*causeway/wire.Writer).Number -/
def rc33 : RC :=
 .seq (.seq (.ops 0 false [
 oo 4 (.val (.t 1)),
 oo 5 (.bin .lss (.t 4) (.c (.int .i64 0)))] [])
 (.cond (.t 5) (.seq (.seq (.ops 1 false [
 oo 6 (.val (.t 0)),
 oo 7 (.nilCheck (.t 6)),
 oo 8 (.fieldA 1 (.t 7)),
 oo 9 (.load (.t 8)),
 oo 10 (.bin .eql (.t 9) (.c (.int .i64 0)))] [])
 (.cond (.t 10) (.ops 2 false [
 oo 11 (.val (.t 0)),
 oo 12 (.nilCheck (.t 11)),
 oo 13 (.fieldA 1 (.t 12)),
 ⟨none,.store 1 (.t 13) (.c (.int .i64 32)),none⟩] [])
 (.skip)))
 (.ret))
 (.skip)))
 (.ops 3 false [
 oo 14 (.val (.t 0)),
 oo 15 (.val (.t 1)),
 oo 16 (.call 60 [.t 15]),
 oo 17 (.buildS 22 1 [(.slice none 0 0)] [(0,1,(.t 16))]),
 oo 18 (.call 59 [.t 14,.t 17])] [])
def rs33 : List RR := []
theorem fun33 : FunR Tryz.prog 33 rc33 rs33 19 := ⟨Tryz.f33, Tryz.func33, by kernel_rfl, by kernel_rfl, by kernel_rfl⟩
/-- (*causeway/wire.Writer).Address -/
def rc34 : RC :=
 .seq (.ops 0 false [
 oo 3 (.box 40 (.t 1))] [])
 (.ops 1 false [
 oo 4 (.val (.t 0)),
 oo 5 (.sliceA 20 1 (.t 3) none none),
 oo 6 (.buildS 22 1 [(.slice none 0 0)] [(0,1,(.t 5))]),
 oo 7 (.call 59 [.t 4,.t 6])] [])
def rs34 : List RR := []
theorem fun34 : FunR Tryz.prog 34 rc34 rs34 8 := ⟨Tryz.f34, Tryz.func34, by kernel_rfl, by kernel_rfl, by kernel_rfl⟩
/-- (*causeway/wire.Writer).Wide -/
def rc35 : RC :=
 .seq (.ops 0 false [
 oo 3 (.box 43 (.t 1))] [])
 (.seq (.ops 1 false [
 oo 4 (.alloc 80 (List.replicate 32 (.int .u8 0)))] [])
 (.seq (.seq (.ops 2 false [
 oo 6 (.val (.c (.int .i64 0)))] [])
 (.block 0 (.loop (.seq (.ops 3 false [
 oo 7 (.bin .lss (.t 6) (.c (.int .i64 32)))] [])
 (.seq (.cond (.t 7) (.skip)
 (.exit 0))
 (.seq (.block 1 (.seq (.ops 4 false [
 oo 8 (.val (.t 6)),
 oo 5 (.val (.t 8))] [])
 (.ops 5 false [
 oo 9 (.val (.t 5)),
 oo 10 (.val (.t 5)),
 oo 11 (.bin .quo (.t 10) (.c (.int .i64 8))),
 oo 12 (.bin .sub (.c (.int .i64 3)) (.t 11)),
 oo 13 (.indexA 4 1 (.t 3) (.t 12)),
 oo 14 (.load (.t 13)),
 oo 15 (.val (.t 5)),
 oo 16 (.bin .rem (.t 15) (.c (.int .i64 8))),
 oo 17 (.bin .mul (.c (.int .i64 8)) (.t 16)),
 oo 18 (.bin .sub (.c (.int .i64 56)) (.t 17)),
 oo 19 (.bin .shr (.t 14) (.t 18)),
 oo 20 (.conv .u8 (.t 19)),
 oo 21 (.indexA 32 1 (.t 4) (.t 9)),
 ⟨none,.store 1 (.t 21) (.t 20),none⟩] [])))
 (.ops 6 false [
 oo 22 (.bin .add (.t 6) (.c (.int .i64 1))),
 oo 6 (.val (.t 22))] [])))))))
 (.ops 7 false [
 oo 23 (.val (.t 0)),
 oo 24 (.sliceA 32 1 (.t 4) none none),
 oo 25 (.call 61 [.t 24]),
 oo 26 (.buildS 22 1 [(.slice none 0 0)] [(0,1,(.t 25))]),
 oo 27 (.call 59 [.t 23,.t 26])] [])))
def rs35 : List RR := []
theorem fun35 : FunR Tryz.prog 35 rc35 rs35 28 := ⟨Tryz.f35, Tryz.func35, by kernel_rfl, by kernel_rfl, by kernel_rfl⟩
/-- (*causeway/wire.Writer).Done -/
def rc36 : RC :=
 .seq (.ops 0 false [
 oo 2 (.val (.c (.slice none 0 0))),
 oo 3 (.val (.c (.int .i64 0)))] [])
 (.seq (.seq (.ops 1 false [
 oo 4 (.val (.t 0)),
 oo 5 (.nilCheck (.t 4)),
 oo 6 (.fieldA 1 (.t 5)),
 oo 7 (.load (.t 6)),
 oo 8 (.bin .neq (.t 7) (.c (.int .i64 0)))] [])
 (.cond (.t 8) (.seq (.ops 2 true [
 oo 9 (.val (.t 0)),
 oo 10 (.nilCheck (.t 9)),
 oo 11 (.fieldA 1 (.t 10)),
 oo 12 (.load (.t 11)),
 oo 2 (.val (.c (.slice none 0 0))),
 oo 3 (.val (.t 12))] [([],[]),([0],[0]),([1],[1]),([2],[2]),([],[]),([3,4,0,1,2,3,4],[3])])
 (.ret))
 (.skip)))
 (.seq (.ops 3 false [
 oo 13 (.val (.t 0)),
 oo 14 (.nilCheck (.t 13)),
 oo 15 (.fieldA 0 (.t 14)),
 oo 16 (.load (.t 15)),
 oo 17 (.call 54 [.t 16]),
 oo 2 (.val (.t 17)),
 oo 3 (.val (.c (.int .i64 0)))] [])
 (.ret)))
def rs36 : List RR := [.tmp 2, .tmp 3]
theorem fun36 : FunR Tryz.prog 36 rc36 rs36 18 := ⟨Tryz.f36, Tryz.func36, by kernel_rfl, by kernel_rfl, by kernel_rfl⟩
/-- causeway/outbox.ask -/
def rc37 : RC :=
 .seq (.ops 0 false [
 oo 2 (.alloc 103 [(.pointer none)]),
 oo 3 (.val (.c (.int .i64 0)))] [])
 (.seq (.seq (.ops 1 false [
 oo 11 (.val (.t 0)),
 oo 12 (.eqp .ptr false (.t 11) (.c (.pointer none)))] [])
 (.cond (.t 12) (.seq (.ops 2 false [
 oo 13 (.build [(.pointer none)] []),
 ⟨none,.store 1 (.t 2) (.t 13),none⟩,
 oo 3 (.val (.c (.int .i64 1)))] [])
 (.ret))
 (.skip)))
 (.seq (.ops 3 false [
 oo 15 (.val (.t 0)),
 oo 16 (.call 62 [(.t 15),(.c (.string ⟨#[111]⟩))]),
 oo 14 (.val (.t 16)),
 oo 17 (.extract 0 (.t 14)),
 oo 18 (.extract 1 (.t 14)),
 oo 4 (.val (.t 17)),
 oo 5 (.val (.t 18))] [])
 (.seq (.block 0 (.seq (.ops 4 false [
 oo 20 (.val (.t 5)),
 oo 21 (.bin .neq (.t 20) (.c (.int .i64 0))),
 oo 19 (.val (.t 21))] [])
 (.cond (.t 19) (.seq (.ops 5 false [
 oo 22 (.build [(.pointer none)] []),
 oo 23 (.val (.t 5)),
 ⟨none,.store 1 (.t 2) (.t 22),none⟩,
 oo 3 (.val (.t 23))] [])
 (.ret))
 (.seq (.ops 6 false [
 oo 25 (.val (.t 4)),
 oo 26 (.len (.t 25)),
 oo 27 (.bin .eql (.t 26) (.c (.int .i64 0))),
 oo 24 (.val (.t 27))] [])
 (.cond (.t 24) (.seq (.ops 7 false [
 oo 28 (.call 63 []),
 oo 29 (.build [(.pointer none)] [(0,1,(.t 28))]),
 ⟨none,.store 1 (.t 2) (.t 29),none⟩,
 oo 3 (.val (.c (.int .i64 0)))] [])
 (.ret))
 (.seq (.ops 8 false [
 oo 31 (.val (.t 4)),
 oo 32 (.len (.t 31)),
 oo 33 (.bin .rem (.t 32) (.c (.int .i64 32))),
 oo 34 (.bin .neq (.t 33) (.c (.int .i64 8))),
 oo 35 (.val (.t 34)),
 ⟨some 36,.val (.t 4),some (35,false)⟩,
 ⟨some 37,.indexS 1 (.t 36) (.c (.int .i64 0)),some (35,false)⟩,
 ⟨some 38,.load (.t 37),some (35,false)⟩,
 ⟨some 39,.bin .neq (.t 38) (.c (.int .u8 0)),some (35,false)⟩,
 oo 40 (.pick (.t 35) (.c (.bool true)) (.t 39)),
 oo 41 (.val (.t 40)),
 ⟨some 42,.val (.t 4),some (41,false)⟩,
 ⟨some 43,.indexS 1 (.t 42) (.c (.int .i64 1)),some (41,false)⟩,
 ⟨some 44,.load (.t 43),some (41,false)⟩,
 ⟨some 45,.bin .neq (.t 44) (.c (.int .u8 0)),some (41,false)⟩,
 oo 46 (.pick (.t 41) (.c (.bool true)) (.t 45)),
 oo 30 (.val (.t 46))] [])
 (.cond (.t 30) (.seq (.ops 9 false [
 oo 47 (.build [(.pointer none)] []),
 ⟨none,.store 1 (.t 2) (.t 47),none⟩,
 oo 3 (.val (.c (.int .i64 75)))] [])
 (.ret))
 (.skip))))))))
 (.seq (.ops 10 false [
 oo 6 (.val (.c (.int .i64 0)))] [])
 (.seq (.seq (.ops 11 false [
 oo 48 (.val (.t 4)),
 oo 49 (.slice 1 (.t 48) none (some (.c (.int .i64 8))) none),
 oo 50 (.len (.t 49)),
 oo 51 (.val (.c (.int .i64 0)))] [])
 (.block 1 (.loop (.seq (.ops 12 false [
 oo 52 (.bin .lss (.t 51) (.t 50))] [])
 (.seq (.cond (.t 52) (.skip)
 (.exit 1))
 (.seq (.block 2 (.seq (.ops 13 false [
 oo 53 (.indexS 1 (.t 49) (.t 51)),
 oo 54 (.load (.t 53)),
 oo 8 (.val (.t 54))] [])
 (.ops 14 false [
 oo 55 (.val (.t 6)),
 oo 56 (.bin .shl (.t 55) (.c (.int .u64 8))),
 oo 57 (.val (.t 8)),
 oo 58 (.conv .i64 (.t 57)),
 oo 59 (.bin .or (.t 56) (.t 58)),
 oo 6 (.val (.t 59))] [])))
 (.ops 15 false [
 oo 60 (.bin .add (.t 51) (.c (.int .i64 1))),
 oo 51 (.val (.t 60))] [])))))))
 (.seq (.ops 16 false [
 oo 9 (.val (.c (.slice none 0 0)))] [])
 (.seq (.seq (.ops 17 false [
 oo 61 (.val (.t 4)),
 oo 62 (.slice 1 (.t 61) (some (.c (.int .i64 8))) none none),
 oo 4 (.val (.t 62))] [])
 (.block 3 (.loop (.seq (.seq (.ops 18 false [
 oo 63 (.val (.t 4)),
 oo 64 (.len (.t 63)),
 oo 65 (.bin .gtr (.t 64) (.c (.int .i64 0)))] [])
 (.cond (.t 65) (.skip)
 (.exit 3)))
 (.seq (.block 4 (.ops 20 false [
 oo 68 (.val (.t 9)),
 oo 69 (.val (.t 4)),
 oo 70 (.slice 1 (.t 69) none (some (.c (.int .i64 32))) none),
 oo 71 (.arrp 81 (.t 70)),
 oo 72 (.loadN 32 (.t 71)),
 oo 73 (.buildS 81 1 (List.replicate 32 (.int .u8 0)) [(0,32,(.t 72))]),
 oo 74 (.blt .append #[109,109] 109 [.t 68,.t 73]),
 oo 9 (.val (.t 74))] []))
 (.ops 19 false [
 oo 66 (.val (.t 4)),
 oo 67 (.slice 1 (.t 66) (some (.c (.int .i64 32))) none none),
 oo 4 (.val (.t 67))] []))))))
 (.seq (.ops 21 false [
 oo 76 (.val (.t 6)),
 oo 77 (.val (.t 9)),
 oo 78 (.call 64 [.t 76,.t 77]),
 oo 75 (.val (.t 78)),
 oo 79 (.extract 0 (.t 75)),
 oo 80 (.extract 1 (.t 75)),
 oo 10 (.val (.t 79)),
 oo 5 (.val (.t 80))] [])
 (.seq (.seq (.ops 22 false [
 oo 81 (.val (.t 5)),
 oo 82 (.bin .neq (.t 81) (.c (.int .i64 0))),
 oo 83 (.val (.t 82)),
 ⟨some 84,.val (.t 6),some (83,false)⟩,
 ⟨some 85,.bin .eql (.t 84) (.c (.int .i64 0)),some (83,false)⟩,
 oo 86 (.pick (.t 83) (.c (.bool true)) (.t 85))] [])
 (.cond (.t 86) (.seq (.ops 23 false [
 oo 87 (.build [(.pointer none)] []),
 ⟨none,.store 1 (.t 2) (.t 87),none⟩,
 oo 3 (.val (.c (.int .i64 75)))] [])
 (.ret))
 (.skip)))
 (.seq (.ops 24 false [
 oo 88 (.val (.t 10)),
 oo 89 (.build [(.pointer none)] [(0,1,(.t 88))]),
 ⟨none,.store 1 (.t 2) (.t 89),none⟩,
 oo 3 (.val (.c (.int .i64 0)))] [])
 (.ret)))))))))))
def rs37 : List RR := [.cell 2 (some 1), .tmp 3]
theorem fun37 : FunR Tryz.prog 37 rc37 rs37 90 := ⟨Tryz.f37, Tryz.func37, by kernel_rfl, by kernel_rfl, by kernel_rfl⟩
/-- (*causeway/tree.Log).Size -/
def rc38 : RC :=
 .seq (.ops 0 false [
 oo 2 (.val (.c (.int .i64 0)))] [])
 (.seq (.ops 1 false [
 oo 3 (.val (.t 0)),
 oo 4 (.nilCheck (.t 3)),
 oo 5 (.fieldA 0 (.t 4)),
 oo 6 (.load (.t 5)),
 oo 2 (.val (.t 6))] [])
 (.ret))
def rs38 : List RR := [.tmp 2]
theorem fun38 : FunR Tryz.prog 38 rc38 rs38 7 := ⟨Tryz.f38, Tryz.func38, by kernel_rfl, by kernel_rfl, by kernel_rfl⟩
/-- (*causeway/tree.Log).Add -/
def rc39 : RC :=
 .seq (.ops 0 false [
 oo 4 (.val (.c (.int .i64 0)))] [])
 (.seq (.seq (.ops 1 false [
 oo 7 (.val (.t 0)),
 oo 8 (.nilCheck (.t 7)),
 oo 9 (.fieldA 0 (.t 8)),
 oo 10 (.load (.t 9)),
 oo 11 (.bin .geq (.t 10) (.c (.int .i64 1099511627776)))] [])
 (.cond (.t 11) (.seq (.ops 2 false [
 oo 4 (.val (.c (.int .i64 (-1))))] [])
 (.ret))
 (.skip)))
 (.seq (.ops 3 false [
 oo 12 (.val (.t 1)),
 oo 13 (.call 65 [.t 12]),
 oo 5 (.alloc 81 (List.replicate 32 (.int .u8 0))),
 ⟨none,.store 32 (.t 5) (.t 13),none⟩] [])
 (.seq (.seq (.ops 4 false [
 oo 14 (.val (.t 0)),
 oo 15 (.nilCheck (.t 14)),
 oo 16 (.fieldA 0 (.t 15)),
 oo 17 (.load (.t 16)),
 oo 18 (.conv .u64 (.t 17)),
 oo 19 (.bnot (.t 18)),
 oo 20 (.call 66 [.t 19]),
 oo 21 (.val (.c (.int .i64 0)))] [])
 (.block 0 (.loop (.seq (.ops 5 false [
 oo 22 (.bin .lss (.t 21) (.t 20))] [])
 (.seq (.cond (.t 22) (.skip)
 (.exit 0))
 (.seq (.block 1 (.seq (.ops 6 false [
 oo 23 (.val (.t 0)),
 oo 24 (.nilCheck (.t 23)),
 oo 25 (.fieldA 1 (.t 24)),
 oo 26 (.load (.t 25)),
 oo 27 (.len (.t 26)),
 oo 28 (.bin .sub (.t 27) (.c (.int .i64 1))),
 oo 6 (.val (.t 28))] [])
 (.seq (.ops 7 true [
 oo 29 (.val (.t 0)),
 oo 30 (.nilCheck (.t 29)),
 oo 31 (.fieldA 1 (.t 30)),
 oo 32 (.load (.t 31)),
 oo 33 (.val (.t 6)),
 oo 34 (.indexS 32 (.t 32) (.t 33)),
 oo 35 (.loadN 32 (.t 34)),
 oo 36 (.loadN 32 (.t 5)),
 oo 37 (.call 67 [.t 35,.t 36]),
 ⟨none,.store 32 (.t 5) (.t 37),none⟩] [([],[]),([0],[0]),([1],[1]),([2],[2]),([],[]),([3,4],[3,4]),([5],[5]),([],[]),([6,7],[6,7]),([8,8,0,1,2,3,4,5,6,7,8],[8])])
 (.ops 8 false [
 oo 38 (.val (.t 0)),
 oo 39 (.val (.t 0)),
 oo 40 (.nilCheck (.t 39)),
 oo 41 (.fieldA 1 (.t 40)),
 oo 42 (.load (.t 41)),
 oo 43 (.val (.t 6)),
 oo 44 (.slice 32 (.t 42) none (some (.t 43)) none),
 oo 45 (.nilCheck (.t 38)),
 oo 46 (.fieldA 1 (.t 45)),
 ⟨none,.store 1 (.t 46) (.t 44),none⟩] []))))
 (.ops 9 false [
 oo 47 (.bin .add (.t 21) (.c (.int .i64 1))),
 oo 21 (.val (.t 47))] [])))))))
 (.seq (.ops 10 true [
 oo 48 (.val (.t 0)),
 oo 49 (.val (.t 0)),
 oo 50 (.nilCheck (.t 49)),
 oo 51 (.fieldA 1 (.t 50)),
 oo 52 (.load (.t 51)),
 oo 53 (.loadN 32 (.t 5)),
 oo 54 (.buildS 81 1 (List.replicate 32 (.int .u8 0)) [(0,32,(.t 53))]),
 oo 55 (.blt .append #[109,109] 109 [.t 52,.t 54]),
 oo 56 (.nilCheck (.t 48)),
 oo 57 (.fieldA 1 (.t 56)),
 ⟨none,.store 1 (.t 57) (.t 55),none⟩] [([],[]),([],[]),([1],[1]),([2],[2]),([3],[3]),([],[]),([5],[5]),([4,6],[4,6]),([0,0,1,2,3,4,5,6,7],[0]),([8,0,1,2,3,4,5,6,7],[8]),([9,7,7,0,1,2,3,4,5,6,7],[7,9])])
 (.seq (.ops 11 false [
 oo 58 (.val (.t 0)),
 oo 59 (.nilCheck (.t 58)),
 oo 60 (.fieldA 0 (.t 59)),
 oo 61 (.load (.t 60)),
 oo 62 (.bin .add (.t 61) (.c (.int .i64 1))),
 oo 63 (.nilCheck (.t 58)),
 oo 64 (.fieldA 0 (.t 63)),
 ⟨none,.store 1 (.t 64) (.t 62),none⟩] [])
 (.seq (.ops 12 false [
 oo 65 (.val (.t 0)),
 oo 66 (.nilCheck (.t 65)),
 oo 67 (.fieldA 0 (.t 66)),
 oo 68 (.load (.t 67)),
 oo 69 (.bin .sub (.t 68) (.c (.int .i64 1))),
 oo 4 (.val (.t 69))] [])
 (.ret)))))))
def rs39 : List RR := [.tmp 4]
theorem fun39 : FunR Tryz.prog 39 rc39 rs39 70 := ⟨Tryz.f39, Tryz.func39, by kernel_rfl, by kernel_rfl, by kernel_rfl⟩
/-- (*causeway/store.State).Put -/
def rc40 : RC :=
 .seq (.ops 0 false [
 oo 6 (.val (.c (.int .i64 0)))] [])
 (.seq (.seq (.ops 1 false [
 oo 11 (.val (.t 1)),
 oo 12 (.val (.t 2)),
 oo 13 (.call 68 [.t 11,.t 12]),
 oo 7 (.val (.t 13))] [])
 (.seq (.ops 2 false [
 oo 14 (.val (.t 7)),
 oo 15 (.bin .neq (.t 14) (.c (.int .i64 0)))] [])
 (.cond (.t 15) (.seq (.ops 3 false [
 oo 16 (.val (.t 7)),
 oo 6 (.val (.t 16))] [])
 (.ret))
 (.skip))))
 (.seq (.seq (.ops 4 false [
 oo 17 (.val (.t 0)),
 oo 18 (.val (.t 1)),
 oo 19 (.call 69 [.t 17,.t 18]),
 oo 8 (.val (.t 19))] [])
 (.seq (.ops 5 false [
 oo 20 (.val (.t 8)),
 oo 21 (.bin .neq (.t 20) (.c (.int .i64 0)))] [])
 (.cond (.t 21) (.seq (.ops 6 false [
 oo 22 (.val (.t 8)),
 oo 6 (.val (.t 22))] [])
 (.ret))
 (.skip))))
 (.seq (.ops 7 false [
 oo 24 (.val (.t 0)),
 oo 25 (.nilCheck (.t 24)),
 oo 26 (.fieldA 2 (.t 25)),
 oo 27 (.load (.t 26)),
 oo 28 (.val (.t 1)),
 oo 29 (.look 66 (.t 27) (.t 28) true),
 oo 23 (.val (.t 29)),
 oo 30 (.extract 0 (.t 23)),
 oo 31 (.extract 1 (.t 23)),
 oo 9 (.val (.t 30)),
 oo 10 (.val (.t 31))] [])
 (.seq (.ops 8 false [
 oo 32 (.val (.t 0)),
 oo 33 (.val (.t 0)),
 oo 34 (.nilCheck (.t 33)),
 oo 35 (.fieldA 3 (.t 34)),
 oo 36 (.load (.t 35)),
 oo 37 (.val (.t 1)),
 oo 38 (.val (.t 9)),
 oo 39 (.val (.t 10)),
 oo 40 (.build [(.string ⟨#[]⟩),(.slice none 0 0),(.bool false)] [(0,1,(.t 37)),(1,1,(.t 38)),(2,1,(.t 39))]),
 oo 41 (.buildS 121 1 [(.string ⟨#[]⟩),(.slice none 0 0),(.bool false)] [(0,3,(.t 40))]),
 oo 42 (.blt .append #[67,67] 67 [.t 36,.t 41]),
 oo 43 (.nilCheck (.t 32)),
 oo 44 (.fieldA 3 (.t 43)),
 ⟨none,.store 1 (.t 44) (.t 42),none⟩] [])
 (.seq (.ops 9 true [
 oo 45 (.val (.t 0)),
 oo 46 (.nilCheck (.t 45)),
 oo 47 (.fieldA 2 (.t 46)),
 oo 48 (.load (.t 47)),
 oo 49 (.val (.t 1)),
 oo 50 (.val (.t 2)),
 oo 51 (.call 54 [.t 50]),
 ⟨none,.upd 66 (.t 48) (.t 49) (.t 51),none⟩] [([],[]),([0],[0]),([1],[1]),([2],[2]),([],[]),([],[]),([5],[5]),([3,4,6,6,0,1,2,3,4,5,6],[3,4,6])])
 (.seq (.ops 10 false [
 oo 6 (.val (.c (.int .i64 0)))] [])
 (.ret)))))))
def rs40 : List RR := [.tmp 6]
theorem fun40 : FunR Tryz.prog 40 rc40 rs40 52 := ⟨Tryz.f40, Tryz.func40, by kernel_rfl, by kernel_rfl, by kernel_rfl⟩
/-- (causeway/outbox.front).value -/
def rc41 : RC :=
 .seq (.ops 0 false [
 oo 1 (.box 103 (.t 0)),
 oo 2 (.val (.c (.slice none 0 0)))] [])
 (.seq (.ops 1 false [
 oo 3 (.val (.c (.slice none 0 0)))] [])
 (.seq (.seq (.ops 2 false [
 oo 4 (.val (.c (.int .i64 56)))] [])
 (.block 0 (.loop (.seq (.seq (.ops 3 false [
 oo 7 (.val (.t 4)),
 oo 8 (.bin .geq (.t 7) (.c (.int .i64 0)))] [])
 (.cond (.t 8) (.skip)
 (.exit 0)))
 (.seq (.block 1 (.ops 5 false [
 oo 11 (.val (.t 3)),
 oo 12 (.fieldA 0 (.t 1)),
 oo 13 (.load (.t 12)),
 oo 14 (.call 38 [.t 13]),
 oo 15 (.val (.t 4)),
 oo 16 (.bin .shr (.t 14) (.t 15)),
 oo 17 (.conv .u8 (.t 16)),
 oo 18 (.buildS 5 1 [(.int .u8 0)] [(0,1,(.t 17))]),
 oo 19 (.blt .append #[22,22] 22 [.t 11,.t 18]),
 oo 3 (.val (.t 19))] []))
 (.ops 4 false [
 oo 9 (.val (.t 4)),
 oo 10 (.bin .sub (.t 9) (.c (.int .i64 8))),
 oo 4 (.val (.t 10))] []))))))
 (.seq (.seq (.ops 6 false [
 oo 20 (.fieldA 0 (.t 1)),
 oo 21 (.load (.t 20)),
 oo 22 (.call 70 [.t 21]),
 oo 23 (.len (.t 22)),
 oo 24 (.val (.c (.int .i64 0)))] [])
 (.block 2 (.loop (.seq (.ops 7 false [
 oo 25 (.bin .lss (.t 24) (.t 23))] [])
 (.seq (.cond (.t 25) (.skip)
 (.exit 2))
 (.seq (.block 3 (.seq (.ops 8 false [
 oo 26 (.indexS 32 (.t 22) (.t 24)),
 oo 27 (.loadN 32 (.t 26)),
 oo 6 (.alloc 81 (List.replicate 32 (.int .u8 0))),
 ⟨none,.store 32 (.t 6) (.t 27),none⟩] [])
 (.ops 9 false [
 oo 28 (.val (.t 3)),
 oo 29 (.sliceA 32 1 (.t 6) none none),
 oo 30 (.blt .append #[22,22] 22 [.t 28,.t 29]),
 oo 3 (.val (.t 30))] [])))
 (.ops 10 false [
 oo 31 (.bin .add (.t 24) (.c (.int .i64 1))),
 oo 24 (.val (.t 31))] [])))))))
 (.seq (.ops 11 false [
 oo 32 (.val (.t 3)),
 oo 2 (.val (.t 32))] [])
 (.ret)))))
def rs41 : List RR := [.tmp 2]
theorem fun41 : FunR Tryz.prog 41 rc41 rs41 33 := ⟨Tryz.f41, Tryz.func41, by kernel_rfl, by kernel_rfl, by kernel_rfl⟩
/-- causeway/causewayref11.May -/
def rc42 : RC :=
 .seq (.ops 0 false [
 oo 1 (.box 45 (.t 0)),
 oo 2 (.val (.c (.bool false)))] [])
 (.seq (.ops 1 false [
 oo 3 (.fieldA 0 (.t 1)),
 oo 4 (.load (.t 3)),
 oo 5 (.bin .geq (.t 4) (.c (.int .i64 0))),
 oo 6 (.val (.t 5)),
 ⟨some 7,.fieldA 0 (.t 1),some (6,true)⟩,
 ⟨some 8,.load (.t 7),some (6,true)⟩,
 ⟨some 9,.bin .lss (.t 8) (.c (.int .i64 1099511627776)),some (6,true)⟩,
 oo 10 (.pick (.t 6) (.t 9) (.c (.bool false))),
 oo 11 (.val (.t 10)),
 ⟨some 12,.fieldA 1 (.t 1),some (11,true)⟩,
 ⟨some 13,.load (.t 12),some (11,true)⟩,
 ⟨some 14,.bin .geq (.t 13) (.c (.int .i64 0)),some (11,true)⟩,
 oo 15 (.pick (.t 11) (.t 14) (.c (.bool false))),
 oo 16 (.val (.t 15)),
 ⟨some 17,.fieldA 1 (.t 1),some (16,true)⟩,
 ⟨some 18,.load (.t 17),some (16,true)⟩,
 ⟨some 19,.bin .lss (.t 18) (.c (.int .i64 1099511627776)),some (16,true)⟩,
 oo 20 (.pick (.t 16) (.t 19) (.c (.bool false))),
 oo 21 (.val (.t 20)),
 ⟨some 22,.fieldA 2 (.t 1),some (21,true)⟩,
 ⟨some 23,.load (.t 22),some (21,true)⟩,
 ⟨some 24,.bin .geq (.t 23) (.c (.int .i64 0)),some (21,true)⟩,
 oo 25 (.pick (.t 21) (.t 24) (.c (.bool false))),
 oo 26 (.val (.t 25)),
 ⟨some 27,.fieldA 2 (.t 1),some (26,true)⟩,
 ⟨some 28,.load (.t 27),some (26,true)⟩,
 ⟨some 29,.bin .lss (.t 28) (.c (.int .i64 64)),some (26,true)⟩,
 oo 30 (.pick (.t 26) (.t 29) (.c (.bool false))),
 oo 31 (.val (.t 30)),
 ⟨some 32,.fieldA 23 (.t 1),some (31,true)⟩,
 ⟨some 33,.loadN 4 (.t 32),some (31,true)⟩,
 ⟨some 34,.build [(.int .u64 0),(.int .u64 0),(.int .u64 0),(.int .u64 0)] [],some (31,true)⟩,
 ⟨some 35,.eqn true 43 (.t 33) (.t 34),some (31,true)⟩,
 oo 36 (.pick (.t 31) (.t 35) (.c (.bool false))),
 oo 2 (.val (.t 36))] [])
 (.ret))
def rs42 : List RR := [.tmp 2]
theorem fun42 : FunR Tryz.prog 42 rc42 rs42 37 := ⟨Tryz.f42, Tryz.func42, by kernel_rfl, by kernel_rfl, by kernel_rfl⟩
/-- causeway/causewayref11.asked -/
def rc43 : RC :=
 .seq (.ops 0 false [
 oo 2 (.alloc 111 [(.int .i64 0),(.slice none 0 0)]),
 oo 3 (.val (.c (.int .i64 0)))] [])
 (.seq (.ops 1 false [
 oo 13 (.build [(.int .i64 0),(.slice none 0 0)] []),
 oo 4 (.alloc 111 [(.int .i64 0),(.slice none 0 0)]),
 ⟨none,.store 2 (.t 4) (.t 13),none⟩] [])
 (.seq (.seq (.ops 2 false [
 oo 14 (.val (.t 0)),
 oo 15 (.eqp .ptr false (.t 14) (.c (.pointer none)))] [])
 (.cond (.t 15) (.seq (.ops 3 false [
 oo 16 (.loadN 2 (.t 4)),
 ⟨none,.store 2 (.t 2) (.t 16),none⟩,
 oo 3 (.val (.c (.int .i64 1)))] [])
 (.ret))
 (.skip)))
 (.seq (.ops 4 false [
 oo 18 (.val (.t 0)),
 oo 19 (.call 71 [(.t 18),(.c (.string ⟨#[111]⟩))]),
 oo 17 (.val (.t 19)),
 oo 20 (.extract 0 (.t 17)),
 oo 21 (.extract 1 (.t 17)),
 oo 5 (.val (.t 20)),
 oo 6 (.val (.t 21))] [])
 (.seq (.seq (.ops 5 false [
 oo 22 (.val (.t 6)),
 oo 23 (.bin .neq (.t 22) (.c (.int .i64 0))),
 oo 24 (.val (.t 23)),
 ⟨some 25,.val (.t 5),some (24,false)⟩,
 ⟨some 26,.len (.t 25),some (24,false)⟩,
 ⟨some 27,.bin .eql (.t 26) (.c (.int .i64 0)),some (24,false)⟩,
 oo 28 (.pick (.t 24) (.c (.bool true)) (.t 27))] [])
 (.cond (.t 28) (.seq (.ops 6 false [
 oo 29 (.loadN 2 (.t 4)),
 oo 30 (.val (.t 6)),
 ⟨none,.store 2 (.t 2) (.t 29),none⟩,
 oo 3 (.val (.t 30))] [])
 (.ret))
 (.skip)))
 (.seq (.seq (.ops 7 false [
 oo 31 (.val (.t 5)),
 oo 32 (.len (.t 31)),
 oo 33 (.bin .lss (.t 32) (.c (.int .i64 8))),
 oo 34 (.val (.t 33)),
 ⟨some 35,.val (.t 5),some (34,false)⟩,
 ⟨some 36,.len (.t 35),some (34,false)⟩,
 ⟨some 37,.bin .rem (.t 36) (.c (.int .i64 32)),some (34,false)⟩,
 ⟨some 38,.bin .neq (.t 37) (.c (.int .i64 8)),some (34,false)⟩,
 oo 39 (.pick (.t 34) (.c (.bool true)) (.t 38)),
 oo 40 (.val (.t 39)),
 ⟨some 41,.val (.t 5),some (40,false)⟩,
 ⟨some 42,.indexS 1 (.t 41) (.c (.int .i64 0)),some (40,false)⟩,
 ⟨some 43,.load (.t 42),some (40,false)⟩,
 ⟨some 44,.bin .neq (.t 43) (.c (.int .u8 0)),some (40,false)⟩,
 oo 45 (.pick (.t 40) (.c (.bool true)) (.t 44)),
 oo 46 (.val (.t 45)),
 ⟨some 47,.val (.t 5),some (46,false)⟩,
 ⟨some 48,.indexS 1 (.t 47) (.c (.int .i64 1)),some (46,false)⟩,
 ⟨some 49,.load (.t 48),some (46,false)⟩,
 ⟨some 50,.bin .neq (.t 49) (.c (.int .u8 0)),some (46,false)⟩,
 oo 51 (.pick (.t 46) (.c (.bool true)) (.t 50))] [])
 (.cond (.t 51) (.seq (.ops 8 false [
 oo 52 (.loadN 2 (.t 4)),
 ⟨none,.store 2 (.t 2) (.t 52),none⟩,
 oo 3 (.val (.c (.int .i64 75)))] [])
 (.ret))
 (.skip)))
 (.seq (.ops 9 false [
 oo 7 (.val (.c (.int .i64 0)))] [])
 (.seq (.seq (.ops 10 false [
 oo 8 (.val (.c (.int .i64 0)))] [])
 (.block 0 (.loop (.seq (.seq (.ops 11 false [
 oo 53 (.val (.t 8)),
 oo 54 (.bin .lss (.t 53) (.c (.int .i64 8)))] [])
 (.cond (.t 54) (.skip)
 (.exit 0)))
 (.seq (.block 1 (.ops 13 false [
 oo 57 (.val (.t 7)),
 oo 58 (.bin .mul (.c (.int .i64 256)) (.t 57)),
 oo 59 (.val (.t 5)),
 oo 60 (.val (.t 8)),
 oo 61 (.indexS 1 (.t 59) (.t 60)),
 oo 62 (.load (.t 61)),
 oo 63 (.conv .i64 (.t 62)),
 oo 64 (.bin .add (.t 58) (.t 63)),
 oo 7 (.val (.t 64))] []))
 (.ops 12 false [
 oo 55 (.val (.t 8)),
 oo 56 (.bin .add (.t 55) (.c (.int .i64 1))),
 oo 8 (.val (.t 56))] []))))))
 (.seq (.ops 14 false [
 oo 9 (.val (.c (.slice none 0 0)))] [])
 (.seq (.seq (.ops 15 false [
 oo 10 (.val (.c (.int .i64 8)))] [])
 (.block 2 (.loop (.seq (.seq (.ops 16 false [
 oo 65 (.val (.t 10)),
 oo 66 (.val (.t 5)),
 oo 67 (.len (.t 66)),
 oo 68 (.bin .lss (.t 65) (.t 67))] [])
 (.cond (.t 68) (.skip)
 (.exit 2)))
 (.seq (.block 3 (.seq (.ops 18 false [
 oo 11 (.alloc 81 (List.replicate 32 (.int .u8 0)))] [])
 (.seq (.ops 19 true [
 oo 71 (.sliceA 32 1 (.t 11) none none),
 oo 72 (.val (.t 5)),
 oo 73 (.val (.t 10)),
 oo 74 (.val (.t 10)),
 oo 75 (.bin .add (.t 74) (.c (.int .i64 32))),
 oo 76 (.slice 1 (.t 72) (some (.t 73)) (some (.t 75)) none),
 oo 77 (.blt .copy #[22,22] 3 [.t 71,.t 76])] [([],[]),([],[]),([],[]),([],[]),([3],[3]),([1,2,4],[1,2,4]),([0,5],[0,5])])
 (.ops 20 false [
 oo 78 (.val (.t 9)),
 oo 79 (.loadN 32 (.t 11)),
 oo 80 (.buildS 81 1 (List.replicate 32 (.int .u8 0)) [(0,32,(.t 79))]),
 oo 81 (.blt .append #[109,109] 109 [.t 78,.t 80]),
 oo 9 (.val (.t 81))] []))))
 (.ops 17 false [
 oo 69 (.val (.t 10)),
 oo 70 (.bin .add (.t 69) (.c (.int .i64 32))),
 oo 10 (.val (.t 70))] []))))))
 (.seq (.ops 21 false [
 oo 83 (.val (.t 7)),
 oo 84 (.val (.t 9)),
 oo 85 (.call 72 [.t 83,.t 84]),
 oo 82 (.val (.t 85)),
 oo 86 (.extract 0 (.t 82)),
 oo 87 (.extract 1 (.t 82)),
 oo 12 (.alloc 111 [(.int .i64 0),(.slice none 0 0)]),
 ⟨none,.store 2 (.t 12) (.t 86),none⟩,
 oo 6 (.val (.t 87))] [])
 (.seq (.seq (.ops 22 false [
 oo 88 (.val (.t 6)),
 oo 89 (.bin .neq (.t 88) (.c (.int .i64 0))),
 oo 90 (.val (.t 89)),
 ⟨some 91,.val (.t 7),some (90,false)⟩,
 ⟨some 92,.bin .eql (.t 91) (.c (.int .i64 0)),some (90,false)⟩,
 oo 93 (.pick (.t 90) (.c (.bool true)) (.t 92))] [])
 (.cond (.t 93) (.seq (.ops 23 false [
 oo 94 (.loadN 2 (.t 4)),
 ⟨none,.store 2 (.t 2) (.t 94),none⟩,
 oo 3 (.val (.c (.int .i64 75)))] [])
 (.ret))
 (.skip)))
 (.seq (.ops 24 false [
 oo 95 (.loadN 2 (.t 12)),
 ⟨none,.store 2 (.t 2) (.t 95),none⟩,
 oo 3 (.val (.c (.int .i64 0)))] [])
 (.ret)))))))))))))
def rs43 : List RR := [.cell 2 (some 2), .tmp 3]
theorem fun43 : FunR Tryz.prog 43 rc43 rs43 96 := ⟨Tryz.f43, Tryz.func43, by kernel_rfl, by kernel_rfl, by kernel_rfl⟩
/-- causeway/causewayref04.Add -/
def rc44 : RC :=
 .seq (.ops 0 false [
 oo 2 (.box 111 (.t 0)),
 oo 4 (.alloc 111 [(.int .i64 0),(.slice none 0 0)]),
 oo 5 (.val (.c (.int .i64 0)))] [])
 (.seq (.seq (.ops 1 false [
 oo 9 (.fieldA 0 (.t 2)),
 oo 10 (.load (.t 9)),
 oo 11 (.bin .geq (.t 10) (.c (.int .i64 1099511627776)))] [])
 (.cond (.t 11) (.seq (.ops 2 false [
 oo 12 (.loadN 2 (.t 2)),
 ⟨none,.store 2 (.t 4) (.t 12),none⟩,
 oo 5 (.val (.c (.int .i64 (-1))))] [])
 (.ret))
 (.skip)))
 (.seq (.ops 3 false [
 oo 13 (.fieldA 1 (.t 2)),
 oo 14 (.load (.t 13)),
 oo 15 (.len (.t 14)),
 oo 16 (.mkS 109 (.t 15) (.t 15)),
 oo 6 (.val (.t 16))] [])
 (.seq (.ops 4 false [
 oo 17 (.val (.t 6)),
 oo 18 (.fieldA 1 (.t 2)),
 oo 19 (.load (.t 18)),
 oo 20 (.blt .copy #[109,109] 3 [.t 17,.t 19])] [])
 (.seq (.ops 5 false [
 oo 21 (.val (.t 1)),
 oo 22 (.call 73 [.t 21]),
 oo 7 (.alloc 81 (List.replicate 32 (.int .u8 0))),
 ⟨none,.store 32 (.t 7) (.t 22),none⟩] [])
 (.seq (.seq (.ops 6 false [
 oo 23 (.fieldA 0 (.t 2)),
 oo 24 (.load (.t 23)),
 oo 8 (.val (.t 24))] [])
 (.block 0 (.loop (.seq (.seq (.ops 7 false [
 oo 25 (.val (.t 8)),
 oo 26 (.bin .rem (.t 25) (.c (.int .i64 2))),
 oo 27 (.bin .eql (.t 26) (.c (.int .i64 1)))] [])
 (.cond (.t 27) (.skip)
 (.exit 0)))
 (.seq (.block 1 (.seq (.ops 9 true [
 oo 30 (.val (.t 6)),
 oo 31 (.val (.t 6)),
 oo 32 (.len (.t 31)),
 oo 33 (.bin .sub (.t 32) (.c (.int .i64 1))),
 oo 34 (.indexS 32 (.t 30) (.t 33)),
 oo 35 (.loadN 32 (.t 34)),
 oo 36 (.loadN 32 (.t 7)),
 oo 37 (.call 74 [.t 35,.t 36]),
 ⟨none,.store 32 (.t 7) (.t 37),none⟩] [([],[]),([],[]),([1],[1]),([2],[2]),([0,3],[0,3]),([4],[4]),([],[]),([5,6],[5,6]),([7,7,0,1,2,3,4,5,6,7],[7])])
 (.ops 10 false [
 oo 38 (.val (.t 6)),
 oo 39 (.val (.t 6)),
 oo 40 (.len (.t 39)),
 oo 41 (.bin .sub (.t 40) (.c (.int .i64 1))),
 oo 42 (.slice 32 (.t 38) none (some (.t 41)) none),
 oo 6 (.val (.t 42))] [])))
 (.ops 8 false [
 oo 28 (.val (.t 8)),
 oo 29 (.bin .quo (.t 28) (.c (.int .i64 2))),
 oo 8 (.val (.t 29))] []))))))
 (.seq (.ops 11 false [
 oo 43 (.val (.t 6)),
 oo 44 (.loadN 32 (.t 7)),
 oo 45 (.buildS 81 1 (List.replicate 32 (.int .u8 0)) [(0,32,(.t 44))]),
 oo 46 (.blt .append #[109,109] 109 [.t 43,.t 45]),
 oo 6 (.val (.t 46))] [])
 (.seq (.ops 12 true [
 oo 47 (.fieldA 0 (.t 2)),
 oo 48 (.load (.t 47)),
 oo 49 (.bin .add (.t 48) (.c (.int .i64 1))),
 oo 50 (.val (.t 6)),
 oo 51 (.build [(.int .i64 0),(.slice none 0 0)] [(0,1,(.t 49)),(1,1,(.t 50))]),
 oo 52 (.fieldA 0 (.t 2)),
 oo 53 (.load (.t 52)),
 ⟨none,.store 2 (.t 4) (.t 51),none⟩,
 oo 5 (.val (.t 53))] [([],[]),([0],[0]),([1],[1]),([],[]),([2,3],[2,3]),([],[]),([5],[5]),([4,0,1,2,3,4],[4]),([6,7,0,1,2,3,4,5,6,7],[6])])
 (.ret))))))))
def rs44 : List RR := [.cell 4 (some 2), .tmp 5]
theorem fun44 : FunR Tryz.prog 44 rc44 rs44 54 := ⟨Tryz.f44, Tryz.func44, by kernel_rfl, by kernel_rfl, by kernel_rfl⟩
/-- causeway/causewayref11.Form -/
def rc45 : RC :=
 .seq (.ops 0 false [
 oo 1 (.box 45 (.t 0)),
 oo 2 (.val (.c (.slice none 0 0)))] [])
 (.seq (.ops 1 false [
 oo 4 (.build [(.slice none 0 0),(.int .i64 0)] []),
 oo 5 (.box 150 (.t 4)),
 oo 3 (.val (.t 5))] [])
 (.seq (.ops 2 false [
 oo 6 (.val (.t 3)),
 oo 7 (.call 75 [(.t 6),(.c (.int .u8 76))])] [])
 (.seq (.ops 3 false [
 oo 8 (.val (.t 3)),
 oo 9 (.fieldA 0 (.t 1)),
 oo 10 (.load (.t 9)),
 oo 11 (.call 76 [.t 8,.t 10])] [])
 (.seq (.ops 4 false [
 oo 12 (.val (.t 3)),
 oo 13 (.fieldA 1 (.t 1)),
 oo 14 (.load (.t 13)),
 oo 15 (.call 76 [.t 12,.t 14])] [])
 (.seq (.ops 5 false [
 oo 16 (.val (.t 3)),
 oo 17 (.fieldA 2 (.t 1)),
 oo 18 (.load (.t 17)),
 oo 19 (.call 76 [.t 16,.t 18])] [])
 (.seq (.ops 6 false [
 oo 20 (.val (.t 3)),
 oo 21 (.fieldA 3 (.t 1)),
 oo 22 (.loadN 20 (.t 21)),
 oo 23 (.call 77 [.t 20,.t 22])] [])
 (.seq (.ops 7 false [
 oo 24 (.val (.t 3)),
 oo 25 (.fieldA 23 (.t 1)),
 oo 26 (.loadN 4 (.t 25)),
 oo 27 (.call 78 [.t 24,.t 26])] [])
 (.seq (.ops 8 false [
 oo 28 (.val (.t 3)),
 oo 29 (.nilCheck (.t 28)),
 oo 30 (.fieldA 0 (.t 29)),
 oo 31 (.load (.t 30)),
 oo 2 (.val (.t 31))] [])
 (.ret)))))))))
def rs45 : List RR := [.tmp 2]
theorem fun45 : FunR Tryz.prog 45 rc45 rs45 32 := ⟨Tryz.f45, Tryz.func45, by kernel_rfl, by kernel_rfl, by kernel_rfl⟩
/-- (*causeway/causewayref07.State).Put -/
def rc46 : RC :=
 .seq (.ops 0 false [
 oo 6 (.val (.c (.int .i64 0)))] [])
 (.seq (.ops 1 false [
 oo 8 (.val (.t 1)),
 oo 9 (.val (.t 2)),
 oo 10 (.call 79 [.t 8,.t 9]),
 oo 7 (.val (.t 10))] [])
 (.seq (.seq (.ops 2 false [
 oo 11 (.val (.t 7)),
 oo 12 (.bin .neq (.t 11) (.c (.int .i64 0)))] [])
 (.cond (.t 12) (.seq (.ops 3 false [
 oo 13 (.val (.t 7)),
 oo 6 (.val (.t 13))] [])
 (.ret))
 (.skip)))
 (.seq (.ops 4 false [
 oo 14 (.val (.t 0)),
 oo 15 (.val (.t 1)),
 oo 16 (.call 80 [.t 14,.t 15]),
 oo 7 (.val (.t 16))] [])
 (.seq (.seq (.ops 5 false [
 oo 17 (.val (.t 7)),
 oo 18 (.bin .neq (.t 17) (.c (.int .i64 0)))] [])
 (.cond (.t 18) (.seq (.ops 6 false [
 oo 19 (.val (.t 7)),
 oo 6 (.val (.t 19))] [])
 (.ret))
 (.skip)))
 (.seq (.ops 7 true [
 oo 20 (.val (.t 0)),
 oo 21 (.val (.t 0)),
 oo 22 (.nilCheck (.t 21)),
 oo 23 (.fieldA 4 (.t 22)),
 oo 24 (.load (.t 23)),
 oo 25 (.val (.t 1)),
 oo 26 (.val (.t 2)),
 oo 27 (.call 56 [.t 26]),
 oo 28 (.build [(.string ⟨#[]⟩),(.slice none 0 0)] [(0,1,(.t 25)),(1,1,(.t 27))]),
 oo 29 (.buildS 27 1 [(.string ⟨#[]⟩),(.slice none 0 0)] [(0,2,(.t 28))]),
 oo 30 (.blt .append #[28,28] 28 [.t 24,.t 29]),
 oo 31 (.nilCheck (.t 20)),
 oo 32 (.fieldA 4 (.t 31)),
 ⟨none,.store 1 (.t 32) (.t 30),none⟩] [([],[]),([],[]),([1],[1]),([2],[2]),([3],[3]),([],[]),([],[]),([6],[6]),([5,7],[5,7]),([8],[8]),([4,9,7],[4,9]),([0,0,1,2,3,4,5,6,7,8,9,10],[0]),([11,0,1,2,3,4,5,6,7,8,9,10],[11]),([12,10,10,0,1,2,3,4,5,6,7,8,9,10],[10,12])])
 (.seq (.ops 8 false [
 oo 6 (.val (.c (.int .i64 0)))] [])
 (.ret)))))))
def rs46 : List RR := [.tmp 6]
theorem fun46 : FunR Tryz.prog 46 rc46 rs46 33 := ⟨Tryz.f46, Tryz.func46, by kernel_rfl, by kernel_rfl, by kernel_rfl⟩
/-- causeway/causewayref11.Value -/
def rc47 : RC :=
 .seq (.ops 0 false [
 oo 1 (.box 111 (.t 0)),
 oo 2 (.val (.c (.slice none 0 0)))] [])
 (.seq (.seq (.ops 1 false [
 oo 7 (.fieldA 0 (.t 1)),
 oo 8 (.load (.t 7)),
 oo 9 (.bin .eql (.t 8) (.c (.int .i64 0)))] [])
 (.cond (.t 9) (.seq (.ops 2 false [
 oo 2 (.val (.c (.slice none 0 0)))] [])
 (.ret))
 (.skip)))
 (.seq (.ops 3 false [
 oo 10 (.mkS 22 (.c (.int .i64 8)) (.c (.int .i64 8))),
 oo 3 (.val (.t 10))] [])
 (.seq (.ops 4 false [
 oo 11 (.fieldA 0 (.t 1)),
 oo 12 (.load (.t 11)),
 oo 4 (.val (.t 12))] [])
 (.seq (.seq (.ops 5 false [
 oo 5 (.val (.c (.int .i64 7)))] [])
 (.block 0 (.loop (.seq (.seq (.ops 6 false [
 oo 13 (.val (.t 5)),
 oo 14 (.bin .geq (.t 13) (.c (.int .i64 0)))] [])
 (.cond (.t 14) (.skip)
 (.exit 0)))
 (.seq (.block 1 (.seq (.ops 8 false [
 oo 17 (.val (.t 3)),
 oo 18 (.val (.t 5)),
 oo 19 (.val (.t 4)),
 oo 20 (.bin .rem (.t 19) (.c (.int .i64 256))),
 oo 21 (.conv .u8 (.t 20)),
 oo 22 (.indexS 1 (.t 17) (.t 18)),
 ⟨none,.store 1 (.t 22) (.t 21),none⟩] [])
 (.ops 9 false [
 oo 23 (.val (.t 4)),
 oo 24 (.bin .quo (.t 23) (.c (.int .i64 256))),
 oo 4 (.val (.t 24))] [])))
 (.ops 7 false [
 oo 15 (.val (.t 5)),
 oo 16 (.bin .sub (.t 15) (.c (.int .i64 1))),
 oo 5 (.val (.t 16))] []))))))
 (.seq (.seq (.ops 10 false [
 oo 6 (.val (.c (.int .i64 0)))] [])
 (.block 2 (.loop (.seq (.seq (.ops 11 false [
 oo 25 (.val (.t 6)),
 oo 26 (.fieldA 1 (.t 1)),
 oo 27 (.load (.t 26)),
 oo 28 (.len (.t 27)),
 oo 29 (.bin .lss (.t 25) (.t 28))] [])
 (.cond (.t 29) (.skip)
 (.exit 2)))
 (.seq (.block 3 (.ops 13 false [
 oo 32 (.val (.t 3)),
 oo 33 (.fieldA 1 (.t 1)),
 oo 34 (.load (.t 33)),
 oo 35 (.val (.t 6)),
 oo 36 (.indexS 32 (.t 34) (.t 35)),
 oo 37 (.sliceA 32 1 (.t 36) none none),
 oo 38 (.blt .append #[22,22] 22 [.t 32,.t 37]),
 oo 3 (.val (.t 38))] []))
 (.ops 12 false [
 oo 30 (.val (.t 6)),
 oo 31 (.bin .add (.t 30) (.c (.int .i64 1))),
 oo 6 (.val (.t 31))] []))))))
 (.seq (.ops 14 false [
 oo 39 (.val (.t 3)),
 oo 2 (.val (.t 39))] [])
 (.ret)))))))
def rs47 : List RR := [.tmp 2]
theorem fun47 : FunR Tryz.prog 47 rc47 rs47 40 := ⟨Tryz.f47, Tryz.func47, by kernel_rfl, by kernel_rfl, by kernel_rfl⟩
/-- (*causeway/tree.Log).Root -/
def rc48 : RC :=
 .seq (.ops 0 false [
 oo 2 (.alloc 81 (List.replicate 32 (.int .u8 0)))] [])
 (.seq (.ops 1 false [
 oo 6 (.val (.t 0)),
 oo 7 (.nilCheck (.t 6)),
 oo 8 (.fieldA 1 (.t 7)),
 oo 9 (.load (.t 8)),
 oo 10 (.len (.t 9)),
 oo 3 (.val (.t 10))] [])
 (.seq (.seq (.ops 2 false [
 oo 11 (.val (.t 3)),
 oo 12 (.bin .eql (.t 11) (.c (.int .i64 0)))] [])
 (.cond (.t 12) (.seq (.ops 3 false [
 oo 13 (.call 81 []),
 ⟨none,.store 32 (.t 2) (.t 13),none⟩] [])
 (.ret))
 (.skip)))
 (.seq (.ops 4 false [
 oo 14 (.val (.t 0)),
 oo 15 (.nilCheck (.t 14)),
 oo 16 (.fieldA 1 (.t 15)),
 oo 17 (.load (.t 16)),
 oo 18 (.val (.t 3)),
 oo 19 (.bin .sub (.t 18) (.c (.int .i64 1))),
 oo 20 (.indexS 32 (.t 17) (.t 19)),
 oo 21 (.loadN 32 (.t 20)),
 oo 4 (.alloc 81 (List.replicate 32 (.int .u8 0))),
 ⟨none,.store 32 (.t 4) (.t 21),none⟩] [])
 (.seq (.seq (.ops 5 false [
 oo 22 (.val (.t 3)),
 oo 23 (.bin .sub (.t 22) (.c (.int .i64 1))),
 oo 24 (.val (.c (.int .i64 0)))] [])
 (.block 0 (.loop (.seq (.ops 6 false [
 oo 25 (.bin .lss (.t 24) (.t 23))] [])
 (.seq (.cond (.t 25) (.skip)
 (.exit 0))
 (.seq (.block 1 (.seq (.ops 7 false [
 oo 26 (.val (.t 24)),
 oo 5 (.val (.t 26))] [])
 (.ops 8 true [
 oo 27 (.val (.t 0)),
 oo 28 (.nilCheck (.t 27)),
 oo 29 (.fieldA 1 (.t 28)),
 oo 30 (.load (.t 29)),
 oo 31 (.val (.t 3)),
 oo 32 (.bin .sub (.t 31) (.c (.int .i64 2))),
 oo 33 (.val (.t 5)),
 oo 34 (.bin .sub (.t 32) (.t 33)),
 oo 35 (.indexS 32 (.t 30) (.t 34)),
 oo 36 (.loadN 32 (.t 35)),
 oo 37 (.loadN 32 (.t 4)),
 oo 38 (.call 67 [.t 36,.t 37]),
 ⟨none,.store 32 (.t 4) (.t 38),none⟩] [([],[]),([0],[0]),([1],[1]),([2],[2]),([],[]),([4],[4]),([],[]),([5,6],[5,6]),([3,7],[3,7]),([8],[8]),([],[]),([9,10],[9,10]),([11,11,0,1,2,3,4,5,6,7,8,9,10,11],[11])])))
 (.ops 9 false [
 oo 39 (.bin .add (.t 24) (.c (.int .i64 1))),
 oo 24 (.val (.t 39))] [])))))))
 (.seq (.ops 10 false [
 oo 40 (.loadN 32 (.t 4)),
 ⟨none,.store 32 (.t 2) (.t 40),none⟩] [])
 (.ret))))))
def rs48 : List RR := [.cell 2 (some 32)]
theorem fun48 : FunR Tryz.prog 48 rc48 rs48 41 := ⟨Tryz.f48, Tryz.func48, by kernel_rfl, by kernel_rfl, by kernel_rfl⟩
/-- causeway/causewayref04.LogRoot -/
def rc49 : RC :=
 .seq (.ops 0 false [
 oo 1 (.box 111 (.t 0)),
 oo 2 (.alloc 81 (List.replicate 32 (.int .u8 0)))] [])
 (.seq (.seq (.ops 1 false [
 oo 5 (.fieldA 1 (.t 1)),
 oo 6 (.load (.t 5)),
 oo 7 (.len (.t 6)),
 oo 8 (.bin .eql (.t 7) (.c (.int .i64 0)))] [])
 (.cond (.t 8) (.seq (.ops 2 false [
 oo 9 (.call 82 [(.c (.slice none 0 0))]),
 ⟨none,.store 32 (.t 2) (.t 9),none⟩] [])
 (.ret))
 (.skip)))
 (.seq (.ops 3 false [
 oo 10 (.fieldA 1 (.t 1)),
 oo 11 (.load (.t 10)),
 oo 12 (.fieldA 1 (.t 1)),
 oo 13 (.load (.t 12)),
 oo 14 (.len (.t 13)),
 oo 15 (.bin .sub (.t 14) (.c (.int .i64 1))),
 oo 16 (.indexS 32 (.t 11) (.t 15)),
 oo 17 (.loadN 32 (.t 16)),
 oo 3 (.alloc 81 (List.replicate 32 (.int .u8 0))),
 ⟨none,.store 32 (.t 3) (.t 17),none⟩] [])
 (.seq (.seq (.ops 4 false [
 oo 18 (.fieldA 1 (.t 1)),
 oo 19 (.load (.t 18)),
 oo 20 (.len (.t 19)),
 oo 21 (.bin .sub (.t 20) (.c (.int .i64 2))),
 oo 4 (.val (.t 21))] [])
 (.block 0 (.loop (.seq (.seq (.ops 5 false [
 oo 22 (.val (.t 4)),
 oo 23 (.bin .geq (.t 22) (.c (.int .i64 0)))] [])
 (.cond (.t 23) (.skip)
 (.exit 0)))
 (.seq (.block 1 (.ops 7 true [
 oo 26 (.fieldA 1 (.t 1)),
 oo 27 (.load (.t 26)),
 oo 28 (.val (.t 4)),
 oo 29 (.indexS 32 (.t 27) (.t 28)),
 oo 30 (.loadN 32 (.t 29)),
 oo 31 (.loadN 32 (.t 3)),
 oo 32 (.call 74 [.t 30,.t 31]),
 ⟨none,.store 32 (.t 3) (.t 32),none⟩] [([],[]),([0],[0]),([],[]),([1,2],[1,2]),([3],[3]),([],[]),([4,5],[4,5]),([6,6,0,1,2,3,4,5,6],[6])]))
 (.ops 6 false [
 oo 24 (.val (.t 4)),
 oo 25 (.bin .sub (.t 24) (.c (.int .i64 1))),
 oo 4 (.val (.t 25))] []))))))
 (.seq (.ops 8 false [
 oo 33 (.loadN 32 (.t 3)),
 ⟨none,.store 32 (.t 2) (.t 33),none⟩] [])
 (.ret)))))
def rs49 : List RR := [.cell 2 (some 32)]
theorem fun49 : FunR Tryz.prog 49 rc49 rs49 34 := ⟨Tryz.f49, Tryz.func49, by kernel_rfl, by kernel_rfl, by kernel_rfl⟩
/-- (*causeway/store.State).value -/
def rc52 : RC :=
 .seq (.ops 0 false [
 oo 4 (.val (.c (.slice none 0 0)))] [])
 (.seq (.seq (.ops 1 false [
 oo 8 (.val (.t 0)),
 oo 9 (.nilCheck (.t 8)),
 oo 10 (.fieldA 2 (.t 9)),
 oo 11 (.load (.t 10)),
 oo 12 (.val (.t 1)),
 oo 13 (.look 66 (.t 11) (.t 12) true),
 oo 7 (.val (.t 13)),
 oo 14 (.extract 0 (.t 7)),
 oo 15 (.extract 1 (.t 7)),
 oo 5 (.val (.t 14)),
 oo 6 (.val (.t 15))] [])
 (.seq (.ops 2 false [
 oo 16 (.val (.t 6))] [])
 (.cond (.t 16) (.seq (.ops 3 false [
 oo 17 (.val (.t 5)),
 oo 4 (.val (.t 17))] [])
 (.ret))
 (.skip))))
 (.seq (.ops 4 false [
 oo 18 (.val (.t 0)),
 oo 19 (.nilCheck (.t 18)),
 oo 20 (.fieldA 1 (.t 19)),
 oo 21 (.load (.t 20)),
 oo 22 (.val (.t 1)),
 oo 23 (.look 66 (.t 21) (.t 22) false),
 oo 4 (.val (.t 23))] [])
 (.ret)))
def rs52 : List RR := [.tmp 4]
theorem fun52 : FunR Tryz.prog 52 rc52 rs52 24 := ⟨Tryz.f52, Tryz.func52, by kernel_rfl, by kernel_rfl, by kernel_rfl⟩
/-- bytes.Equal -/
def rc53 : RC :=
 .seq (.ops 0 false [
 oo 4 (.val (.c (.bool false)))] [])
 (.seq (.ops 1 false [
 oo 5 (.val (.t 0)),
 oo 6 (.cvt 22 9 (.t 5)),
 oo 7 (.val (.t 1)),
 oo 8 (.cvt 22 9 (.t 7)),
 oo 9 (.eqp .str false (.t 6) (.t 8)),
 oo 4 (.val (.t 9))] [])
 (.ret))
def rs53 : List RR := [.tmp 4]
theorem fun53 : FunR Tryz.prog 53 rc53 rs53 10 := ⟨Tryz.f53, Tryz.func53, by kernel_rfl, by kernel_rfl, by kernel_rfl⟩
/-- slices.Clone[[]byte,byte] -/
def rc54 : RC :=
 .seq (.ops 0 false [
 oo 2 (.val (.c (.slice none 0 0)))] [])
 (.seq (.seq (.ops 1 false [
 oo 3 (.val (.t 0)),
 oo 4 (.eqp .slc false (.t 3) (.c (.slice none 0 0)))] [])
 (.cond (.t 4) (.seq (.ops 2 false [
 oo 2 (.val (.c (.slice none 0 0)))] [])
 (.ret))
 (.skip)))
 (.seq (.ops 3 false [
 oo 5 (.buildS 5 0 [] []),
 oo 6 (.val (.t 0)),
 oo 7 (.blt .append #[22,22] 22 [.t 5,.t 6]),
 oo 2 (.val (.t 7))] [])
 (.ret)))
def rs54 : List RR := [.tmp 2]
theorem fun54 : FunR Tryz.prog 54 rc54 rs54 8 := ⟨Tryz.f54, Tryz.func54, by kernel_rfl, by kernel_rfl, by kernel_rfl⟩
/-- (*causeway/causewayref07.State).now -/
def rc55 : RC :=
 .seq (.ops 0 false [
 oo 4 (.val (.c (.slice none 0 0)))] [])
 (.seq (.seq (.ops 1 false [
 oo 8 (.val (.t 0)),
 oo 9 (.nilCheck (.t 8)),
 oo 10 (.fieldA 4 (.t 9)),
 oo 11 (.load (.t 10)),
 oo 12 (.len (.t 11)),
 oo 13 (.bin .sub (.t 12) (.c (.int .i64 1))),
 oo 5 (.val (.t 13))] [])
 (.block 0 (.loop (.seq (.seq (.ops 2 false [
 oo 14 (.val (.t 5)),
 oo 15 (.bin .geq (.t 14) (.c (.int .i64 0)))] [])
 (.cond (.t 15) (.skip)
 (.exit 0)))
 (.seq (.block 1 (.seq (.ops 4 false [
 oo 18 (.val (.t 0)),
 oo 19 (.nilCheck (.t 18)),
 oo 20 (.fieldA 4 (.t 19)),
 oo 21 (.load (.t 20)),
 oo 22 (.val (.t 5)),
 oo 23 (.indexS 2 (.t 21) (.t 22)),
 oo 24 (.fieldA 0 (.t 23)),
 oo 25 (.load (.t 24)),
 oo 26 (.val (.t 1)),
 oo 27 (.eqp .str false (.t 25) (.t 26))] [])
 (.cond (.t 27) (.seq (.ops 5 false [
 oo 28 (.val (.t 0)),
 oo 29 (.nilCheck (.t 28)),
 oo 30 (.fieldA 4 (.t 29)),
 oo 31 (.load (.t 30)),
 oo 32 (.val (.t 5)),
 oo 33 (.indexS 2 (.t 31) (.t 32)),
 oo 34 (.fieldA 1 (.t 33)),
 oo 35 (.load (.t 34)),
 oo 4 (.val (.t 35))] [])
 (.ret))
 (.skip))))
 (.ops 3 false [
 oo 16 (.val (.t 5)),
 oo 17 (.bin .sub (.t 16) (.c (.int .i64 1))),
 oo 5 (.val (.t 17))] []))))))
 (.seq (.ops 6 false [
 oo 37 (.val (.t 0)),
 oo 38 (.nilCheck (.t 37)),
 oo 39 (.fieldA 3 (.t 38)),
 oo 40 (.load (.t 39)),
 oo 41 (.val (.t 1)),
 oo 42 (.call 86 [.t 40,.t 41]),
 oo 36 (.val (.t 42)),
 oo 43 (.extract 0 (.t 36)),
 oo 44 (.extract 1 (.t 36)),
 oo 6 (.val (.t 43)),
 oo 7 (.val (.t 44))] [])
 (.seq (.ops 7 false [
 oo 45 (.val (.t 6)),
 oo 4 (.val (.t 45))] [])
 (.ret))))
def rs55 : List RR := [.tmp 4]
theorem fun55 : FunR Tryz.prog 55 rc55 rs55 46 := ⟨Tryz.f55, Tryz.func55, by kernel_rfl, by kernel_rfl, by kernel_rfl⟩
/-- causeway/causewayref07.twin -/
def rc56 : RC :=
 .seq (.ops 0 false [
 oo 2 (.val (.c (.slice none 0 0)))] [])
 (.seq (.ops 1 false [
 oo 4 (.val (.t 0)),
 oo 5 (.len (.t 4)),
 oo 6 (.mkS 22 (.t 5) (.t 5)),
 oo 3 (.val (.t 6))] [])
 (.seq (.ops 2 false [
 oo 7 (.val (.t 3)),
 oo 8 (.val (.t 0)),
 oo 9 (.blt .copy #[22,22] 3 [.t 7,.t 8])] [])
 (.seq (.ops 3 false [
 oo 10 (.val (.t 3)),
 oo 2 (.val (.t 10))] [])
 (.ret))))
def rs56 : List RR := [.tmp 2]
theorem fun56 : FunR Tryz.prog 56 rc56 rs56 11 := ⟨Tryz.f56, Tryz.func56, by kernel_rfl, by kernel_rfl, by kernel_rfl⟩
/-- causeway/outbox.count -/
def rc57 : RC :=
 .seq (.ops 0 false [
 oo 2 (.val (.c (.bool false)))] [])
 (.seq (.ops 1 false [
 oo 3 (.val (.t 0)),
 oo 4 (.bin .geq (.t 3) (.c (.int .i64 0))),
 oo 5 (.val (.t 4)),
 ⟨some 6,.val (.t 0),some (5,true)⟩,
 ⟨some 7,.bin .lss (.t 6) (.c (.int .i64 1099511627776)),some (5,true)⟩,
 oo 8 (.pick (.t 5) (.t 7) (.c (.bool false))),
 oo 2 (.val (.t 8))] [])
 (.ret))
def rs57 : List RR := [.tmp 2]
theorem fun57 : FunR Tryz.prog 57 rc57 rs57 9 := ⟨Tryz.f57, Tryz.func57, by kernel_rfl, by kernel_rfl, by kernel_rfl⟩
/-- causeway/wide.IsZero -/
def rc58 : RC :=
 .seq (.ops 0 false [
 oo 1 (.box 43 (.t 0)),
 oo 2 (.val (.c (.bool false)))] [])
 (.seq (.ops 1 false [
 oo 3 (.loadN 4 (.t 1)),
 oo 4 (.build [(.int .u64 0),(.int .u64 0),(.int .u64 0),(.int .u64 0)] []),
 oo 5 (.eqn false 43 (.t 3) (.t 4)),
 oo 2 (.val (.t 5))] [])
 (.ret))
def rs58 : List RR := [.tmp 2]
theorem fun58 : FunR Tryz.prog 58 rc58 rs58 6 := ⟨Tryz.f58, Tryz.func58, by kernel_rfl, by kernel_rfl, by kernel_rfl⟩
/-- (*causeway/wire.Writer).lay -/
def rc59 : RC :=
 .seq (.ops 0 false [
 oo 9 (.val (.t 0)),
 oo 10 (.nilCheck (.t 9)),
 oo 11 (.fieldA 0 (.t 10)),
 oo 12 (.load (.t 11)),
 oo 13 (.len (.t 12)),
 oo 4 (.val (.t 13))] [])
 (.seq (.seq (.ops 1 false [
 oo 14 (.val (.t 1)),
 oo 15 (.len (.t 14)),
 oo 16 (.val (.c (.int .i64 0)))] [])
 (.block 0 (.loop (.seq (.ops 2 false [
 oo 17 (.bin .lss (.t 16) (.t 15))] [])
 (.seq (.cond (.t 17) (.skip)
 (.exit 0))
 (.seq (.block 1 (.seq (.ops 3 false [
 oo 18 (.indexS 1 (.t 14) (.t 16)),
 oo 19 (.load (.t 18)),
 oo 6 (.val (.t 19))] [])
 (.ops 4 false [
 oo 20 (.val (.t 4)),
 oo 21 (.val (.t 6)),
 oo 22 (.len (.t 21)),
 oo 23 (.bin .add (.t 20) (.t 22)),
 oo 4 (.val (.t 23))] [])))
 (.ops 5 false [
 oo 24 (.bin .add (.t 16) (.c (.int .i64 1))),
 oo 16 (.val (.t 24))] [])))))))
 (.block 2 (.seq (.ops 11 false [
 oo 42 (.val (.t 0)),
 oo 43 (.nilCheck (.t 42)),
 oo 44 (.fieldA 1 (.t 43)),
 oo 45 (.load (.t 44)),
 oo 46 (.bin .neq (.t 45) (.c (.int .i64 0))),
 oo 41 (.val (.t 46))] [])
 (.cond (.t 41) (.skip)
 (.seq (.ops 12 false [
 oo 48 (.val (.t 4)),
 oo 49 (.bin .gtr (.t 48) (.c (.int .i64 4194304))),
 oo 47 (.val (.t 49))] [])
 (.cond (.t 47) (.ops 13 false [
 oo 50 (.val (.t 0)),
 oo 51 (.nilCheck (.t 50)),
 oo 52 (.fieldA 1 (.t 51)),
 ⟨none,.store 1 (.t 52) (.c (.int .i64 30)),none⟩] [])
 (.seq (.ops 6 false [
 oo 25 (.val (.t 1)),
 oo 26 (.len (.t 25)),
 oo 27 (.val (.c (.int .i64 0)))] [])
 (.block 3 (.loop (.seq (.ops 7 false [
 oo 28 (.bin .lss (.t 27) (.t 26))] [])
 (.seq (.cond (.t 28) (.skip)
 (.exit 3))
 (.seq (.block 4 (.seq (.ops 8 false [
 oo 29 (.indexS 1 (.t 25) (.t 27)),
 oo 30 (.load (.t 29)),
 oo 8 (.val (.t 30))] [])
 (.ops 9 false [
 oo 31 (.val (.t 0)),
 oo 32 (.val (.t 0)),
 oo 33 (.nilCheck (.t 32)),
 oo 34 (.fieldA 0 (.t 33)),
 oo 35 (.load (.t 34)),
 oo 36 (.val (.t 8)),
 oo 37 (.blt .append #[22,22] 22 [.t 35,.t 36]),
 oo 38 (.nilCheck (.t 31)),
 oo 39 (.fieldA 0 (.t 38)),
 ⟨none,.store 1 (.t 39) (.t 37),none⟩] [])))
 (.ops 10 false [
 oo 40 (.bin .add (.t 27) (.c (.int .i64 1))),
 oo 27 (.val (.t 40))] [])))))))))))))
def rs59 : List RR := []
theorem fun59 : FunR Tryz.prog 59 rc59 rs59 53 := ⟨Tryz.f59, Tryz.func59, by kernel_rfl, by kernel_rfl, by kernel_rfl⟩
/-- causeway/wire.form -/
def rc60 : RC :=
 .seq (.ops 0 false [
 oo 2 (.val (.c (.slice none 0 0)))] [])
 (.seq (.ops 1 false [
 oo 3 (.alloc 154 (List.replicate 8 (.int .u8 0)))] [])
 (.seq (.seq (.ops 2 false [
 oo 5 (.val (.c (.int .i64 0)))] [])
 (.block 0 (.loop (.seq (.ops 3 false [
 oo 6 (.bin .lss (.t 5) (.c (.int .i64 8)))] [])
 (.seq (.cond (.t 6) (.skip)
 (.exit 0))
 (.seq (.block 1 (.seq (.ops 4 false [
 oo 7 (.val (.t 5)),
 oo 4 (.val (.t 7))] [])
 (.ops 5 false [
 oo 8 (.val (.t 4)),
 oo 9 (.val (.t 0)),
 oo 10 (.val (.t 4)),
 oo 11 (.bin .mul (.c (.int .i64 8)) (.t 10)),
 oo 12 (.bin .sub (.c (.int .i64 56)) (.t 11)),
 oo 13 (.bin .shr (.t 9) (.t 12)),
 oo 14 (.conv .u8 (.t 13)),
 oo 15 (.indexA 8 1 (.t 3) (.t 8)),
 ⟨none,.store 1 (.t 15) (.t 14),none⟩] [])))
 (.ops 6 false [
 oo 16 (.bin .add (.t 5) (.c (.int .i64 1))),
 oo 5 (.val (.t 16))] [])))))))
 (.seq (.ops 7 false [
 oo 17 (.sliceA 8 1 (.t 3) none none),
 oo 18 (.call 61 [.t 17]),
 oo 2 (.val (.t 18))] [])
 (.ret))))
def rs60 : List RR := [.tmp 2]
theorem fun60 : FunR Tryz.prog 60 rc60 rs60 19 := ⟨Tryz.f60, Tryz.func60, by kernel_rfl, by kernel_rfl, by kernel_rfl⟩
/-- causeway/wire.short -/
def rc61 : RC :=
 .seq (.ops 0 false [
 oo 2 (.val (.c (.slice none 0 0)))] [])
 (.seq (.block 0 (.loop (.seq (.seq (.ops 1 false [
 oo 3 (.val (.t 0)),
 oo 4 (.len (.t 3)),
 oo 5 (.bin .gtr (.t 4) (.c (.int .i64 0))),
 oo 6 (.val (.t 5)),
 ⟨some 7,.val (.t 0),some (6,true)⟩,
 ⟨some 8,.indexS 1 (.t 7) (.c (.int .i64 0)),some (6,true)⟩,
 ⟨some 9,.load (.t 8),some (6,true)⟩,
 ⟨some 10,.bin .eql (.t 9) (.c (.int .u8 0)),some (6,true)⟩,
 oo 11 (.pick (.t 6) (.t 10) (.c (.bool false)))] [])
 (.cond (.t 11) (.skip)
 (.exit 0)))
 (.block 1 (.ops 2 false [
 oo 12 (.val (.t 0)),
 oo 13 (.slice 1 (.t 12) (some (.c (.int .i64 1))) none none),
 oo 0 (.val (.t 13))] [])))))
 (.seq (.ops 3 false [
 oo 14 (.val (.t 0)),
 oo 15 (.len (.t 14)),
 oo 16 (.conv .u8 (.t 15)),
 oo 17 (.buildS 5 1 [(.int .u8 0)] [(0,1,(.t 16))]),
 oo 18 (.val (.t 0)),
 oo 19 (.blt .append #[22,22] 22 [.t 17,.t 18]),
 oo 2 (.val (.t 19))] [])
 (.ret)))
def rs61 : List RR := [.tmp 2]
theorem fun61 : FunR Tryz.prog 61 rc61 rs61 20 := ⟨Tryz.f61, Tryz.func61, by kernel_rfl, by kernel_rfl, by kernel_rfl⟩
/-- (*causeway/store.State).Get -/
def rc62 : RC :=
 .seq (.ops 0 false [
 oo 4 (.val (.c (.slice none 0 0))),
 oo 5 (.val (.c (.int .i64 0)))] [])
 (.seq (.seq (.ops 1 false [
 oo 8 (.val (.t 1)),
 oo 9 (.call 68 [(.t 8),(.c (.slice none 0 0))]),
 oo 6 (.val (.t 9))] [])
 (.seq (.ops 2 false [
 oo 10 (.val (.t 6)),
 oo 11 (.bin .neq (.t 10) (.c (.int .i64 0)))] [])
 (.cond (.t 11) (.seq (.ops 3 false [
 oo 12 (.val (.t 6)),
 oo 4 (.val (.c (.slice none 0 0))),
 oo 5 (.val (.t 12))] [])
 (.ret))
 (.skip))))
 (.seq (.seq (.ops 4 false [
 oo 13 (.val (.t 0)),
 oo 14 (.val (.t 1)),
 oo 15 (.call 69 [.t 13,.t 14]),
 oo 7 (.val (.t 15))] [])
 (.seq (.ops 5 false [
 oo 16 (.val (.t 7)),
 oo 17 (.bin .neq (.t 16) (.c (.int .i64 0)))] [])
 (.cond (.t 17) (.seq (.ops 6 false [
 oo 18 (.val (.t 7)),
 oo 4 (.val (.c (.slice none 0 0))),
 oo 5 (.val (.t 18))] [])
 (.ret))
 (.skip))))
 (.seq (.ops 7 false [
 oo 19 (.val (.t 0)),
 oo 20 (.val (.t 1)),
 oo 21 (.call 52 [.t 19,.t 20]),
 oo 22 (.call 54 [.t 21]),
 oo 4 (.val (.t 22)),
 oo 5 (.val (.c (.int .i64 0)))] [])
 (.ret))))
def rs62 : List RR := [.tmp 4, .tmp 5]
theorem fun62 : FunR Tryz.prog 62 rc62 rs62 23 := ⟨Tryz.f62, Tryz.func62, by kernel_rfl, by kernel_rfl, by kernel_rfl⟩
/-- causeway/tree.New -/
def rc63 : RC :=
 .seq (.ops 0 false [
 oo 0 (.val (.c (.pointer none)))] [])
 (.seq (.ops 1 false [
 oo 1 (.build [(.int .i64 0),(.slice none 0 0)] []),
 oo 2 (.box 140 (.t 1)),
 oo 0 (.val (.t 2))] [])
 (.ret))
def rs63 : List RR := [.tmp 0]
theorem fun63 : FunR Tryz.prog 63 rc63 rs63 3 := ⟨Tryz.f63, Tryz.func63, by kernel_rfl, by kernel_rfl, by kernel_rfl⟩
/-- causeway/tree.Resume -/
def rc64 : RC :=
 .seq (.ops 0 false [
 oo 4 (.val (.c (.pointer none))),
 oo 5 (.val (.c (.int .i64 0)))] [])
 (.seq (.seq (.ops 1 false [
 oo 6 (.val (.t 0)),
 oo 7 (.bin .lss (.t 6) (.c (.int .i64 0))),
 oo 8 (.val (.t 7)),
 ⟨some 9,.val (.t 0),some (8,false)⟩,
 ⟨some 10,.bin .gtr (.t 9) (.c (.int .i64 1099511627776)),some (8,false)⟩,
 oo 11 (.pick (.t 8) (.c (.bool true)) (.t 10))] [])
 (.cond (.t 11) (.seq (.ops 2 false [
 oo 4 (.val (.c (.pointer none))),
 oo 5 (.val (.c (.int .i64 40)))] [])
 (.ret))
 (.skip)))
 (.seq (.seq (.ops 3 false [
 oo 12 (.val (.t 1)),
 oo 13 (.len (.t 12)),
 oo 14 (.val (.t 0)),
 oo 15 (.conv .u64 (.t 14)),
 oo 16 (.call 87 [.t 15]),
 oo 17 (.bin .neq (.t 13) (.t 16))] [])
 (.cond (.t 17) (.seq (.ops 4 false [
 oo 4 (.val (.c (.pointer none))),
 oo 5 (.val (.c (.int .i64 42)))] [])
 (.ret))
 (.skip)))
 (.seq (.ops 5 false [
 oo 18 (.val (.t 0)),
 oo 19 (.val (.t 1)),
 oo 20 (.call 88 [.t 19]),
 oo 21 (.build [(.int .i64 0),(.slice none 0 0)] [(0,1,(.t 18)),(1,1,(.t 20))]),
 oo 22 (.box 140 (.t 21)),
 oo 4 (.val (.t 22)),
 oo 5 (.val (.c (.int .i64 0)))] [])
 (.ret))))
def rs64 : List RR := [.tmp 4, .tmp 5]
theorem fun64 : FunR Tryz.prog 64 rc64 rs64 23 := ⟨Tryz.f64, Tryz.func64, by kernel_rfl, by kernel_rfl, by kernel_rfl⟩
/-- causeway/tree.Leaf -/
def rc65 : RC :=
 .seq (.ops 0 false [
 oo 2 (.alloc 81 (List.replicate 32 (.int .u8 0)))] [])
 (.seq (.ops 1 false [
 oo 3 (.buildS 5 1 [(.int .u8 0)] [(0,1,(.c (.int .u8 0)))]),
 oo 4 (.val (.t 0)),
 oo 5 (.buildS 22 2 [(.slice none 0 0),(.slice none 0 0)] [(0,1,(.t 3)),(1,1,(.t 4))]),
 oo 6 (.call 89 [.t 5]),
 ⟨none,.store 32 (.t 2) (.t 6),none⟩] [])
 (.ret))
def rs65 : List RR := [.cell 2 (some 32)]
theorem fun65 : FunR Tryz.prog 65 rc65 rs65 7 := ⟨Tryz.f65, Tryz.func65, by kernel_rfl, by kernel_rfl, by kernel_rfl⟩
/-- math/bits.TrailingZeros -/
def rc66 : RC :=
 .seq (.ops 0 false [
 oo 2 (.val (.c (.int .i64 0)))] [])
 (.seq (.cond (.c (.bool false)) (.seq (.ops 1 false [
 oo 3 (.val (.t 0)),
 oo 4 (.conv .u32 (.t 3)),
 oo 5 (.call 90 [.t 4]),
 oo 2 (.val (.t 5))] [])
 (.ret))
 (.skip))
 (.seq (.ops 2 false [
 oo 6 (.val (.t 0)),
 oo 7 (.call 91 [.t 6]),
 oo 2 (.val (.t 7))] [])
 (.ret)))
def rs66 : List RR := [.tmp 2]
theorem fun66 : FunR Tryz.prog 66 rc66 rs66 8 := ⟨Tryz.f66, Tryz.func66, by kernel_rfl, by kernel_rfl, by kernel_rfl⟩
/-- causeway/tree.Node -/
def rc67 : RC :=
 .seq (.ops 0 false [
 oo 2 (.box 81 (.t 0)),
 oo 3 (.box 81 (.t 1)),
 oo 4 (.alloc 81 (List.replicate 32 (.int .u8 0)))] [])
 (.seq (.ops 1 true [
 oo 5 (.buildS 5 1 [(.int .u8 0)] [(0,1,(.c (.int .u8 1)))]),
 oo 6 (.sliceA 32 1 (.t 2) none none),
 oo 7 (.sliceA 32 1 (.t 3) none none),
 oo 8 (.buildS 22 3 [(.slice none 0 0),(.slice none 0 0),(.slice none 0 0)] [(0,1,(.t 5)),(1,1,(.t 6)),(2,1,(.t 7))]),
 oo 9 (.call 89 [.t 8]),
 ⟨none,.store 32 (.t 4) (.t 9),none⟩] [([],[]),([],[]),([],[]),([0,1,2],[0,1,2]),([3],[3]),([4,4,0,1,2,3,4],[4])])
 (.ret))
def rs67 : List RR := [.cell 4 (some 32)]
theorem fun67 : FunR Tryz.prog 67 rc67 rs67 10 := ⟨Tryz.f67, Tryz.func67, by kernel_rfl, by kernel_rfl, by kernel_rfl⟩
/-- causeway/store.may -/
def rc68 : RC :=
 .seq (.ops 0 false [
 oo 4 (.val (.c (.int .i64 0)))] [])
 (.seq (.block 0 (.seq (.ops 1 false [
 oo 6 (.val (.t 0)),
 oo 7 (.eqp .str false (.t 6) (.c (.string ⟨#[]⟩))),
 oo 8 (.val (.t 7)),
 ⟨some 9,.val (.t 0),some (8,false)⟩,
 ⟨some 10,.lenT (.t 9),some (8,false)⟩,
 ⟨some 11,.bin .gtr (.t 10) (.c (.int .i64 128)),some (8,false)⟩,
 oo 12 (.pick (.t 8) (.c (.bool true)) (.t 11)),
 oo 5 (.val (.t 12))] [])
 (.cond (.t 5) (.seq (.ops 2 false [
 oo 4 (.val (.c (.int .i64 70)))] [])
 (.ret))
 (.seq (.ops 3 false [
 oo 14 (.val (.t 1)),
 oo 15 (.len (.t 14)),
 oo 16 (.bin .gtr (.t 15) (.c (.int .i64 4096))),
 oo 13 (.val (.t 16))] [])
 (.cond (.t 13) (.seq (.ops 4 false [
 oo 4 (.val (.c (.int .i64 71)))] [])
 (.ret))
 (.skip))))))
 (.seq (.ops 5 false [
 oo 4 (.val (.c (.int .i64 0)))] [])
 (.ret)))
def rs68 : List RR := [.tmp 4]
theorem fun68 : FunR Tryz.prog 68 rc68 rs68 17 := ⟨Tryz.f68, Tryz.func68, by kernel_rfl, by kernel_rfl, by kernel_rfl⟩
/-- (*causeway/store.State).ask -/
def rc69 : RC :=
 .seq (.ops 0 false [
 oo 4 (.val (.c (.int .i64 0)))] [])
 (.seq (.seq (.ops 1 false [
 oo 10 (.val (.t 0)),
 oo 11 (.nilCheck (.t 10)),
 oo 12 (.fieldA 1 (.t 11)),
 oo 13 (.load (.t 12)),
 oo 14 (.val (.t 1)),
 oo 15 (.look 66 (.t 13) (.t 14) true),
 oo 9 (.val (.t 15)),
 oo 16 (.extract 0 (.t 9)),
 oo 17 (.extract 1 (.t 9)),
 oo 5 (.val (.t 16)),
 oo 6 (.val (.t 17))] [])
 (.seq (.ops 2 false [
 oo 18 (.val (.t 6))] [])
 (.cond (.t 18) (.seq (.ops 3 false [
 oo 4 (.val (.c (.int .i64 0)))] [])
 (.ret))
 (.skip))))
 (.seq (.ops 4 false [
 oo 20 (.val (.t 0)),
 oo 21 (.nilCheck (.t 20)),
 oo 22 (.fieldA 0 (.t 21)),
 oo 23 (.load (.t 22)),
 oo 24 (.val (.t 1)),
 oo 25 (.inv (.t 23) "Find" [.t 24]),
 oo 19 (.val (.t 25)),
 oo 26 (.extract 0 (.t 19)),
 oo 27 (.extract 1 (.t 19)),
 oo 7 (.val (.t 26)),
 oo 8 (.val (.t 27))] [])
 (.seq (.seq (.ops 5 false [
 oo 28 (.val (.t 8)),
 oo 29 (.bin .neq (.t 28) (.c (.int .i64 0)))] [])
 (.cond (.t 29) (.seq (.ops 6 false [
 oo 30 (.val (.t 8)),
 oo 4 (.val (.t 30))] [])
 (.ret))
 (.skip)))
 (.seq (.seq (.ops 7 false [
 oo 31 (.val (.t 7)),
 oo 32 (.len (.t 31)),
 oo 33 (.bin .gtr (.t 32) (.c (.int .i64 4096)))] [])
 (.cond (.t 33) (.seq (.ops 8 false [
 oo 4 (.val (.c (.int .i64 71)))] [])
 (.ret))
 (.skip)))
 (.seq (.ops 9 true [
 oo 34 (.val (.t 0)),
 oo 35 (.nilCheck (.t 34)),
 oo 36 (.fieldA 1 (.t 35)),
 oo 37 (.load (.t 36)),
 oo 38 (.val (.t 1)),
 oo 39 (.val (.t 7)),
 oo 40 (.call 54 [.t 39]),
 ⟨none,.upd 66 (.t 37) (.t 38) (.t 40),none⟩] [([],[]),([0],[0]),([1],[1]),([2],[2]),([],[]),([],[]),([5],[5]),([3,4,6,6,0,1,2,3,4,5,6],[3,4,6])])
 (.seq (.ops 10 false [
 oo 4 (.val (.c (.int .i64 0)))] [])
 (.ret)))))))
def rs69 : List RR := [.tmp 4]
theorem fun69 : FunR Tryz.prog 69 rc69 rs69 41 := ⟨Tryz.f69, Tryz.func69, by kernel_rfl, by kernel_rfl, by kernel_rfl⟩
/-- (*causeway/tree.Log).Front -/
def rc70 : RC :=
 .seq (.ops 0 false [
 oo 2 (.val (.c (.slice none 0 0)))] [])
 (.seq (.ops 1 false [
 oo 3 (.val (.t 0)),
 oo 4 (.nilCheck (.t 3)),
 oo 5 (.fieldA 1 (.t 4)),
 oo 6 (.load (.t 5)),
 oo 7 (.call 88 [.t 6]),
 oo 2 (.val (.t 7))] [])
 (.ret))
def rs70 : List RR := [.tmp 2]
theorem fun70 : FunR Tryz.prog 70 rc70 rs70 8 := ⟨Tryz.f70, Tryz.func70, by kernel_rfl, by kernel_rfl, by kernel_rfl⟩
/-- (*causeway/causewayref07.State).Get -/
def rc71 : RC :=
 .seq (.ops 0 false [
 oo 4 (.val (.c (.slice none 0 0))),
 oo 5 (.val (.c (.int .i64 0)))] [])
 (.seq (.ops 1 false [
 oo 7 (.val (.t 1)),
 oo 8 (.call 79 [(.t 7),(.c (.slice none 0 0))]),
 oo 6 (.val (.t 8))] [])
 (.seq (.seq (.ops 2 false [
 oo 9 (.val (.t 6)),
 oo 10 (.bin .neq (.t 9) (.c (.int .i64 0)))] [])
 (.cond (.t 10) (.seq (.ops 3 false [
 oo 11 (.val (.t 6)),
 oo 4 (.val (.c (.slice none 0 0))),
 oo 5 (.val (.t 11))] [])
 (.ret))
 (.skip)))
 (.seq (.ops 4 false [
 oo 12 (.val (.t 0)),
 oo 13 (.val (.t 1)),
 oo 14 (.call 80 [.t 12,.t 13]),
 oo 6 (.val (.t 14))] [])
 (.seq (.seq (.ops 5 false [
 oo 15 (.val (.t 6)),
 oo 16 (.bin .neq (.t 15) (.c (.int .i64 0)))] [])
 (.cond (.t 16) (.seq (.ops 6 false [
 oo 17 (.val (.t 6)),
 oo 4 (.val (.c (.slice none 0 0))),
 oo 5 (.val (.t 17))] [])
 (.ret))
 (.skip)))
 (.seq (.ops 7 false [
 oo 18 (.val (.t 0)),
 oo 19 (.val (.t 1)),
 oo 20 (.call 55 [.t 18,.t 19]),
 oo 21 (.call 56 [.t 20]),
 oo 4 (.val (.t 21)),
 oo 5 (.val (.c (.int .i64 0)))] [])
 (.ret))))))
def rs71 : List RR := [.tmp 4, .tmp 5]
theorem fun71 : FunR Tryz.prog 71 rc71 rs71 22 := ⟨Tryz.f71, Tryz.func71, by kernel_rfl, by kernel_rfl, by kernel_rfl⟩
/-- causeway/causewayref04.Resume -/
def rc72 : RC :=
 .seq (.ops 0 false [
 oo 4 (.alloc 111 [(.int .i64 0),(.slice none 0 0)]),
 oo 5 (.val (.c (.int .i64 0)))] [])
 (.seq (.seq (.ops 1 false [
 oo 7 (.val (.t 0)),
 oo 8 (.bin .lss (.t 7) (.c (.int .i64 0))),
 oo 9 (.val (.t 8)),
 ⟨some 10,.val (.t 0),some (9,false)⟩,
 ⟨some 11,.bin .gtr (.t 10) (.c (.int .i64 1099511627776)),some (9,false)⟩,
 oo 12 (.pick (.t 9) (.c (.bool true)) (.t 11))] [])
 (.cond (.t 12) (.seq (.ops 2 false [
 oo 13 (.build [(.int .i64 0),(.slice none 0 0)] []),
 ⟨none,.store 2 (.t 4) (.t 13),none⟩,
 oo 5 (.val (.c (.int .i64 40)))] [])
 (.ret))
 (.skip)))
 (.seq (.seq (.ops 3 false [
 oo 14 (.val (.t 1)),
 oo 15 (.len (.t 14)),
 oo 16 (.val (.t 0)),
 oo 17 (.call 92 [.t 16]),
 oo 18 (.bin .neq (.t 15) (.t 17))] [])
 (.cond (.t 18) (.seq (.ops 4 false [
 oo 19 (.build [(.int .i64 0),(.slice none 0 0)] []),
 ⟨none,.store 2 (.t 4) (.t 19),none⟩,
 oo 5 (.val (.c (.int .i64 42)))] [])
 (.ret))
 (.skip)))
 (.seq (.ops 5 false [
 oo 20 (.val (.t 1)),
 oo 21 (.len (.t 20)),
 oo 22 (.mkS 109 (.t 21) (.t 21)),
 oo 6 (.val (.t 22))] [])
 (.seq (.ops 6 false [
 oo 23 (.val (.t 6)),
 oo 24 (.val (.t 1)),
 oo 25 (.blt .copy #[109,109] 3 [.t 23,.t 24])] [])
 (.seq (.ops 7 false [
 oo 26 (.val (.t 0)),
 oo 27 (.val (.t 6)),
 oo 28 (.build [(.int .i64 0),(.slice none 0 0)] [(0,1,(.t 26)),(1,1,(.t 27))]),
 ⟨none,.store 2 (.t 4) (.t 28),none⟩,
 oo 5 (.val (.c (.int .i64 0)))] [])
 (.ret))))))
def rs72 : List RR := [.cell 4 (some 2), .tmp 5]
theorem fun72 : FunR Tryz.prog 72 rc72 rs72 29 := ⟨Tryz.f72, Tryz.func72, by kernel_rfl, by kernel_rfl, by kernel_rfl⟩
/-- causeway/causewayref04.Leaf -/
def rc73 : RC :=
 .seq (.ops 0 false [
 oo 2 (.alloc 81 (List.replicate 32 (.int .u8 0)))] [])
 (.seq (.ops 1 false [
 oo 4 (.val (.t 0)),
 oo 5 (.call 93 [.t 4]),
 oo 3 (.val (.t 5))] [])
 (.seq (.ops 2 false [
 oo 6 (.val (.t 3)),
 oo 7 (.call 82 [.t 6]),
 ⟨none,.store 32 (.t 2) (.t 7),none⟩] [])
 (.ret)))
def rs73 : List RR := [.cell 2 (some 32)]
theorem fun73 : FunR Tryz.prog 73 rc73 rs73 8 := ⟨Tryz.f73, Tryz.func73, by kernel_rfl, by kernel_rfl, by kernel_rfl⟩
/-- causeway/causewayref04.Node -/
def rc74 : RC :=
 .seq (.ops 0 false [
 oo 2 (.box 81 (.t 0)),
 oo 3 (.box 81 (.t 1)),
 oo 4 (.alloc 81 (List.replicate 32 (.int .u8 0)))] [])
 (.seq (.ops 1 false [
 oo 6 (.loadN 32 (.t 2)),
 oo 7 (.loadN 32 (.t 3)),
 oo 8 (.call 94 [.t 6,.t 7]),
 oo 5 (.val (.t 8))] [])
 (.seq (.ops 2 false [
 oo 9 (.val (.t 5)),
 oo 10 (.call 82 [.t 9]),
 ⟨none,.store 32 (.t 4) (.t 10),none⟩] [])
 (.ret)))
def rs74 : List RR := [.cell 4 (some 32)]
theorem fun74 : FunR Tryz.prog 74 rc74 rs74 11 := ⟨Tryz.f74, Tryz.func74, by kernel_rfl, by kernel_rfl, by kernel_rfl⟩
/-- (*causeway/causewayref03.Writer).Byte -/
def rc75 : RC :=
 .ops 0 false [
 oo 4 (.val (.t 0)),
 oo 5 (.val (.t 1)),
 oo 6 (.buildS 5 1 [(.int .u8 0)] [(0,1,(.t 5))]),
 oo 7 (.call 95 [.t 4,.t 6])] []
def rs75 : List RR := []
theorem fun75 : FunR Tryz.prog 75 rc75 rs75 8 := ⟨Tryz.f75, Tryz.func75, by kernel_rfl, by kernel_rfl, by kernel_rfl⟩
/-- (*causeway/causewayref03.Writer).Number -/
def rc76 : RC :=
 .seq (.seq (.ops 0 false [
 oo 4 (.val (.t 0)),
 oo 5 (.nilCheck (.t 4)),
 oo 6 (.fieldA 1 (.t 5)),
 oo 7 (.load (.t 6)),
 oo 8 (.bin .neq (.t 7) (.c (.int .i64 0)))] [])
 (.cond (.t 8) (.ret)
 (.skip)))
 (.seq (.seq (.ops 1 false [
 oo 9 (.val (.t 1)),
 oo 10 (.bin .lss (.t 9) (.c (.int .i64 0)))] [])
 (.cond (.t 10) (.seq (.ops 2 false [
 oo 11 (.val (.t 0)),
 oo 12 (.nilCheck (.t 11)),
 oo 13 (.fieldA 1 (.t 12)),
 ⟨none,.store 1 (.t 13) (.c (.int .i64 32)),none⟩] [])
 (.ret))
 (.skip)))
 (.ops 3 false [
 oo 14 (.val (.t 0)),
 oo 15 (.val (.t 1)),
 oo 16 (.call 96 [.t 15]),
 oo 17 (.call 95 [.t 14,.t 16])] []))
def rs76 : List RR := []
theorem fun76 : FunR Tryz.prog 76 rc76 rs76 18 := ⟨Tryz.f76, Tryz.func76, by kernel_rfl, by kernel_rfl, by kernel_rfl⟩
/-- (*causeway/causewayref03.Writer).Address -/
def rc77 : RC :=
 .seq (.ops 0 false [
 oo 3 (.box 40 (.t 1))] [])
 (.ops 1 false [
 oo 4 (.val (.t 0)),
 oo 5 (.sliceA 20 1 (.t 3) none none),
 oo 6 (.call 95 [.t 4,.t 5])] [])
def rs77 : List RR := []
theorem fun77 : FunR Tryz.prog 77 rc77 rs77 7 := ⟨Tryz.f77, Tryz.func77, by kernel_rfl, by kernel_rfl, by kernel_rfl⟩
/-- (*causeway/causewayref03.Writer).Wide -/
def rc78 : RC :=
 .seq (.ops 0 false [
 oo 3 (.box 43 (.t 1))] [])
 (.ops 1 false [
 oo 4 (.val (.t 0)),
 oo 5 (.loadN 4 (.t 3)),
 oo 6 (.call 97 [.t 5]),
 oo 7 (.call 95 [.t 4,.t 6])] [])
def rs78 : List RR := []
theorem fun78 : FunR Tryz.prog 78 rc78 rs78 8 := ⟨Tryz.f78, Tryz.func78, by kernel_rfl, by kernel_rfl, by kernel_rfl⟩
/-- causeway/causewayref07.May -/
def rc79 : RC :=
 .seq (.ops 0 false [
 oo 4 (.val (.c (.int .i64 0)))] [])
 (.seq (.seq (.ops 1 false [
 oo 5 (.val (.t 0)),
 oo 6 (.lenT (.t 5)),
 oo 7 (.bin .lss (.t 6) (.c (.int .i64 1))),
 oo 8 (.val (.t 7)),
 ⟨some 9,.val (.t 0),some (8,false)⟩,
 ⟨some 10,.lenT (.t 9),some (8,false)⟩,
 ⟨some 11,.bin .gtr (.t 10) (.c (.int .i64 128)),some (8,false)⟩,
 oo 12 (.pick (.t 8) (.c (.bool true)) (.t 11))] [])
 (.cond (.t 12) (.seq (.ops 2 false [
 oo 4 (.val (.c (.int .i64 70)))] [])
 (.ret))
 (.skip)))
 (.seq (.seq (.ops 3 false [
 oo 13 (.val (.t 1)),
 oo 14 (.len (.t 13)),
 oo 15 (.bin .gtr (.t 14) (.c (.int .i64 4096)))] [])
 (.cond (.t 15) (.seq (.ops 4 false [
 oo 4 (.val (.c (.int .i64 71)))] [])
 (.ret))
 (.skip)))
 (.seq (.ops 5 false [
 oo 4 (.val (.c (.int .i64 0)))] [])
 (.ret))))
def rs79 : List RR := [.tmp 4]
theorem fun79 : FunR Tryz.prog 79 rc79 rs79 16 := ⟨Tryz.f79, Tryz.func79, by kernel_rfl, by kernel_rfl, by kernel_rfl⟩
/-- (*causeway/causewayref07.State).ask -/
def rc80 : RC :=
 .seq (.ops 0 false [
 oo 4 (.val (.c (.int .i64 0)))] [])
 (.seq (.ops 1 false [
 oo 6 (.val (.t 0)),
 oo 7 (.val (.t 1)),
 oo 8 (.call 98 [.t 6,.t 7]),
 oo 5 (.val (.t 8))] [])
 (.seq (.seq (.ops 2 false [
 oo 9 (.val (.t 5)),
 oo 10 (.bin .neq (.t 9) (.c (.int .i64 0))),
 oo 11 (.val (.t 10)),
 ⟨some 12,.val (.t 0),some (11,true)⟩,
 ⟨some 13,.nilCheck (.t 12),some (11,true)⟩,
 ⟨some 14,.fieldA 6 (.t 13),some (11,true)⟩,
 ⟨some 15,.load (.t 14),some (11,true)⟩,
 ⟨some 16,.bin .eql (.t 15) (.c (.int .i64 0)),some (11,true)⟩,
 oo 17 (.pick (.t 11) (.t 16) (.c (.bool false)))] [])
 (.cond (.t 17) (.ops 3 false [
 oo 18 (.val (.t 0)),
 oo 19 (.val (.t 5)),
 oo 20 (.nilCheck (.t 18)),
 oo 21 (.fieldA 6 (.t 20)),
 ⟨none,.store 1 (.t 21) (.t 19),none⟩] [])
 (.skip)))
 (.seq (.ops 4 false [
 oo 22 (.val (.t 5)),
 oo 4 (.val (.t 22))] [])
 (.ret))))
def rs80 : List RR := [.tmp 4]
theorem fun80 : FunR Tryz.prog 80 rc80 rs80 23 := ⟨Tryz.f80, Tryz.func80, by kernel_rfl, by kernel_rfl, by kernel_rfl⟩
/-- causeway/tree.none -/
def rc81 : RC :=
 .seq (.ops 0 false [
 oo 0 (.alloc 81 (List.replicate 32 (.int .u8 0)))] [])
 (.seq (.ops 1 false [
 oo 1 (.call 99 [(.c (.slice none 0 0))]),
 ⟨none,.store 32 (.t 0) (.t 1),none⟩] [])
 (.ret))
def rs81 : List RR := [.cell 0 (some 32)]
theorem fun81 : FunR Tryz.prog 81 rc81 rs81 2 := ⟨Tryz.f81, Tryz.func81, by kernel_rfl, by kernel_rfl, by kernel_rfl⟩
/-- causeway/causewayref01.Sum -/
def rc82 : RC :=
 .seq (.ops 0 false [
 oo 2 (.alloc 81 (List.replicate 32 (.int .u8 0)))] [])
 (.seq (.ops 1 false [
 oo 3 (.val (.t 0)),
 oo 4 (.val (.t 0)),
 oo 5 (.len (.t 4)),
 oo 6 (.bin .mul (.c (.int .i64 8)) (.t 5)),
 oo 7 (.call 100 [.t 3,.t 6]),
 ⟨none,.store 32 (.t 2) (.t 7),none⟩] [])
 (.ret))
def rs82 : List RR := [.cell 2 (some 32)]
theorem fun82 : FunR Tryz.prog 82 rc82 rs82 8 := ⟨Tryz.f82, Tryz.func82, by kernel_rfl, by kernel_rfl, by kernel_rfl⟩
/-- causeway/causewayref07.at -/
def rc86 : RC :=
 .seq (.ops 0 false [
 oo 4 (.val (.c (.slice none 0 0))),
 oo 5 (.val (.c (.bool false)))] [])
 (.seq (.seq (.ops 1 false [
 oo 6 (.val (.c (.int .i64 0)))] [])
 (.block 0 (.loop (.seq (.seq (.ops 2 false [
 oo 7 (.val (.t 6)),
 oo 8 (.val (.t 0)),
 oo 9 (.len (.t 8)),
 oo 10 (.bin .lss (.t 7) (.t 9))] [])
 (.cond (.t 10) (.skip)
 (.exit 0)))
 (.seq (.block 1 (.seq (.ops 4 false [
 oo 13 (.val (.t 0)),
 oo 14 (.val (.t 6)),
 oo 15 (.indexS 2 (.t 13) (.t 14)),
 oo 16 (.fieldA 0 (.t 15)),
 oo 17 (.load (.t 16)),
 oo 18 (.val (.t 1)),
 oo 19 (.eqp .str false (.t 17) (.t 18))] [])
 (.cond (.t 19) (.seq (.ops 5 false [
 oo 20 (.val (.t 0)),
 oo 21 (.val (.t 6)),
 oo 22 (.indexS 2 (.t 20) (.t 21)),
 oo 23 (.fieldA 1 (.t 22)),
 oo 24 (.load (.t 23)),
 oo 4 (.val (.t 24)),
 oo 5 (.val (.c (.bool true)))] [])
 (.ret))
 (.skip))))
 (.ops 3 false [
 oo 11 (.val (.t 6)),
 oo 12 (.bin .add (.t 11) (.c (.int .i64 1))),
 oo 6 (.val (.t 12))] []))))))
 (.seq (.ops 6 false [
 oo 4 (.val (.c (.slice none 0 0))),
 oo 5 (.val (.c (.bool false)))] [])
 (.ret)))
def rs86 : List RR := [.tmp 4, .tmp 5]
theorem fun86 : FunR Tryz.prog 86 rc86 rs86 25 := ⟨Tryz.f86, Tryz.func86, by kernel_rfl, by kernel_rfl, by kernel_rfl⟩
/-- math/bits.OnesCount -/
def rc87 : RC :=
 .seq (.ops 0 false [
 oo 2 (.val (.c (.int .i64 0)))] [])
 (.seq (.cond (.c (.bool false)) (.seq (.ops 1 false [
 oo 3 (.val (.t 0)),
 oo 4 (.conv .u32 (.t 3)),
 oo 5 (.call 104 [.t 4]),
 oo 2 (.val (.t 5))] [])
 (.ret))
 (.skip))
 (.seq (.ops 2 false [
 oo 6 (.val (.t 0)),
 oo 7 (.call 105 [.t 6]),
 oo 2 (.val (.t 7))] [])
 (.ret)))
def rs87 : List RR := [.tmp 2]
theorem fun87 : FunR Tryz.prog 87 rc87 rs87 8 := ⟨Tryz.f87, Tryz.func87, by kernel_rfl, by kernel_rfl, by kernel_rfl⟩
/-- slices.Clone[[]causeway/api.Digest,causeway/api.Digest] -/
def rc88 : RC :=
 .seq (.ops 0 false [
 oo 2 (.val (.c (.slice none 0 0)))] [])
 (.seq (.seq (.ops 1 false [
 oo 3 (.val (.t 0)),
 oo 4 (.eqp .slc false (.t 3) (.c (.slice none 0 0)))] [])
 (.cond (.t 4) (.seq (.ops 2 false [
 oo 2 (.val (.c (.slice none 0 0)))] [])
 (.ret))
 (.skip)))
 (.seq (.ops 3 false [
 oo 5 (.buildS 81 0 [] []),
 oo 6 (.val (.t 0)),
 oo 7 (.blt .append #[109,109] 109 [.t 5,.t 6]),
 oo 2 (.val (.t 7))] [])
 (.ret)))
def rs88 : List RR := [.tmp 2]
theorem fun88 : FunR Tryz.prog 88 rc88 rs88 8 := ⟨Tryz.f88, Tryz.func88, by kernel_rfl, by kernel_rfl, by kernel_rfl⟩
/-- causeway/digest.Parts -/
def rc89 : RC :=
 .seq (.ops 0 false [
 oo 2 (.alloc 81 (List.replicate 32 (.int .u8 0)))] [])
 (.seq (.ops 1 false [
 oo 6 (.call 106 []),
 oo 3 (.val (.t 6))] [])
 (.seq (.seq (.ops 2 false [
 oo 7 (.val (.t 0)),
 oo 8 (.len (.t 7)),
 oo 9 (.val (.c (.int .i64 0)))] [])
 (.block 0 (.loop (.seq (.ops 3 false [
 oo 10 (.bin .lss (.t 9) (.t 8))] [])
 (.seq (.cond (.t 10) (.skip)
 (.exit 0))
 (.seq (.block 1 (.seq (.ops 4 false [
 oo 11 (.indexS 1 (.t 7) (.t 9)),
 oo 12 (.load (.t 11)),
 oo 5 (.val (.t 12))] [])
 (.ops 5 false [
 oo 13 (.val (.t 3)),
 oo 14 (.val (.t 5)),
 oo 15 (.call 107 [.t 13,.t 14])] [])))
 (.ops 6 false [
 oo 16 (.bin .add (.t 9) (.c (.int .i64 1))),
 oo 9 (.val (.t 16))] [])))))))
 (.seq (.ops 7 false [
 oo 17 (.val (.t 3)),
 oo 18 (.call 108 [.t 17]),
 ⟨none,.store 32 (.t 2) (.t 18),none⟩] [])
 (.ret))))
def rs89 : List RR := [.cell 2 (some 32)]
theorem fun89 : FunR Tryz.prog 89 rc89 rs89 19 := ⟨Tryz.f89, Tryz.func89, by kernel_rfl, by kernel_rfl, by kernel_rfl⟩
/-- math/bits.TrailingZeros64 -/
def rc91 : RC :=
 .seq (.ops 0 false [
 oo 2 (.val (.c (.int .i64 0)))] [])
 (.seq (.seq (.ops 1 false [
 oo 3 (.val (.t 0)),
 oo 4 (.bin .eql (.t 3) (.c (.int .u64 0)))] [])
 (.cond (.t 4) (.seq (.ops 2 false [
 oo 2 (.val (.c (.int .i64 64)))] [])
 (.ret))
 (.skip)))
 (.seq (.ops 3 false [
 oo 5 (.val (.t 0)),
 oo 6 (.val (.t 0)),
 oo 7 (.neg (.t 6)),
 oo 8 (.bin .and (.t 5) (.t 7)),
 oo 9 (.bin .mul (.t 8) (.c (.int .u64 285870213051353865))),
 oo 10 (.bin .shr (.t 9) (.c (.int .u64 58))),
 oo 11 (.indexA 64 1 (.c (.pointer (some ⟨1,0,none⟩))) (.t 10)),
 oo 12 (.load (.t 11)),
 oo 13 (.conv .i64 (.t 12)),
 oo 2 (.val (.t 13))] [])
 (.ret)))
def rs91 : List RR := [.tmp 2]
theorem fun91 : FunR Tryz.prog 91 rc91 rs91 14 := ⟨Tryz.f91, Tryz.func91, by kernel_rfl, by kernel_rfl, by kernel_rfl⟩
/-- causeway/causewayref04.ones -/
def rc92 : RC :=
 .seq (.ops 0 false [
 oo 2 (.val (.c (.int .i64 0)))] [])
 (.seq (.ops 1 false [
 oo 3 (.val (.c (.int .i64 0)))] [])
 (.seq (.block 0 (.loop (.seq (.seq (.ops 2 false [
 oo 4 (.val (.t 0)),
 oo 5 (.bin .gtr (.t 4) (.c (.int .i64 0)))] [])
 (.cond (.t 5) (.skip)
 (.exit 0)))
 (.block 1 (.seq (.ops 3 false [
 oo 6 (.val (.t 3)),
 oo 7 (.val (.t 0)),
 oo 8 (.bin .rem (.t 7) (.c (.int .i64 2))),
 oo 9 (.bin .add (.t 6) (.t 8)),
 oo 3 (.val (.t 9))] [])
 (.ops 4 false [
 oo 10 (.val (.t 0)),
 oo 11 (.bin .quo (.t 10) (.c (.int .i64 2))),
 oo 0 (.val (.t 11))] []))))))
 (.seq (.ops 5 false [
 oo 12 (.val (.t 3)),
 oo 2 (.val (.t 12))] [])
 (.ret))))
def rs92 : List RR := [.tmp 2]
theorem fun92 : FunR Tryz.prog 92 rc92 rs92 13 := ⟨Tryz.f92, Tryz.func92, by kernel_rfl, by kernel_rfl, by kernel_rfl⟩
/-- causeway/causewayref04.LeafText -/
def rc93 : RC :=
 .seq (.ops 0 false [
 oo 2 (.val (.c (.slice none 0 0)))] [])
 (.seq (.ops 1 false [
 oo 4 (.buildS 5 1 [(.int .u8 0)] [(0,1,(.c (.int .u8 0)))]),
 oo 3 (.val (.t 4))] [])
 (.seq (.ops 2 false [
 oo 5 (.val (.t 3)),
 oo 6 (.val (.t 0)),
 oo 7 (.blt .append #[22,22] 22 [.t 5,.t 6]),
 oo 2 (.val (.t 7))] [])
 (.ret)))
def rs93 : List RR := [.tmp 2]
theorem fun93 : FunR Tryz.prog 93 rc93 rs93 8 := ⟨Tryz.f93, Tryz.func93, by kernel_rfl, by kernel_rfl, by kernel_rfl⟩
/-- causeway/causewayref04.NodeText -/
def rc94 : RC :=
 .seq (.ops 0 false [
 oo 2 (.box 81 (.t 0)),
 oo 3 (.box 81 (.t 1)),
 oo 4 (.val (.c (.slice none 0 0)))] [])
 (.seq (.ops 1 false [
 oo 6 (.buildS 5 1 [(.int .u8 0)] [(0,1,(.c (.int .u8 1)))]),
 oo 5 (.val (.t 6))] [])
 (.seq (.ops 2 false [
 oo 7 (.val (.t 5)),
 oo 8 (.sliceA 32 1 (.t 2) none none),
 oo 9 (.blt .append #[22,22] 22 [.t 7,.t 8]),
 oo 5 (.val (.t 9))] [])
 (.seq (.ops 3 false [
 oo 10 (.val (.t 5)),
 oo 11 (.sliceA 32 1 (.t 3) none none),
 oo 12 (.blt .append #[22,22] 22 [.t 10,.t 11]),
 oo 4 (.val (.t 12))] [])
 (.ret))))
def rs94 : List RR := [.tmp 4]
theorem fun94 : FunR Tryz.prog 94 rc94 rs94 13 := ⟨Tryz.f94, Tryz.func94, by kernel_rfl, by kernel_rfl, by kernel_rfl⟩
/-- (*causeway/causewayref03.Writer).lay -/
def rc95 : RC :=
 .seq (.seq (.ops 0 false [
 oo 4 (.val (.t 0)),
 oo 5 (.nilCheck (.t 4)),
 oo 6 (.fieldA 1 (.t 5)),
 oo 7 (.load (.t 6)),
 oo 8 (.bin .neq (.t 7) (.c (.int .i64 0)))] [])
 (.cond (.t 8) (.ret)
 (.skip)))
 (.seq (.seq (.ops 1 false [
 oo 9 (.val (.t 0)),
 oo 10 (.nilCheck (.t 9)),
 oo 11 (.fieldA 0 (.t 10)),
 oo 12 (.load (.t 11)),
 oo 13 (.len (.t 12)),
 oo 14 (.val (.t 1)),
 oo 15 (.len (.t 14)),
 oo 16 (.bin .add (.t 13) (.t 15)),
 oo 17 (.bin .gtr (.t 16) (.c (.int .i64 4194304)))] [])
 (.cond (.t 17) (.seq (.ops 2 false [
 oo 18 (.val (.t 0)),
 oo 19 (.nilCheck (.t 18)),
 oo 20 (.fieldA 1 (.t 19)),
 ⟨none,.store 1 (.t 20) (.c (.int .i64 30)),none⟩] [])
 (.ret))
 (.skip)))
 (.ops 3 false [
 oo 21 (.val (.t 0)),
 oo 22 (.val (.t 0)),
 oo 23 (.nilCheck (.t 22)),
 oo 24 (.fieldA 0 (.t 23)),
 oo 25 (.load (.t 24)),
 oo 26 (.val (.t 1)),
 oo 27 (.blt .append #[22,22] 22 [.t 25,.t 26]),
 oo 28 (.nilCheck (.t 21)),
 oo 29 (.fieldA 0 (.t 28)),
 ⟨none,.store 1 (.t 29) (.t 27),none⟩] []))
def rs95 : List RR := []
theorem fun95 : FunR Tryz.prog 95 rc95 rs95 30 := ⟨Tryz.f95, Tryz.func95, by kernel_rfl, by kernel_rfl, by kernel_rfl⟩
/-- causeway/causewayref03.Number -/
def rc96 : RC :=
 .seq (.ops 0 false [
 oo 2 (.val (.c (.slice none 0 0)))] [])
 (.seq (.ops 1 false [
 oo 3 (.alloc 154 (List.replicate 8 (.int .u8 0)))] [])
 (.seq (.ops 2 false [
 oo 8 (.val (.t 0)),
 oo 4 (.val (.t 8))] [])
 (.seq (.seq (.ops 3 false [
 oo 5 (.val (.c (.int .i64 7)))] [])
 (.block 0 (.loop (.seq (.seq (.ops 4 false [
 oo 9 (.val (.t 5)),
 oo 10 (.bin .geq (.t 9) (.c (.int .i64 0)))] [])
 (.cond (.t 10) (.skip)
 (.exit 0)))
 (.seq (.block 1 (.seq (.ops 6 false [
 oo 13 (.val (.t 5)),
 oo 14 (.val (.t 4)),
 oo 15 (.bin .rem (.t 14) (.c (.int .i64 256))),
 oo 16 (.conv .u8 (.t 15)),
 oo 17 (.indexA 8 1 (.t 3) (.t 13)),
 ⟨none,.store 1 (.t 17) (.t 16),none⟩] [])
 (.ops 7 false [
 oo 18 (.val (.t 4)),
 oo 19 (.bin .quo (.t 18) (.c (.int .i64 256))),
 oo 4 (.val (.t 19))] [])))
 (.ops 5 false [
 oo 11 (.val (.t 5)),
 oo 12 (.bin .sub (.t 11) (.c (.int .i64 1))),
 oo 5 (.val (.t 12))] []))))))
 (.seq (.ops 8 false [
 oo 20 (.sliceA 8 1 (.t 3) none none),
 oo 21 (.call 109 [.t 20]),
 oo 6 (.val (.t 21))] [])
 (.seq (.ops 9 false [
 oo 22 (.val (.t 6)),
 oo 23 (.len (.t 22)),
 oo 24 (.conv .u8 (.t 23)),
 oo 25 (.buildS 5 1 [(.int .u8 0)] [(0,1,(.t 24))]),
 oo 7 (.val (.t 25))] [])
 (.seq (.ops 10 false [
 oo 26 (.val (.t 7)),
 oo 27 (.val (.t 6)),
 oo 28 (.blt .append #[22,22] 22 [.t 26,.t 27]),
 oo 2 (.val (.t 28))] [])
 (.ret)))))))
def rs96 : List RR := [.tmp 2]
theorem fun96 : FunR Tryz.prog 96 rc96 rs96 29 := ⟨Tryz.f96, Tryz.func96, by kernel_rfl, by kernel_rfl, by kernel_rfl⟩
/-- causeway/causewayref03.Wide -/
def rc97 : RC :=
 .seq (.ops 0 false [
 oo 1 (.box 43 (.t 0)),
 oo 2 (.val (.c (.slice none 0 0)))] [])
 (.seq (.ops 1 false [
 oo 6 (.loadN 4 (.t 1)),
 oo 7 (.call 110 [.t 6]),
 oo 3 (.val (.t 7))] [])
 (.seq (.ops 2 false [
 oo 8 (.val (.t 3)),
 oo 9 (.call 109 [.t 8]),
 oo 4 (.val (.t 9))] [])
 (.seq (.ops 3 false [
 oo 10 (.val (.t 4)),
 oo 11 (.len (.t 10)),
 oo 12 (.conv .u8 (.t 11)),
 oo 13 (.buildS 5 1 [(.int .u8 0)] [(0,1,(.t 12))]),
 oo 5 (.val (.t 13))] [])
 (.seq (.ops 4 false [
 oo 14 (.val (.t 5)),
 oo 15 (.val (.t 4)),
 oo 16 (.blt .append #[22,22] 22 [.t 14,.t 15]),
 oo 2 (.val (.t 16))] [])
 (.ret)))))
def rs97 : List RR := [.tmp 2]
theorem fun97 : FunR Tryz.prog 97 rc97 rs97 17 := ⟨Tryz.f97, Tryz.func97, by kernel_rfl, by kernel_rfl, by kernel_rfl⟩
/-- (*causeway/causewayref07.State).asked -/
def rc98 : RC :=
 .seq (.ops 0 false [
 oo 4 (.val (.c (.int .i64 0)))] [])
 (.seq (.ops 1 false [
 oo 11 (.val (.t 0)),
 oo 12 (.nilCheck (.t 11)),
 oo 13 (.fieldA 3 (.t 12)),
 oo 14 (.load (.t 13)),
 oo 15 (.val (.t 1)),
 oo 16 (.call 86 [.t 14,.t 15]),
 oo 10 (.val (.t 16)),
 oo 17 (.extract 0 (.t 10)),
 oo 18 (.extract 1 (.t 10)),
 oo 5 (.val (.t 17)),
 oo 6 (.val (.t 18))] [])
 (.seq (.seq (.ops 2 false [
 oo 19 (.val (.t 6))] [])
 (.cond (.t 19) (.seq (.ops 3 false [
 oo 4 (.val (.c (.int .i64 0)))] [])
 (.ret))
 (.skip)))
 (.seq (.seq (.ops 4 false [
 oo 7 (.val (.c (.int .i64 0)))] [])
 (.block 0 (.loop (.seq (.seq (.ops 5 false [
 oo 20 (.val (.t 7)),
 oo 21 (.val (.t 0)),
 oo 22 (.nilCheck (.t 21)),
 oo 23 (.fieldA 2 (.t 22)),
 oo 24 (.load (.t 23)),
 oo 25 (.len (.t 24)),
 oo 26 (.bin .lss (.t 20) (.t 25))] [])
 (.cond (.t 26) (.skip)
 (.exit 0)))
 (.seq (.block 1 (.seq (.ops 7 false [
 oo 29 (.val (.t 0)),
 oo 30 (.nilCheck (.t 29)),
 oo 31 (.fieldA 2 (.t 30)),
 oo 32 (.load (.t 31)),
 oo 33 (.val (.t 7)),
 oo 34 (.indexS 2 (.t 32) (.t 33)),
 oo 35 (.fieldA 0 (.t 34)),
 oo 36 (.load (.t 35)),
 oo 37 (.val (.t 1)),
 oo 38 (.eqp .str false (.t 36) (.t 37)),
 oo 39 (.val (.t 38)),
 ⟨some 40,.val (.t 0),some (39,true)⟩,
 ⟨some 41,.nilCheck (.t 40),some (39,true)⟩,
 ⟨some 42,.fieldA 2 (.t 41),some (39,true)⟩,
 ⟨some 43,.load (.t 42),some (39,true)⟩,
 ⟨some 44,.val (.t 7),some (39,true)⟩,
 ⟨some 45,.indexS 2 (.t 43) (.t 44),some (39,true)⟩,
 ⟨some 46,.fieldA 1 (.t 45),some (39,true)⟩,
 ⟨some 47,.load (.t 46),some (39,true)⟩,
 ⟨some 48,.bin .neq (.t 47) (.c (.int .i64 0)),some (39,true)⟩,
 oo 49 (.pick (.t 39) (.t 48) (.c (.bool false)))] [])
 (.cond (.t 49) (.seq (.ops 8 false [
 oo 50 (.val (.t 0)),
 oo 51 (.nilCheck (.t 50)),
 oo 52 (.fieldA 2 (.t 51)),
 oo 53 (.load (.t 52)),
 oo 54 (.val (.t 7)),
 oo 55 (.indexS 2 (.t 53) (.t 54)),
 oo 56 (.fieldA 1 (.t 55)),
 oo 57 (.load (.t 56)),
 oo 4 (.val (.t 57))] [])
 (.ret))
 (.skip))))
 (.ops 6 false [
 oo 27 (.val (.t 7)),
 oo 28 (.bin .add (.t 27) (.c (.int .i64 1))),
 oo 7 (.val (.t 28))] []))))))
 (.seq (.ops 9 false [
 oo 59 (.val (.t 0)),
 oo 60 (.nilCheck (.t 59)),
 oo 61 (.fieldA 0 (.t 60)),
 oo 62 (.load (.t 61)),
 oo 63 (.val (.t 1)),
 oo 64 (.call 86 [.t 62,.t 63]),
 oo 58 (.val (.t 64)),
 oo 65 (.extract 0 (.t 58)),
 oo 66 (.extract 1 (.t 58)),
 oo 8 (.val (.t 65)),
 oo 9 (.val (.t 66))] [])
 (.seq (.seq (.ops 10 false [
 oo 67 (.val (.t 9)),
 oo 68 (.not (.t 67)),
 oo 69 (.val (.t 68)),
 ⟨some 70,.val (.t 0),some (69,true)⟩,
 ⟨some 71,.nilCheck (.t 70),some (69,true)⟩,
 ⟨some 72,.fieldA 1 (.t 71),some (69,true)⟩,
 ⟨some 73,.load (.t 72),some (69,true)⟩,
 oo 74 (.pick (.t 69) (.t 73) (.c (.bool false)))] [])
 (.cond (.t 74) (.seq (.ops 11 false [
 oo 4 (.val (.c (.int .i64 74)))] [])
 (.ret))
 (.skip)))
 (.seq (.seq (.ops 12 false [
 oo 75 (.val (.t 8)),
 oo 76 (.len (.t 75)),
 oo 77 (.bin .gtr (.t 76) (.c (.int .i64 4096)))] [])
 (.cond (.t 77) (.seq (.ops 13 false [
 oo 4 (.val (.c (.int .i64 71)))] [])
 (.ret))
 (.skip)))
 (.seq (.ops 14 false [
 oo 78 (.val (.t 0)),
 oo 79 (.val (.t 0)),
 oo 80 (.nilCheck (.t 79)),
 oo 81 (.fieldA 3 (.t 80)),
 oo 82 (.load (.t 81)),
 oo 83 (.val (.t 1)),
 oo 84 (.val (.t 8)),
 oo 85 (.call 111 [.t 82,.t 83,.t 84]),
 oo 86 (.nilCheck (.t 78)),
 oo 87 (.fieldA 3 (.t 86)),
 ⟨none,.store 1 (.t 87) (.t 85),none⟩] [])
 (.seq (.ops 15 false [
 oo 4 (.val (.c (.int .i64 0)))] [])
 (.ret)))))))))
def rs98 : List RR := [.tmp 4]
theorem fun98 : FunR Tryz.prog 98 rc98 rs98 88 := ⟨Tryz.f98, Tryz.func98, by kernel_rfl, by kernel_rfl, by kernel_rfl⟩
/-- causeway/digest.Sum -/
def rc99 : RC :=
 .seq (.ops 0 false [
 oo 2 (.alloc 81 (List.replicate 32 (.int .u8 0)))] [])
 (.seq (.ops 1 false [
 oo 3 (.val (.t 0)),
 oo 4 (.buildS 22 1 [(.slice none 0 0)] [(0,1,(.t 3))]),
 oo 5 (.call 89 [.t 4]),
 ⟨none,.store 32 (.t 2) (.t 5),none⟩] [])
 (.ret))
def rs99 : List RR := [.cell 2 (some 32)]
theorem fun99 : FunR Tryz.prog 99 rc99 rs99 6 := ⟨Tryz.f99, Tryz.func99, by kernel_rfl, by kernel_rfl, by kernel_rfl⟩
/-- causeway/causewayref01.of -/
def rc100 : RC :=
 .seq (.ops 0 false [
 oo 4 (.alloc 81 (List.replicate 32 (.int .u8 0)))] [])
 (.seq (.ops 1 false [
 oo 10 (.val (.t 0)),
 oo 11 (.val (.t 1)),
 oo 12 (.call 112 [.t 10,.t 11]),
 oo 5 (.val (.t 12))] [])
 (.seq (.ops 2 false [
 oo 13 (.loadN 8 (.c (.pointer (some ⟨2,0,none⟩)))),
 oo 6 (.alloc 174 (List.replicate 8 (.int .u32 0))),
 ⟨none,.store 8 (.t 6) (.t 13),none⟩] [])
 (.seq (.seq (.ops 3 false [
 oo 7 (.val (.c (.int .i64 0)))] [])
 (.block 0 (.loop (.seq (.seq (.ops 4 false [
 oo 14 (.val (.t 7)),
 oo 15 (.val (.t 5)),
 oo 16 (.len (.t 15)),
 oo 17 (.bin .lss (.t 14) (.t 16))] [])
 (.cond (.t 17) (.skip)
 (.exit 0)))
 (.seq (.block 1 (.ops 6 false [
 oo 20 (.loadN 8 (.t 6)),
 oo 21 (.val (.t 5)),
 oo 22 (.val (.t 7)),
 oo 23 (.call 113 [.t 20,.t 21,.t 22]),
 ⟨none,.store 8 (.t 6) (.t 23),none⟩] []))
 (.ops 5 false [
 oo 18 (.val (.t 7)),
 oo 19 (.bin .add (.t 18) (.c (.int .i64 64))),
 oo 7 (.val (.t 19))] []))))))
 (.seq (.ops 7 false [
 oo 8 (.alloc 81 (List.replicate 32 (.int .u8 0)))] [])
 (.seq (.seq (.ops 8 false [
 oo 9 (.val (.c (.int .i64 0)))] [])
 (.block 2 (.loop (.seq (.seq (.ops 9 false [
 oo 24 (.val (.t 9)),
 oo 25 (.bin .lss (.t 24) (.c (.int .i64 32)))] [])
 (.cond (.t 25) (.skip)
 (.exit 2)))
 (.seq (.block 3 (.ops 11 false [
 oo 28 (.val (.t 9)),
 oo 29 (.val (.t 9)),
 oo 30 (.bin .quo (.t 29) (.c (.int .i64 4))),
 oo 31 (.indexA 8 1 (.t 6) (.t 30)),
 oo 32 (.load (.t 31)),
 oo 33 (.val (.t 9)),
 oo 34 (.bin .rem (.t 33) (.c (.int .i64 4))),
 oo 35 (.bin .mul (.c (.int .i64 8)) (.t 34)),
 oo 36 (.bin .sub (.c (.int .i64 24)) (.t 35)),
 oo 37 (.conv .u64 (.t 36)),
 oo 38 (.bin .shr (.t 32) (.t 37)),
 oo 39 (.conv .u8 (.t 38)),
 oo 40 (.indexA 32 1 (.t 8) (.t 28)),
 ⟨none,.store 1 (.t 40) (.t 39),none⟩] []))
 (.ops 10 false [
 oo 26 (.val (.t 9)),
 oo 27 (.bin .add (.t 26) (.c (.int .i64 1))),
 oo 9 (.val (.t 27))] []))))))
 (.seq (.ops 12 false [
 oo 41 (.loadN 32 (.t 8)),
 ⟨none,.store 32 (.t 4) (.t 41),none⟩] [])
 (.ret)))))))
def rs100 : List RR := [.cell 4 (some 32)]
theorem fun100 : FunR Tryz.prog 100 rc100 rs100 42 := ⟨Tryz.f100, Tryz.func100, by kernel_rfl, by kernel_rfl, by kernel_rfl⟩
/-- math/bits.OnesCount64 -/
def rc105 : RC :=
 .seq (.ops 0 false [
 oo 2 (.val (.c (.int .i64 0)))] [])
 (.seq (.ops 1 false [
 oo 3 (.val (.t 0)),
 oo 4 (.bin .shr (.t 3) (.c (.int .u64 1))),
 oo 5 (.bin .and (.t 4) (.c (.int .u64 6148914691236517205))),
 oo 6 (.val (.t 0)),
 oo 7 (.bin .and (.t 6) (.c (.int .u64 6148914691236517205))),
 oo 8 (.bin .add (.t 5) (.t 7)),
 oo 0 (.val (.t 8))] [])
 (.seq (.ops 2 false [
 oo 9 (.val (.t 0)),
 oo 10 (.bin .shr (.t 9) (.c (.int .u64 2))),
 oo 11 (.bin .and (.t 10) (.c (.int .u64 3689348814741910323))),
 oo 12 (.val (.t 0)),
 oo 13 (.bin .and (.t 12) (.c (.int .u64 3689348814741910323))),
 oo 14 (.bin .add (.t 11) (.t 13)),
 oo 0 (.val (.t 14))] [])
 (.seq (.ops 3 false [
 oo 15 (.val (.t 0)),
 oo 16 (.bin .shr (.t 15) (.c (.int .u64 4))),
 oo 17 (.val (.t 0)),
 oo 18 (.bin .add (.t 16) (.t 17)),
 oo 19 (.bin .and (.t 18) (.c (.int .u64 1085102592571150095))),
 oo 0 (.val (.t 19))] [])
 (.seq (.ops 4 false [
 oo 20 (.val (.t 0)),
 oo 21 (.val (.t 0)),
 oo 22 (.bin .shr (.t 21) (.c (.int .u64 8))),
 oo 23 (.bin .add (.t 20) (.t 22)),
 oo 0 (.val (.t 23))] [])
 (.seq (.ops 5 false [
 oo 24 (.val (.t 0)),
 oo 25 (.val (.t 0)),
 oo 26 (.bin .shr (.t 25) (.c (.int .u64 16))),
 oo 27 (.bin .add (.t 24) (.t 26)),
 oo 0 (.val (.t 27))] [])
 (.seq (.ops 6 false [
 oo 28 (.val (.t 0)),
 oo 29 (.val (.t 0)),
 oo 30 (.bin .shr (.t 29) (.c (.int .u64 32))),
 oo 31 (.bin .add (.t 28) (.t 30)),
 oo 0 (.val (.t 31))] [])
 (.seq (.ops 7 false [
 oo 32 (.val (.t 0)),
 oo 33 (.conv .i64 (.t 32)),
 oo 34 (.bin .and (.t 33) (.c (.int .i64 127))),
 oo 2 (.val (.t 34))] [])
 (.ret))))))))
def rs105 : List RR := [.tmp 2]
theorem fun105 : FunR Tryz.prog 105 rc105 rs105 35 := ⟨Tryz.f105, Tryz.func105, by kernel_rfl, by kernel_rfl, by kernel_rfl⟩
/-- causeway/digest.New -/
def rc106 : RC :=
 .seq (.ops 0 false [
 oo 0 (.val (.c (.pointer none)))] [])
 (.seq (.ops 1 false [
 oo 1 (.call 125 []),
 oo 2 (.build [(.int .u32 0),(.int .u32 0),(.int .u32 0),(.int .u32 0),(.int .u32 0),(.int .u32 0),(.int .u32 0),(.int .u32 0),(.int .u8 0),(.int .u8 0),(.int .u8 0),(.int .u8 0),(.int .u8 0),(.int .u8 0),(.int .u8 0),(.int .u8 0),(.int .u8 0),(.int .u8 0),(.int .u8 0),(.int .u8 0),(.int .u8 0),(.int .u8 0),(.int .u8 0),(.int .u8 0),(.int .u8 0),(.int .u8 0),(.int .u8 0),(.int .u8 0),(.int .u8 0),(.int .u8 0),(.int .u8 0),(.int .u8 0),(.int .u8 0),(.int .u8 0),(.int .u8 0),(.int .u8 0),(.int .u8 0),(.int .u8 0),(.int .u8 0),(.int .u8 0),(.int .u8 0),(.int .u8 0),(.int .u8 0),(.int .u8 0),(.int .u8 0),(.int .u8 0),(.int .u8 0),(.int .u8 0),(.int .u8 0),(.int .u8 0),(.int .u8 0),(.int .u8 0),(.int .u8 0),(.int .u8 0),(.int .u8 0),(.int .u8 0),(.int .u8 0),(.int .u8 0),(.int .u8 0),(.int .u8 0),(.int .u8 0),(.int .u8 0),(.int .u8 0),(.int .u8 0),(.int .u8 0),(.int .u8 0),(.int .u8 0),(.int .u8 0),(.int .u8 0),(.int .u8 0),(.int .u8 0),(.int .u8 0),(.int .i64 0)] [(0,8,(.t 1))]),
 oo 3 (.box 188 (.t 2)),
 oo 0 (.val (.t 3))] [])
 (.ret))
def rs106 : List RR := [.tmp 0]
theorem fun106 : FunR Tryz.prog 106 rc106 rs106 4 := ⟨Tryz.f106, Tryz.func106, by kernel_rfl, by kernel_rfl, by kernel_rfl⟩
/-- (*causeway/digest.Hasher).Write -/
def rc107 : RC :=
 .block 0 (.loop (.seq (.seq (.ops 0 false [
 oo 6 (.val (.t 1)),
 oo 7 (.len (.t 6)),
 oo 8 (.bin .gtr (.t 7) (.c (.int .i64 0)))] [])
 (.cond (.t 8) (.skip)
 (.exit 0)))
 (.block 1 (.seq (.ops 1 false [
 oo 9 (.val (.t 0)),
 oo 10 (.nilCheck (.t 9)),
 oo 11 (.fieldA 72 (.t 10)),
 oo 12 (.load (.t 11)),
 oo 13 (.bin .rem (.t 12) (.c (.int .i64 64))),
 oo 4 (.val (.t 13))] [])
 (.seq (.ops 2 false [
 oo 14 (.val (.t 0)),
 oo 15 (.nilCheck (.t 14)),
 oo 16 (.fieldA 8 (.t 15)),
 oo 17 (.val (.t 4)),
 oo 18 (.sliceA 64 1 (.t 16) (some (.t 17)) none),
 oo 19 (.val (.t 1)),
 oo 20 (.blt .copy #[22,22] 3 [.t 18,.t 19]),
 oo 5 (.val (.t 20))] [])
 (.seq (.ops 3 false [
 oo 21 (.val (.t 1)),
 oo 22 (.val (.t 5)),
 oo 23 (.slice 1 (.t 21) (some (.t 22)) none none),
 oo 1 (.val (.t 23))] [])
 (.seq (.ops 4 false [
 oo 24 (.val (.t 0)),
 oo 25 (.nilCheck (.t 24)),
 oo 26 (.fieldA 72 (.t 25)),
 oo 27 (.load (.t 26)),
 oo 28 (.val (.t 5)),
 oo 29 (.bin .add (.t 27) (.t 28)),
 oo 30 (.nilCheck (.t 24)),
 oo 31 (.fieldA 72 (.t 30)),
 ⟨none,.store 1 (.t 31) (.t 29),none⟩] [])
 (.seq (.ops 5 false [
 oo 32 (.val (.t 4)),
 oo 33 (.val (.t 5)),
 oo 34 (.bin .add (.t 32) (.t 33)),
 oo 35 (.bin .eql (.t 34) (.c (.int .i64 64)))] [])
 (.cond (.t 35) (.ops 6 true [
 oo 36 (.val (.t 0)),
 oo 37 (.val (.t 0)),
 oo 38 (.nilCheck (.t 37)),
 oo 39 (.fieldA 0 (.t 38)),
 oo 40 (.loadN 8 (.t 39)),
 oo 41 (.val (.t 0)),
 oo 42 (.nilCheck (.t 41)),
 oo 43 (.fieldA 8 (.t 42)),
 oo 44 (.loadN 64 (.t 43)),
 oo 45 (.call 126 [.t 40,.t 44]),
 oo 46 (.nilCheck (.t 36)),
 oo 47 (.fieldA 0 (.t 46)),
 ⟨none,.store 8 (.t 47) (.t 45),none⟩] [([],[]),([],[]),([1],[1]),([2],[2]),([3],[3]),([],[]),([5],[5]),([6],[6]),([7],[7]),([4,8],[4,8]),([0,0,1,2,3,4,5,6,7,8,9],[0]),([10,0,1,2,3,4,5,6,7,8,9],[10]),([11,9,9,0,1,2,3,4,5,6,7,8,9],[9,11])])
 (.skip))))))))))
def rs107 : List RR := []
theorem fun107 : FunR Tryz.prog 107 rc107 rs107 48 := ⟨Tryz.f107, Tryz.func107, by kernel_rfl, by kernel_rfl, by kernel_rfl⟩
/-- (*causeway/digest.Hasher).Sum -/
def rc108 : RC :=
 .seq (.ops 0 false [
 oo 2 (.alloc 81 (List.replicate 32 (.int .u8 0)))] [])
 (.seq (.ops 1 false [
 oo 3 (.val (.t 0)),
 oo 4 (.call 127 [(.t 3),(.c (.int .u8 0)),(.c (.int .i64 0))]),
 ⟨none,.store 32 (.t 2) (.t 4),none⟩] [])
 (.ret))
def rs108 : List RR := [.cell 2 (some 32)]
theorem fun108 : FunR Tryz.prog 108 rc108 rs108 5 := ⟨Tryz.f108, Tryz.func108, by kernel_rfl, by kernel_rfl, by kernel_rfl⟩
/-- causeway/causewayref03.bare -/
def rc109 : RC :=
 .seq (.ops 0 false [
 oo 2 (.val (.c (.slice none 0 0)))] [])
 (.seq (.seq (.ops 1 false [
 oo 3 (.val (.c (.int .i64 0)))] [])
 (.block 0 (.loop (.seq (.seq (.ops 2 false [
 oo 4 (.val (.t 3)),
 oo 5 (.val (.t 0)),
 oo 6 (.len (.t 5)),
 oo 7 (.bin .lss (.t 4) (.t 6))] [])
 (.cond (.t 7) (.skip)
 (.exit 0)))
 (.seq (.block 1 (.seq (.ops 4 false [
 oo 10 (.val (.t 0)),
 oo 11 (.val (.t 3)),
 oo 12 (.indexS 1 (.t 10) (.t 11)),
 oo 13 (.load (.t 12)),
 oo 14 (.bin .neq (.t 13) (.c (.int .u8 0)))] [])
 (.cond (.t 14) (.seq (.ops 5 false [
 oo 15 (.val (.t 0)),
 oo 16 (.val (.t 3)),
 oo 17 (.slice 1 (.t 15) (some (.t 16)) none none),
 oo 2 (.val (.t 17))] [])
 (.ret))
 (.skip))))
 (.ops 3 false [
 oo 8 (.val (.t 3)),
 oo 9 (.bin .add (.t 8) (.c (.int .i64 1))),
 oo 3 (.val (.t 9))] []))))))
 (.seq (.ops 6 false [
 oo 2 (.val (.c (.slice none 0 0)))] [])
 (.ret)))
def rs109 : List RR := [.tmp 2]
theorem fun109 : FunR Tryz.prog 109 rc109 rs109 18 := ⟨Tryz.f109, Tryz.func109, by kernel_rfl, by kernel_rfl, by kernel_rfl⟩
/-- causeway/causewayref03.Plain -/
def rc110 : RC :=
 .seq (.ops 0 false [
 oo 1 (.box 43 (.t 0)),
 oo 2 (.val (.c (.slice none 0 0)))] [])
 (.seq (.ops 1 false [
 oo 7 (.mkS 22 (.c (.int .i64 32)) (.c (.int .i64 32))),
 oo 3 (.val (.t 7))] [])
 (.seq (.seq (.ops 2 false [
 oo 4 (.val (.c (.int .i64 0)))] [])
 (.block 0 (.loop (.seq (.seq (.ops 3 false [
 oo 8 (.val (.t 4)),
 oo 9 (.bin .lss (.t 8) (.c (.int .i64 4)))] [])
 (.cond (.t 9) (.skip)
 (.exit 0)))
 (.seq (.block 1 (.seq (.ops 5 false [
 oo 12 (.val (.t 4)),
 oo 13 (.indexA 4 1 (.t 1) (.t 12)),
 oo 14 (.load (.t 13)),
 oo 5 (.val (.t 14))] [])
 (.seq (.ops 6 false [
 oo 6 (.val (.c (.int .i64 0)))] [])
 (.block 2 (.loop (.seq (.seq (.ops 7 false [
 oo 15 (.val (.t 6)),
 oo 16 (.bin .lss (.t 15) (.c (.int .i64 8)))] [])
 (.cond (.t 16) (.skip)
 (.exit 2)))
 (.seq (.block 3 (.seq (.ops 9 false [
 oo 19 (.val (.t 3)),
 oo 20 (.val (.t 4)),
 oo 21 (.bin .mul (.c (.int .i64 8)) (.t 20)),
 oo 22 (.bin .sub (.c (.int .i64 31)) (.t 21)),
 oo 23 (.val (.t 6)),
 oo 24 (.bin .sub (.t 22) (.t 23)),
 oo 25 (.val (.t 5)),
 oo 26 (.bin .rem (.t 25) (.c (.int .u64 256))),
 oo 27 (.conv .u8 (.t 26)),
 oo 28 (.indexS 1 (.t 19) (.t 24)),
 ⟨none,.store 1 (.t 28) (.t 27),none⟩] [])
 (.ops 10 false [
 oo 29 (.val (.t 5)),
 oo 30 (.bin .quo (.t 29) (.c (.int .u64 256))),
 oo 5 (.val (.t 30))] [])))
 (.ops 8 false [
 oo 17 (.val (.t 6)),
 oo 18 (.bin .add (.t 17) (.c (.int .i64 1))),
 oo 6 (.val (.t 18))] []))))))))
 (.ops 4 false [
 oo 10 (.val (.t 4)),
 oo 11 (.bin .add (.t 10) (.c (.int .i64 1))),
 oo 4 (.val (.t 11))] []))))))
 (.seq (.ops 11 false [
 oo 31 (.val (.t 3)),
 oo 2 (.val (.t 31))] [])
 (.ret))))
def rs110 : List RR := [.tmp 2]
theorem fun110 : FunR Tryz.prog 110 rc110 rs110 32 := ⟨Tryz.f110, Tryz.func110, by kernel_rfl, by kernel_rfl, by kernel_rfl⟩
/-- causeway/causewayref07.with -/
def rc111 : RC :=
 .seq (.ops 0 false [
 oo 6 (.val (.c (.slice none 0 0)))] [])
 (.seq (.ops 1 false [
 oo 7 (.val (.c (.slice none 0 0)))] [])
 (.seq (.ops 2 false [
 oo 8 (.val (.c (.bool false)))] [])
 (.seq (.seq (.ops 3 false [
 oo 9 (.val (.c (.int .i64 0)))] [])
 (.block 0 (.loop (.seq (.seq (.ops 4 false [
 oo 10 (.val (.t 9)),
 oo 11 (.val (.t 0)),
 oo 12 (.len (.t 11)),
 oo 13 (.bin .lss (.t 10) (.t 12))] [])
 (.cond (.t 13) (.skip)
 (.exit 0)))
 (.seq (.block 1 (.seq (.seq (.ops 6 false [
 oo 16 (.val (.t 8)),
 oo 17 (.not (.t 16)),
 oo 18 (.val (.t 17)),
 ⟨some 19,.val (.t 0),some (18,true)⟩,
 ⟨some 20,.val (.t 9),some (18,true)⟩,
 ⟨some 21,.indexS 2 (.t 19) (.t 20),some (18,true)⟩,
 ⟨some 22,.fieldA 0 (.t 21),some (18,true)⟩,
 ⟨some 23,.load (.t 22),some (18,true)⟩,
 ⟨some 24,.val (.t 1),some (18,true)⟩,
 ⟨some 25,.sbin .geq (.t 23) (.t 24),some (18,true)⟩,
 oo 26 (.pick (.t 18) (.t 25) (.c (.bool false)))] [])
 (.cond (.t 26) (.seq (.ops 7 false [
 oo 8 (.val (.c (.bool true)))] [])
 (.ops 8 false [
 oo 27 (.val (.t 7)),
 oo 28 (.val (.t 1)),
 oo 29 (.val (.t 2)),
 oo 30 (.call 56 [.t 29]),
 oo 31 (.build [(.string ⟨#[]⟩),(.slice none 0 0)] [(0,1,(.t 28)),(1,1,(.t 30))]),
 oo 32 (.buildS 27 1 [(.string ⟨#[]⟩),(.slice none 0 0)] [(0,2,(.t 31))]),
 oo 33 (.blt .append #[28,28] 28 [.t 27,.t 32]),
 oo 7 (.val (.t 33))] []))
 (.skip)))
 (.seq (.ops 9 false [
 oo 34 (.val (.t 0)),
 oo 35 (.val (.t 9)),
 oo 36 (.indexS 2 (.t 34) (.t 35)),
 oo 37 (.fieldA 0 (.t 36)),
 oo 38 (.load (.t 37)),
 oo 39 (.val (.t 1)),
 oo 40 (.eqp .str true (.t 38) (.t 39))] [])
 (.cond (.t 40) (.ops 10 false [
 oo 41 (.val (.t 7)),
 oo 42 (.val (.t 0)),
 oo 43 (.val (.t 9)),
 oo 44 (.indexS 2 (.t 42) (.t 43)),
 oo 45 (.loadN 2 (.t 44)),
 oo 46 (.buildS 27 1 [(.string ⟨#[]⟩),(.slice none 0 0)] [(0,2,(.t 45))]),
 oo 47 (.blt .append #[28,28] 28 [.t 41,.t 46]),
 oo 7 (.val (.t 47))] [])
 (.skip)))))
 (.ops 5 false [
 oo 14 (.val (.t 9)),
 oo 15 (.bin .add (.t 14) (.c (.int .i64 1))),
 oo 9 (.val (.t 15))] []))))))
 (.seq (.seq (.ops 11 false [
 oo 48 (.val (.t 8)),
 oo 49 (.not (.t 48))] [])
 (.cond (.t 49) (.ops 12 false [
 oo 50 (.val (.t 7)),
 oo 51 (.val (.t 1)),
 oo 52 (.val (.t 2)),
 oo 53 (.call 56 [.t 52]),
 oo 54 (.build [(.string ⟨#[]⟩),(.slice none 0 0)] [(0,1,(.t 51)),(1,1,(.t 53))]),
 oo 55 (.buildS 27 1 [(.string ⟨#[]⟩),(.slice none 0 0)] [(0,2,(.t 54))]),
 oo 56 (.blt .append #[28,28] 28 [.t 50,.t 55]),
 oo 7 (.val (.t 56))] [])
 (.skip)))
 (.seq (.ops 13 false [
 oo 57 (.val (.t 7)),
 oo 6 (.val (.t 57))] [])
 (.ret))))))
def rs111 : List RR := [.tmp 6]
theorem fun111 : FunR Tryz.prog 111 rc111 rs111 58 := ⟨Tryz.f111, Tryz.func111, by kernel_rfl, by kernel_rfl, by kernel_rfl⟩
/-- causeway/causewayref01.laid -/
def rc112 : RC :=
 .seq (.ops 0 false [
 oo 4 (.val (.c (.slice none 0 0)))] [])
 (.seq (.ops 1 false [
 oo 5 (.val (.c (.slice none 0 0)))] [])
 (.seq (.seq (.ops 2 false [
 oo 6 (.val (.c (.int .i64 0)))] [])
 (.block 0 (.loop (.seq (.seq (.ops 3 false [
 oo 10 (.val (.t 6)),
 oo 11 (.val (.t 1)),
 oo 12 (.bin .quo (.t 11) (.c (.int .i64 8))),
 oo 13 (.bin .lss (.t 10) (.t 12))] [])
 (.cond (.t 13) (.skip)
 (.exit 0)))
 (.seq (.block 1 (.ops 5 false [
 oo 16 (.val (.t 5)),
 oo 17 (.val (.t 0)),
 oo 18 (.val (.t 6)),
 oo 19 (.indexS 1 (.t 17) (.t 18)),
 oo 20 (.load (.t 19)),
 oo 21 (.buildS 5 1 [(.int .u8 0)] [(0,1,(.t 20))]),
 oo 22 (.blt .append #[22,22] 22 [.t 16,.t 21]),
 oo 5 (.val (.t 22))] []))
 (.ops 4 false [
 oo 14 (.val (.t 6)),
 oo 15 (.bin .add (.t 14) (.c (.int .i64 1))),
 oo 6 (.val (.t 15))] []))))))
 (.seq (.seq (.ops 6 false [
 oo 23 (.val (.t 1)),
 oo 24 (.bin .rem (.t 23) (.c (.int .i64 8))),
 oo 25 (.bin .eql (.t 24) (.c (.int .i64 0)))] [])
 (.cond (.t 25) (.ops 7 false [
 oo 26 (.val (.t 5)),
 oo 27 (.buildS 5 1 [(.int .u8 0)] [(0,1,(.c (.int .u8 128)))]),
 oo 28 (.blt .append #[22,22] 22 [.t 26,.t 27]),
 oo 5 (.val (.t 28))] [])
 (.seq (.ops 8 false [
 oo 29 (.val (.t 1)),
 oo 30 (.bin .rem (.t 29) (.c (.int .i64 8))),
 oo 31 (.bin .sub (.c (.int .i64 7)) (.t 30)),
 oo 32 (.conv .u64 (.t 31)),
 oo 33 (.bin .shl (.c (.int .u8 1)) (.t 32)),
 oo 7 (.val (.t 33))] [])
 (.seq (.ops 9 false [
 oo 34 (.val (.t 0)),
 oo 35 (.val (.t 1)),
 oo 36 (.bin .quo (.t 35) (.c (.int .i64 8))),
 oo 37 (.indexS 1 (.t 34) (.t 36)),
 oo 38 (.load (.t 37)),
 oo 39 (.val (.t 7)),
 oo 40 (.bin .mul (.c (.int .u8 2)) (.t 39)),
 oo 41 (.bin .sub (.t 40) (.c (.int .u8 1))),
 oo 42 (.bin .andNot (.t 38) (.t 41)),
 oo 8 (.val (.t 42))] [])
 (.ops 10 false [
 oo 43 (.val (.t 5)),
 oo 44 (.val (.t 8)),
 oo 45 (.val (.t 7)),
 oo 46 (.bin .or (.t 44) (.t 45)),
 oo 47 (.buildS 5 1 [(.int .u8 0)] [(0,1,(.t 46))]),
 oo 48 (.blt .append #[22,22] 22 [.t 43,.t 47]),
 oo 5 (.val (.t 48))] [])))))
 (.seq (.block 2 (.loop (.seq (.seq (.ops 11 false [
 oo 49 (.val (.t 5)),
 oo 50 (.len (.t 49)),
 oo 51 (.bin .rem (.t 50) (.c (.int .i64 64))),
 oo 52 (.bin .neq (.t 51) (.c (.int .i64 56)))] [])
 (.cond (.t 52) (.skip)
 (.exit 2)))
 (.block 3 (.ops 12 false [
 oo 53 (.val (.t 5)),
 oo 54 (.buildS 5 1 [(.int .u8 0)] [(0,1,(.c (.int .u8 0)))]),
 oo 55 (.blt .append #[22,22] 22 [.t 53,.t 54]),
 oo 5 (.val (.t 55))] [])))))
 (.seq (.seq (.ops 13 false [
 oo 9 (.val (.c (.int .i64 7)))] [])
 (.block 4 (.loop (.seq (.seq (.ops 14 false [
 oo 56 (.val (.t 9)),
 oo 57 (.bin .geq (.t 56) (.c (.int .i64 0)))] [])
 (.cond (.t 57) (.skip)
 (.exit 4)))
 (.seq (.block 5 (.ops 16 false [
 oo 60 (.val (.t 5)),
 oo 61 (.val (.t 1)),
 oo 62 (.conv .u64 (.t 61)),
 oo 63 (.val (.t 9)),
 oo 64 (.bin .mul (.c (.int .i64 8)) (.t 63)),
 oo 65 (.conv .u64 (.t 64)),
 oo 66 (.bin .shr (.t 62) (.t 65)),
 oo 67 (.conv .u8 (.t 66)),
 oo 68 (.buildS 5 1 [(.int .u8 0)] [(0,1,(.t 67))]),
 oo 69 (.blt .append #[22,22] 22 [.t 60,.t 68]),
 oo 5 (.val (.t 69))] []))
 (.ops 15 false [
 oo 58 (.val (.t 9)),
 oo 59 (.bin .sub (.t 58) (.c (.int .i64 1))),
 oo 9 (.val (.t 59))] []))))))
 (.seq (.ops 17 false [
 oo 70 (.val (.t 5)),
 oo 4 (.val (.t 70))] [])
 (.ret)))))))
def rs112 : List RR := [.tmp 4]
theorem fun112 : FunR Tryz.prog 112 rc112 rs112 71 := ⟨Tryz.f112, Tryz.func112, by kernel_rfl, by kernel_rfl, by kernel_rfl⟩
/-- causeway/causewayref01.taken -/
def rc113 : RC :=
 .seq (.ops 0 false [
 oo 3 (.box 174 (.t 0)),
 oo 6 (.alloc 174 (List.replicate 8 (.int .u32 0)))] [])
 (.seq (.ops 1 false [
 oo 7 (.alloc 191 (List.replicate 64 (.int .u32 0)))] [])
 (.seq (.seq (.ops 2 false [
 oo 8 (.val (.c (.int .i64 0)))] [])
 (.block 0 (.loop (.seq (.seq (.ops 3 false [
 oo 17 (.val (.t 8)),
 oo 18 (.bin .lss (.t 17) (.c (.int .i64 16)))] [])
 (.cond (.t 18) (.skip)
 (.exit 0)))
 (.seq (.block 1 (.ops 5 false [
 oo 21 (.val (.t 8)),
 oo 22 (.val (.t 1)),
 oo 23 (.val (.t 2)),
 oo 24 (.val (.t 8)),
 oo 25 (.bin .mul (.c (.int .i64 4)) (.t 24)),
 oo 26 (.bin .add (.t 23) (.t 25)),
 oo 27 (.call 128 [.t 22,.t 26]),
 oo 28 (.indexA 64 1 (.t 7) (.t 21)),
 ⟨none,.store 1 (.t 28) (.t 27),none⟩] []))
 (.ops 4 false [
 oo 19 (.val (.t 8)),
 oo 20 (.bin .add (.t 19) (.c (.int .i64 1))),
 oo 8 (.val (.t 20))] []))))))
 (.seq (.seq (.ops 6 false [
 oo 9 (.val (.c (.int .i64 16)))] [])
 (.block 2 (.loop (.seq (.seq (.ops 7 false [
 oo 29 (.val (.t 9)),
 oo 30 (.bin .lss (.t 29) (.c (.int .i64 64)))] [])
 (.cond (.t 30) (.skip)
 (.exit 2)))
 (.seq (.block 3 (.seq (.ops 9 false [
 oo 33 (.val (.t 9)),
 oo 34 (.bin .sub (.t 33) (.c (.int .i64 2))),
 oo 35 (.indexA 64 1 (.t 7) (.t 34)),
 oo 36 (.load (.t 35)),
 oo 10 (.val (.t 36))] [])
 (.seq (.ops 10 false [
 oo 37 (.val (.t 9)),
 oo 38 (.bin .sub (.t 37) (.c (.int .i64 15))),
 oo 39 (.indexA 64 1 (.t 7) (.t 38)),
 oo 40 (.load (.t 39)),
 oo 11 (.val (.t 40))] [])
 (.seq (.ops 11 false [
 oo 41 (.val (.t 10)),
 oo 42 (.call 129 [(.t 41),(.c (.int .u32 17))]),
 oo 43 (.val (.t 10)),
 oo 44 (.call 129 [(.t 43),(.c (.int .u32 19))]),
 oo 45 (.bin .xor (.t 42) (.t 44)),
 oo 46 (.val (.t 10)),
 oo 47 (.bin .shr (.t 46) (.c (.int .u64 10))),
 oo 48 (.bin .xor (.t 45) (.t 47)),
 oo 10 (.val (.t 48))] [])
 (.seq (.ops 12 false [
 oo 49 (.val (.t 11)),
 oo 50 (.call 129 [(.t 49),(.c (.int .u32 7))]),
 oo 51 (.val (.t 11)),
 oo 52 (.call 129 [(.t 51),(.c (.int .u32 18))]),
 oo 53 (.bin .xor (.t 50) (.t 52)),
 oo 54 (.val (.t 11)),
 oo 55 (.bin .shr (.t 54) (.c (.int .u64 3))),
 oo 56 (.bin .xor (.t 53) (.t 55)),
 oo 11 (.val (.t 56))] [])
 (.ops 13 true [
 oo 57 (.val (.t 9)),
 oo 58 (.val (.t 10)),
 oo 59 (.val (.t 9)),
 oo 60 (.bin .sub (.t 59) (.c (.int .i64 7))),
 oo 61 (.indexA 64 1 (.t 7) (.t 60)),
 oo 62 (.load (.t 61)),
 oo 63 (.bin .add (.t 58) (.t 62)),
 oo 64 (.val (.t 11)),
 oo 65 (.bin .add (.t 63) (.t 64)),
 oo 66 (.val (.t 9)),
 oo 67 (.bin .sub (.t 66) (.c (.int .i64 16))),
 oo 68 (.indexA 64 1 (.t 7) (.t 67)),
 oo 69 (.load (.t 68)),
 oo 70 (.bin .add (.t 65) (.t 69)),
 oo 71 (.indexA 64 1 (.t 7) (.t 57)),
 ⟨none,.store 1 (.t 71) (.t 70),none⟩] [([],[]),([],[]),([],[]),([2],[2]),([3],[3]),([4],[4]),([1,5],[1,5]),([],[]),([6,7],[6,7]),([],[]),([9],[9]),([10],[10]),([11],[11]),([8,12],[8,12]),([0,0,1,2,3,4,5,6,7,8,9,10,11,12,13],[0]),([14,13,0,1,2,3,4,5,6,7,8,9,10,11,12,13],[13,14])]))))))
 (.ops 8 false [
 oo 31 (.val (.t 9)),
 oo 32 (.bin .add (.t 31) (.c (.int .i64 1))),
 oo 9 (.val (.t 32))] []))))))
 (.seq (.ops 14 false [
 oo 72 (.loadN 8 (.t 3)),
 oo 12 (.alloc 174 (List.replicate 8 (.int .u32 0))),
 ⟨none,.store 8 (.t 12) (.t 72),none⟩] [])
 (.seq (.seq (.ops 15 false [
 oo 13 (.val (.c (.int .i64 0)))] [])
 (.block 4 (.loop (.seq (.seq (.ops 16 false [
 oo 73 (.val (.t 13)),
 oo 74 (.bin .lss (.t 73) (.c (.int .i64 64)))] [])
 (.cond (.t 74) (.skip)
 (.exit 4)))
 (.seq (.block 5 (.seq (.ops 18 true [
 oo 77 (.indexA 8 1 (.t 12) (.c (.int .i64 4))),
 oo 78 (.load (.t 77)),
 oo 79 (.call 129 [(.t 78),(.c (.int .u32 6))]),
 oo 80 (.indexA 8 1 (.t 12) (.c (.int .i64 4))),
 oo 81 (.load (.t 80)),
 oo 82 (.call 129 [(.t 81),(.c (.int .u32 11))]),
 oo 83 (.bin .xor (.t 79) (.t 82)),
 oo 84 (.indexA 8 1 (.t 12) (.c (.int .i64 4))),
 oo 85 (.load (.t 84)),
 oo 86 (.call 129 [(.t 85),(.c (.int .u32 25))]),
 oo 87 (.bin .xor (.t 83) (.t 86)),
 oo 14 (.val (.t 87))] [([],[]),([0],[0]),([1],[1]),([],[]),([3],[3]),([4,2],[4]),([2,5],[2,5]),([],[]),([7],[7]),([8,5],[8]),([6,9],[6,9]),([10,9,0,1,2,3,4,5,6,7,8,9,10],[10])])
 (.seq (.ops 19 true [
 oo 88 (.val (.t 14)),
 oo 89 (.indexA 8 1 (.t 12) (.c (.int .i64 7))),
 oo 90 (.load (.t 89)),
 oo 91 (.bin .add (.t 88) (.t 90)),
 oo 92 (.indexA 8 1 (.t 12) (.c (.int .i64 4))),
 oo 93 (.load (.t 92)),
 oo 94 (.indexA 8 1 (.t 12) (.c (.int .i64 5))),
 oo 95 (.load (.t 94)),
 oo 96 (.bin .and (.t 93) (.t 95)),
 oo 97 (.indexA 8 1 (.t 12) (.c (.int .i64 4))),
 oo 98 (.load (.t 97)),
 oo 99 (.bnot (.t 98)),
 oo 100 (.indexA 8 1 (.t 12) (.c (.int .i64 6))),
 oo 101 (.load (.t 100)),
 oo 102 (.bin .and (.t 99) (.t 101)),
 oo 103 (.bin .xor (.t 96) (.t 102)),
 oo 104 (.bin .add (.t 91) (.t 103)),
 oo 105 (.val (.t 13)),
 oo 106 (.indexA 64 1 (.c (.pointer (some ⟨3,0,none⟩))) (.t 105)),
 oo 107 (.load (.t 106)),
 oo 108 (.bin .add (.t 104) (.t 107)),
 oo 109 (.val (.t 13)),
 oo 110 (.indexA 64 1 (.t 7) (.t 109)),
 oo 111 (.load (.t 110)),
 oo 112 (.bin .add (.t 108) (.t 111)),
 oo 14 (.val (.t 112))] [([],[]),([],[]),([1],[1]),([0,2],[0,2]),([],[]),([4],[4]),([],[]),([6],[6]),([5,7],[5,7]),([],[]),([9],[9]),([10],[10]),([],[]),([12],[12]),([11,13],[11,13]),([8,14],[8,14]),([3,15],[3,15]),([],[]),([17],[17]),([18],[18]),([16,19],[16,19]),([],[]),([21],[21]),([22],[22]),([20,23],[20,23]),([24,0,1,2,3,4,5,6,7,8,9,10,11,12,13,14,15,16,17,18,19,20,21,22,23,24],[0,24])])
 (.seq (.ops 20 true [
 oo 113 (.indexA 8 1 (.t 12) (.c (.int .i64 0))),
 oo 114 (.load (.t 113)),
 oo 115 (.call 129 [(.t 114),(.c (.int .u32 2))]),
 oo 116 (.indexA 8 1 (.t 12) (.c (.int .i64 0))),
 oo 117 (.load (.t 116)),
 oo 118 (.call 129 [(.t 117),(.c (.int .u32 13))]),
 oo 119 (.bin .xor (.t 115) (.t 118)),
 oo 120 (.indexA 8 1 (.t 12) (.c (.int .i64 0))),
 oo 121 (.load (.t 120)),
 oo 122 (.call 129 [(.t 121),(.c (.int .u32 22))]),
 oo 123 (.bin .xor (.t 119) (.t 122)),
 oo 15 (.val (.t 123))] [([],[]),([0],[0]),([1],[1]),([],[]),([3],[3]),([4,2],[4]),([2,5],[2,5]),([],[]),([7],[7]),([8,5],[8]),([6,9],[6,9]),([10,9,0,1,2,3,4,5,6,7,8,9,10],[10])])
 (.seq (.ops 21 false [
 oo 124 (.val (.t 15)),
 oo 125 (.indexA 8 1 (.t 12) (.c (.int .i64 0))),
 oo 126 (.load (.t 125)),
 oo 127 (.indexA 8 1 (.t 12) (.c (.int .i64 1))),
 oo 128 (.load (.t 127)),
 oo 129 (.bin .and (.t 126) (.t 128)),
 oo 130 (.indexA 8 1 (.t 12) (.c (.int .i64 0))),
 oo 131 (.load (.t 130)),
 oo 132 (.indexA 8 1 (.t 12) (.c (.int .i64 2))),
 oo 133 (.load (.t 132)),
 oo 134 (.bin .and (.t 131) (.t 133)),
 oo 135 (.bin .xor (.t 129) (.t 134)),
 oo 136 (.indexA 8 1 (.t 12) (.c (.int .i64 1))),
 oo 137 (.load (.t 136)),
 oo 138 (.indexA 8 1 (.t 12) (.c (.int .i64 2))),
 oo 139 (.load (.t 138)),
 oo 140 (.bin .and (.t 137) (.t 139)),
 oo 141 (.bin .xor (.t 135) (.t 140)),
 oo 142 (.bin .add (.t 124) (.t 141)),
 oo 15 (.val (.t 142))] [])
 (.seq (.ops 22 false [
 oo 143 (.indexA 8 1 (.t 12) (.c (.int .i64 6))),
 oo 144 (.load (.t 143)),
 oo 145 (.indexA 8 1 (.t 12) (.c (.int .i64 7))),
 ⟨none,.store 1 (.t 145) (.t 144),none⟩] [])
 (.seq (.ops 23 false [
 oo 146 (.indexA 8 1 (.t 12) (.c (.int .i64 5))),
 oo 147 (.load (.t 146)),
 oo 148 (.indexA 8 1 (.t 12) (.c (.int .i64 6))),
 ⟨none,.store 1 (.t 148) (.t 147),none⟩] [])
 (.seq (.ops 24 false [
 oo 149 (.indexA 8 1 (.t 12) (.c (.int .i64 4))),
 oo 150 (.load (.t 149)),
 oo 151 (.indexA 8 1 (.t 12) (.c (.int .i64 5))),
 ⟨none,.store 1 (.t 151) (.t 150),none⟩] [])
 (.seq (.ops 25 false [
 oo 152 (.indexA 8 1 (.t 12) (.c (.int .i64 3))),
 oo 153 (.load (.t 152)),
 oo 154 (.val (.t 14)),
 oo 155 (.bin .add (.t 153) (.t 154)),
 oo 156 (.indexA 8 1 (.t 12) (.c (.int .i64 4))),
 ⟨none,.store 1 (.t 156) (.t 155),none⟩] [])
 (.seq (.ops 26 false [
 oo 157 (.indexA 8 1 (.t 12) (.c (.int .i64 2))),
 oo 158 (.load (.t 157)),
 oo 159 (.indexA 8 1 (.t 12) (.c (.int .i64 3))),
 ⟨none,.store 1 (.t 159) (.t 158),none⟩] [])
 (.seq (.ops 27 false [
 oo 160 (.indexA 8 1 (.t 12) (.c (.int .i64 1))),
 oo 161 (.load (.t 160)),
 oo 162 (.indexA 8 1 (.t 12) (.c (.int .i64 2))),
 ⟨none,.store 1 (.t 162) (.t 161),none⟩] [])
 (.seq (.ops 28 false [
 oo 163 (.indexA 8 1 (.t 12) (.c (.int .i64 0))),
 oo 164 (.load (.t 163)),
 oo 165 (.indexA 8 1 (.t 12) (.c (.int .i64 1))),
 ⟨none,.store 1 (.t 165) (.t 164),none⟩] [])
 (.ops 29 false [
 oo 166 (.val (.t 14)),
 oo 167 (.val (.t 15)),
 oo 168 (.bin .add (.t 166) (.t 167)),
 oo 169 (.indexA 8 1 (.t 12) (.c (.int .i64 0))),
 ⟨none,.store 1 (.t 169) (.t 168),none⟩] [])))))))))))))
 (.ops 17 false [
 oo 75 (.val (.t 13)),
 oo 76 (.bin .add (.t 75) (.c (.int .i64 1))),
 oo 13 (.val (.t 76))] []))))))
 (.seq (.seq (.ops 30 false [
 oo 16 (.val (.c (.int .i64 0)))] [])
 (.block 6 (.loop (.seq (.seq (.ops 31 false [
 oo 170 (.val (.t 16)),
 oo 171 (.bin .lss (.t 170) (.c (.int .i64 8)))] [])
 (.cond (.t 171) (.skip)
 (.exit 6)))
 (.seq (.block 7 (.ops 33 true [
 oo 174 (.val (.t 16)),
 oo 175 (.val (.t 16)),
 oo 176 (.indexA 8 1 (.t 12) (.t 175)),
 oo 177 (.load (.t 176)),
 oo 178 (.val (.t 16)),
 oo 179 (.indexA 8 1 (.t 3) (.t 178)),
 oo 180 (.load (.t 179)),
 oo 181 (.bin .add (.t 177) (.t 180)),
 oo 182 (.indexA 8 1 (.t 12) (.t 174)),
 ⟨none,.store 1 (.t 182) (.t 181),none⟩] [([],[]),([],[]),([1],[1]),([2],[2]),([],[]),([4],[4]),([5],[5]),([3,6],[3,6]),([0,0,1,2,3,4,5,6,7],[0]),([8,7,0,1,2,3,4,5,6,7],[7,8])]))
 (.ops 32 false [
 oo 172 (.val (.t 16)),
 oo 173 (.bin .add (.t 172) (.c (.int .i64 1))),
 oo 16 (.val (.t 173))] []))))))
 (.seq (.ops 34 false [
 oo 183 (.loadN 8 (.t 12)),
 ⟨none,.store 8 (.t 6) (.t 183),none⟩] [])
 (.ret))))))))
def rs113 : List RR := [.cell 6 (some 8)]
theorem fun113 : FunR Tryz.prog 113 rc113 rs113 184 := ⟨Tryz.f113, Tryz.func113, by kernel_rfl, by kernel_rfl, by kernel_rfl⟩
/-- causeway/digest.begin -/
def rc125 : RC :=
 .seq (.ops 0 false [
 oo 0 (.alloc 185 (List.replicate 8 (.int .u32 0)))] [])
 (.seq (.ops 1 false [
 oo 1 (.build (List.replicate 8 (.int .u32 0)) [(0,1,(.c (.int .u32 1779033703))),(1,1,(.c (.int .u32 3144134277))),(2,1,(.c (.int .u32 1013904242))),(3,1,(.c (.int .u32 2773480762))),(4,1,(.c (.int .u32 1359893119))),(5,1,(.c (.int .u32 2600822924))),(6,1,(.c (.int .u32 528734635))),(7,1,(.c (.int .u32 1541459225)))]),
 ⟨none,.store 8 (.t 0) (.t 1),none⟩] [])
 (.ret))
def rs125 : List RR := [.cell 0 (some 8)]
theorem fun125 : FunR Tryz.prog 125 rc125 rs125 2 := ⟨Tryz.f125, Tryz.func125, by kernel_rfl, by kernel_rfl, by kernel_rfl⟩
/-- (causeway/digest.state).take -/
def rc126 : RC :=
 .seq (.ops 0 false [
 oo 2 (.box 185 (.t 0)),
 oo 3 (.box 169 (.t 1)),
 oo 4 (.alloc 185 (List.replicate 8 (.int .u32 0)))] [])
 (.seq (.ops 1 false [
 oo 20 (.loadN 64 (.t 3)),
 oo 21 (.call 136 [.t 20]),
 oo 5 (.alloc 191 (List.replicate 64 (.int .u32 0))),
 ⟨none,.store 64 (.t 5) (.t 21),none⟩] [])
 (.seq (.ops 2 true [
 oo 22 (.indexA 8 1 (.t 2) (.c (.int .i64 0))),
 oo 23 (.load (.t 22)),
 oo 24 (.indexA 8 1 (.t 2) (.c (.int .i64 1))),
 oo 25 (.load (.t 24)),
 oo 26 (.indexA 8 1 (.t 2) (.c (.int .i64 2))),
 oo 27 (.load (.t 26)),
 oo 28 (.indexA 8 1 (.t 2) (.c (.int .i64 3))),
 oo 29 (.load (.t 28)),
 oo 30 (.indexA 8 1 (.t 2) (.c (.int .i64 4))),
 oo 31 (.load (.t 30)),
 oo 32 (.indexA 8 1 (.t 2) (.c (.int .i64 5))),
 oo 33 (.load (.t 32)),
 oo 34 (.indexA 8 1 (.t 2) (.c (.int .i64 6))),
 oo 35 (.load (.t 34)),
 oo 36 (.indexA 8 1 (.t 2) (.c (.int .i64 7))),
 oo 37 (.load (.t 36)),
 oo 6 (.val (.t 23)),
 oo 7 (.val (.t 25)),
 oo 8 (.val (.t 27)),
 oo 9 (.val (.t 29)),
 oo 10 (.val (.t 31)),
 oo 11 (.val (.t 33)),
 oo 12 (.val (.t 35)),
 oo 13 (.val (.t 37))] [([],[]),([0],[0]),([],[]),([2],[2]),([],[]),([4],[4]),([],[]),([6],[6]),([],[]),([8],[8]),([],[]),([10],[10]),([],[]),([12],[12]),([],[]),([14],[14]),([1,0,1],[1]),([3,16,0,1,2,3,16],[3]),([5,17,0,1,2,3,4,5,16,17],[5]),([7,18,0,1,2,3,4,5,6,7,16,17,18],[7]),([9,19,0,1,2,3,4,5,6,7,8,9,16,17,18,19],[9]),([11,20,0,1,2,3,4,5,6,7,8,9,10,11,16,17,18,19,20],[11]),([13,21,0,1,2,3,4,5,6,7,8,9,10,11,12,13,16,17,18,19,20,21],[13]),([15,22,0,1,2,3,4,5,6,7,8,9,10,11,12,13,14,15,16,17,18,19,20,21,22],[15])])
 (.seq (.seq (.ops 3 false [
 oo 38 (.loadN 64 (.c (.pointer (some ⟨4,0,none⟩)))),
 oo 39 (.val (.c (.int .i64 0)))] [])
 (.block 0 (.loop (.seq (.ops 4 false [
 oo 40 (.bin .lss (.t 39) (.c (.int .i64 64)))] [])
 (.seq (.cond (.t 40) (.skip)
 (.exit 0))
 (.seq (.block 1 (.seq (.ops 5 false [
 oo 41 (.val (.t 39)),
 oo 42 (.idx 191 (.t 38) (.t 39)),
 oo 14 (.val (.t 41)),
 oo 15 (.val (.t 42))] [])
 (.seq (.ops 6 false [
 oo 43 (.val (.t 10)),
 oo 44 (.call 137 [(.t 43),(.c (.int .i64 (-6)))]),
 oo 45 (.val (.t 10)),
 oo 46 (.call 137 [(.t 45),(.c (.int .i64 (-11)))]),
 oo 47 (.bin .xor (.t 44) (.t 46)),
 oo 48 (.val (.t 10)),
 oo 49 (.call 137 [(.t 48),(.c (.int .i64 (-25)))]),
 oo 50 (.bin .xor (.t 47) (.t 49)),
 oo 16 (.val (.t 50))] [])
 (.seq (.ops 7 false [
 oo 51 (.val (.t 16)),
 oo 52 (.val (.t 13)),
 oo 53 (.val (.t 10)),
 oo 54 (.val (.t 11)),
 oo 55 (.bin .and (.t 53) (.t 54)),
 oo 56 (.val (.t 10)),
 oo 57 (.bnot (.t 56)),
 oo 58 (.val (.t 12)),
 oo 59 (.bin .and (.t 57) (.t 58)),
 oo 60 (.bin .xor (.t 55) (.t 59)),
 oo 61 (.bin .add (.t 52) (.t 60)),
 oo 62 (.val (.t 15)),
 oo 63 (.bin .add (.t 61) (.t 62)),
 oo 64 (.val (.t 14)),
 oo 65 (.indexA 64 1 (.t 5) (.t 64)),
 oo 66 (.load (.t 65)),
 oo 67 (.bin .add (.t 63) (.t 66)),
 oo 68 (.bin .add (.t 51) (.t 67)),
 oo 16 (.val (.t 68))] [])
 (.seq (.ops 8 false [
 oo 69 (.val (.t 6)),
 oo 70 (.call 137 [(.t 69),(.c (.int .i64 (-2)))]),
 oo 71 (.val (.t 6)),
 oo 72 (.call 137 [(.t 71),(.c (.int .i64 (-13)))]),
 oo 73 (.bin .xor (.t 70) (.t 72)),
 oo 74 (.val (.t 6)),
 oo 75 (.call 137 [(.t 74),(.c (.int .i64 (-22)))]),
 oo 76 (.bin .xor (.t 73) (.t 75)),
 oo 17 (.val (.t 76))] [])
 (.seq (.ops 9 false [
 oo 77 (.val (.t 17)),
 oo 78 (.val (.t 6)),
 oo 79 (.val (.t 7)),
 oo 80 (.bin .and (.t 78) (.t 79)),
 oo 81 (.val (.t 6)),
 oo 82 (.val (.t 8)),
 oo 83 (.bin .and (.t 81) (.t 82)),
 oo 84 (.bin .xor (.t 80) (.t 83)),
 oo 85 (.val (.t 7)),
 oo 86 (.val (.t 8)),
 oo 87 (.bin .and (.t 85) (.t 86)),
 oo 88 (.bin .xor (.t 84) (.t 87)),
 oo 89 (.bin .add (.t 77) (.t 88)),
 oo 17 (.val (.t 89))] [])
 (.ops 10 false [
 oo 90 (.val (.t 16)),
 oo 91 (.val (.t 17)),
 oo 92 (.bin .add (.t 90) (.t 91)),
 oo 93 (.val (.t 6)),
 oo 94 (.val (.t 7)),
 oo 95 (.val (.t 8)),
 oo 96 (.val (.t 9)),
 oo 97 (.val (.t 16)),
 oo 98 (.bin .add (.t 96) (.t 97)),
 oo 99 (.val (.t 10)),
 oo 100 (.val (.t 11)),
 oo 101 (.val (.t 12)),
 oo 6 (.val (.t 92)),
 oo 7 (.val (.t 93)),
 oo 8 (.val (.t 94)),
 oo 9 (.val (.t 95)),
 oo 10 (.val (.t 98)),
 oo 11 (.val (.t 99)),
 oo 12 (.val (.t 100)),
 oo 13 (.val (.t 101))] [])))))))
 (.ops 11 false [
 oo 102 (.bin .add (.t 39) (.c (.int .i64 1))),
 oo 39 (.val (.t 102))] [])))))))
 (.seq (.seq (.ops 12 false [
 oo 103 (.val (.t 6)),
 oo 104 (.val (.t 7)),
 oo 105 (.val (.t 8)),
 oo 106 (.val (.t 9)),
 oo 107 (.val (.t 10)),
 oo 108 (.val (.t 11)),
 oo 109 (.val (.t 12)),
 oo 110 (.val (.t 13)),
 oo 111 (.build (List.replicate 8 (.int .u32 0)) [(0,1,(.t 103)),(1,1,(.t 104)),(2,1,(.t 105)),(3,1,(.t 106)),(4,1,(.t 107)),(5,1,(.t 108)),(6,1,(.t 109)),(7,1,(.t 110))]),
 oo 112 (.val (.c (.int .i64 0)))] [])
 (.block 2 (.loop (.seq (.ops 13 false [
 oo 113 (.bin .lss (.t 112) (.c (.int .i64 8)))] [])
 (.seq (.cond (.t 113) (.skip)
 (.exit 2))
 (.seq (.block 3 (.seq (.ops 14 false [
 oo 114 (.val (.t 112)),
 oo 115 (.idx 174 (.t 111) (.t 112)),
 oo 18 (.val (.t 114)),
 oo 19 (.val (.t 115))] [])
 (.ops 15 false [
 oo 116 (.val (.t 18)),
 oo 117 (.indexA 8 1 (.t 2) (.t 116)),
 oo 118 (.load (.t 117)),
 oo 119 (.val (.t 19)),
 oo 120 (.bin .add (.t 118) (.t 119)),
 oo 121 (.indexA 8 1 (.t 2) (.t 116)),
 ⟨none,.store 1 (.t 121) (.t 120),none⟩] [])))
 (.ops 16 false [
 oo 122 (.bin .add (.t 112) (.c (.int .i64 1))),
 oo 112 (.val (.t 122))] [])))))))
 (.seq (.ops 17 false [
 oo 123 (.loadN 8 (.t 2)),
 ⟨none,.store 8 (.t 4) (.t 123),none⟩] [])
 (.ret))))))
def rs126 : List RR := [.cell 4 (some 8)]
theorem fun126 : FunR Tryz.prog 126 rc126 rs126 124 := ⟨Tryz.f126, Tryz.func126, by kernel_rfl, by kernel_rfl, by kernel_rfl⟩
/-- (*causeway/digest.Hasher).end -/
def rc127 : RC :=
 .seq (.ops 0 false [
 oo 6 (.alloc 81 (List.replicate 32 (.int .u8 0)))] [])
 (.seq (.ops 1 true [
 oo 14 (.val (.t 0)),
 oo 15 (.nilCheck (.t 14)),
 oo 16 (.fieldA 0 (.t 15)),
 oo 17 (.loadN 8 (.t 16)),
 oo 18 (.val (.t 0)),
 oo 19 (.nilCheck (.t 18)),
 oo 20 (.fieldA 8 (.t 19)),
 oo 21 (.loadN 64 (.t 20)),
 oo 7 (.alloc 185 (List.replicate 8 (.int .u32 0))),
 oo 8 (.alloc 169 (List.replicate 64 (.int .u8 0))),
 ⟨none,.store 8 (.t 7) (.t 17),none⟩,
 ⟨none,.store 64 (.t 8) (.t 21),none⟩] [([],[]),([0],[0]),([1],[1]),([2],[2]),([],[]),([4],[4]),([5],[5]),([6],[6]),([],[]),([],[]),([8,3,0,1,2,3,8,9],[3,8]),([9,7,10,0,1,2,3,4,5,6,7,8,9,10],[7,9])])
 (.seq (.ops 2 false [
 oo 22 (.val (.t 0)),
 oo 23 (.nilCheck (.t 22)),
 oo 24 (.fieldA 72 (.t 23)),
 oo 25 (.load (.t 24)),
 oo 26 (.bin .rem (.t 25) (.c (.int .i64 64))),
 oo 9 (.val (.t 26))] [])
 (.seq (.ops 3 false [
 oo 27 (.val (.t 9)),
 oo 28 (.sliceA 64 1 (.t 8) (some (.t 27)) none),
 ⟨none,.blt .clear #[22] 0 [.t 28],none⟩] [])
 (.seq (.ops 4 true [
 oo 29 (.val (.t 9)),
 oo 30 (.val (.t 1)),
 oo 31 (.val (.t 2)),
 oo 32 (.bin .shr (.c (.int .u8 255)) (.t 31)),
 oo 33 (.bin .andNot (.t 30) (.t 32)),
 oo 34 (.val (.t 2)),
 oo 35 (.bin .shr (.c (.int .u8 128)) (.t 34)),
 oo 36 (.bin .or (.t 33) (.t 35)),
 oo 37 (.indexA 64 1 (.t 8) (.t 29)),
 ⟨none,.store 1 (.t 37) (.t 36),none⟩] [([],[]),([],[]),([],[]),([2],[2]),([1,3],[1,3]),([],[]),([5],[5]),([4,6],[4,6]),([0,0,1,2,3,4,5,6,7],[0]),([8,7,0,1,2,3,4,5,6,7],[7,8])])
 (.seq (.seq (.ops 5 false [
 oo 38 (.val (.t 9)),
 oo 39 (.bin .geq (.t 38) (.c (.int .i64 56)))] [])
 (.cond (.t 39) (.ops 6 false [
 oo 40 (.loadN 8 (.t 7)),
 oo 41 (.loadN 64 (.t 8)),
 oo 42 (.call 126 [.t 40,.t 41]),
 oo 43 (.build (List.replicate 64 (.int .u8 0)) []),
 ⟨none,.store 8 (.t 7) (.t 42),none⟩,
 ⟨none,.store 64 (.t 8) (.t 43),none⟩] [])
 (.skip)))
 (.seq (.ops 7 false [
 oo 44 (.val (.t 0)),
 oo 45 (.nilCheck (.t 44)),
 oo 46 (.fieldA 72 (.t 45)),
 oo 47 (.load (.t 46)),
 oo 48 (.conv .u64 (.t 47)),
 oo 49 (.bin .mul (.t 48) (.c (.int .u64 8))),
 oo 50 (.val (.t 2)),
 oo 51 (.conv .u64 (.t 50)),
 oo 52 (.bin .add (.t 49) (.t 51)),
 oo 10 (.val (.t 52))] [])
 (.seq (.seq (.ops 8 false [
 oo 53 (.val (.c (.int .i64 0)))] [])
 (.block 0 (.loop (.seq (.ops 9 false [
 oo 54 (.bin .lss (.t 53) (.c (.int .i64 8)))] [])
 (.seq (.cond (.t 54) (.skip)
 (.exit 0))
 (.seq (.block 1 (.seq (.ops 10 false [
 oo 55 (.val (.t 53)),
 oo 11 (.val (.t 55))] [])
 (.ops 11 false [
 oo 56 (.val (.t 11)),
 oo 57 (.bin .sub (.c (.int .i64 63)) (.t 56)),
 oo 58 (.val (.t 10)),
 oo 59 (.val (.t 11)),
 oo 60 (.bin .mul (.c (.int .i64 8)) (.t 59)),
 oo 61 (.bin .shr (.t 58) (.t 60)),
 oo 62 (.conv .u8 (.t 61)),
 oo 63 (.indexA 64 1 (.t 8) (.t 57)),
 ⟨none,.store 1 (.t 63) (.t 62),none⟩] [])))
 (.ops 12 false [
 oo 64 (.bin .add (.t 53) (.c (.int .i64 1))),
 oo 53 (.val (.t 64))] [])))))))
 (.seq (.ops 13 false [
 oo 65 (.loadN 8 (.t 7)),
 oo 66 (.loadN 64 (.t 8)),
 oo 67 (.call 126 [.t 65,.t 66]),
 ⟨none,.store 8 (.t 7) (.t 67),none⟩] [])
 (.seq (.ops 14 false [
 oo 12 (.alloc 81 (List.replicate 32 (.int .u8 0)))] [])
 (.seq (.seq (.ops 15 false [
 oo 68 (.val (.c (.int .i64 0)))] [])
 (.block 2 (.loop (.seq (.ops 16 false [
 oo 69 (.bin .lss (.t 68) (.c (.int .i64 32)))] [])
 (.seq (.cond (.t 69) (.skip)
 (.exit 2))
 (.seq (.block 3 (.seq (.ops 17 false [
 oo 70 (.val (.t 68)),
 oo 13 (.val (.t 70))] [])
 (.ops 18 false [
 oo 71 (.val (.t 13)),
 oo 72 (.val (.t 13)),
 oo 73 (.bin .quo (.t 72) (.c (.int .i64 4))),
 oo 74 (.indexA 8 1 (.t 7) (.t 73)),
 oo 75 (.load (.t 74)),
 oo 76 (.val (.t 13)),
 oo 77 (.bin .rem (.t 76) (.c (.int .i64 4))),
 oo 78 (.bin .mul (.c (.int .i64 8)) (.t 77)),
 oo 79 (.bin .sub (.c (.int .i64 24)) (.t 78)),
 oo 80 (.bin .shr (.t 75) (.t 79)),
 oo 81 (.conv .u8 (.t 80)),
 oo 82 (.indexA 32 1 (.t 12) (.t 71)),
 ⟨none,.store 1 (.t 82) (.t 81),none⟩] [])))
 (.ops 19 false [
 oo 83 (.bin .add (.t 68) (.c (.int .i64 1))),
 oo 68 (.val (.t 83))] [])))))))
 (.seq (.ops 20 false [
 oo 84 (.loadN 32 (.t 12)),
 ⟨none,.store 32 (.t 6) (.t 84),none⟩] [])
 (.ret))))))))))))
def rs127 : List RR := [.cell 6 (some 32)]
theorem fun127 : FunR Tryz.prog 127 rc127 rs127 85 := ⟨Tryz.f127, Tryz.func127, by kernel_rfl, by kernel_rfl, by kernel_rfl⟩
/-- causeway/causewayref01.word -/
def rc128 : RC :=
 .seq (.ops 0 false [
 oo 4 (.val (.c (.int .u32 0)))] [])
 (.seq (.ops 1 true [
 oo 5 (.val (.t 0)),
 oo 6 (.val (.t 1)),
 oo 7 (.indexS 1 (.t 5) (.t 6)),
 oo 8 (.load (.t 7)),
 oo 9 (.conv .u32 (.t 8)),
 oo 10 (.bin .shl (.t 9) (.c (.int .u64 24))),
 oo 11 (.val (.t 0)),
 oo 12 (.val (.t 1)),
 oo 13 (.bin .add (.t 12) (.c (.int .i64 1))),
 oo 14 (.indexS 1 (.t 11) (.t 13)),
 oo 15 (.load (.t 14)),
 oo 16 (.conv .u32 (.t 15)),
 oo 17 (.bin .shl (.t 16) (.c (.int .u64 16))),
 oo 18 (.bin .or (.t 10) (.t 17)),
 oo 19 (.val (.t 0)),
 oo 20 (.val (.t 1)),
 oo 21 (.bin .add (.t 20) (.c (.int .i64 2))),
 oo 22 (.indexS 1 (.t 19) (.t 21)),
 oo 23 (.load (.t 22)),
 oo 24 (.conv .u32 (.t 23)),
 oo 25 (.bin .shl (.t 24) (.c (.int .u64 8))),
 oo 26 (.bin .or (.t 18) (.t 25)),
 oo 27 (.val (.t 0)),
 oo 28 (.val (.t 1)),
 oo 29 (.bin .add (.t 28) (.c (.int .i64 3))),
 oo 30 (.indexS 1 (.t 27) (.t 29)),
 oo 31 (.load (.t 30)),
 oo 32 (.conv .u32 (.t 31)),
 oo 33 (.bin .or (.t 26) (.t 32)),
 oo 4 (.val (.t 33))] [([],[]),([],[]),([0,1],[0,1]),([2],[2]),([3],[3]),([4],[4]),([],[]),([],[]),([7],[7]),([6,8],[6,8]),([9],[9]),([10],[10]),([11],[11]),([5,12],[5,12]),([],[]),([],[]),([15],[15]),([14,16],[14,16]),([17],[17]),([18],[18]),([19],[19]),([13,20],[13,20]),([],[]),([],[]),([23],[23]),([22,24],[22,24]),([25],[25]),([26],[26]),([21,27],[21,27]),([28,0,1,2,3,4,5,6,7,8,9,10,11,12,13,14,15,16,17,18,19,20,21,22,23,24,25,26,27,28],[28])])
 (.ret))
def rs128 : List RR := [.tmp 4]
theorem fun128 : FunR Tryz.prog 128 rc128 rs128 34 := ⟨Tryz.f128, Tryz.func128, by kernel_rfl, by kernel_rfl, by kernel_rfl⟩
/-- causeway/causewayref01.turned -/
def rc129 : RC :=
 .seq (.ops 0 false [
 oo 4 (.val (.c (.int .u32 0)))] [])
 (.seq (.ops 1 false [
 oo 5 (.val (.t 0)),
 oo 6 (.val (.t 1)),
 oo 7 (.bin .shr (.t 5) (.t 6)),
 oo 8 (.val (.t 0)),
 oo 9 (.val (.t 1)),
 oo 10 (.bin .sub (.c (.int .u32 32)) (.t 9)),
 oo 11 (.bin .shl (.t 8) (.t 10)),
 oo 12 (.bin .or (.t 7) (.t 11)),
 oo 4 (.val (.t 12))] [])
 (.ret))
def rs129 : List RR := [.tmp 4]
theorem fun129 : FunR Tryz.prog 129 rc129 rs129 13 := ⟨Tryz.f129, Tryz.func129, by kernel_rfl, by kernel_rfl, by kernel_rfl⟩
/-- causeway/digest.words -/
def rc136 : RC :=
 .seq (.ops 0 false [
 oo 1 (.box 169 (.t 0)),
 oo 2 (.alloc 191 (List.replicate 64 (.int .u32 0)))] [])
 (.seq (.ops 1 false [
 oo 3 (.alloc 191 (List.replicate 64 (.int .u32 0)))] [])
 (.seq (.seq (.ops 2 false [
 oo 8 (.val (.c (.int .i64 0)))] [])
 (.block 0 (.loop (.seq (.ops 3 false [
 oo 9 (.bin .lss (.t 8) (.c (.int .i64 16)))] [])
 (.seq (.cond (.t 9) (.skip)
 (.exit 0))
 (.seq (.block 1 (.seq (.ops 4 false [
 oo 10 (.val (.t 8)),
 oo 4 (.val (.t 10))] [])
 (.ops 5 true [
 oo 11 (.val (.t 4)),
 oo 12 (.val (.t 4)),
 oo 13 (.bin .mul (.c (.int .i64 4)) (.t 12)),
 oo 14 (.indexA 64 1 (.t 1) (.t 13)),
 oo 15 (.load (.t 14)),
 oo 16 (.conv .u32 (.t 15)),
 oo 17 (.bin .shl (.t 16) (.c (.int .u64 24))),
 oo 18 (.val (.t 4)),
 oo 19 (.bin .mul (.c (.int .i64 4)) (.t 18)),
 oo 20 (.bin .add (.t 19) (.c (.int .i64 1))),
 oo 21 (.indexA 64 1 (.t 1) (.t 20)),
 oo 22 (.load (.t 21)),
 oo 23 (.conv .u32 (.t 22)),
 oo 24 (.bin .shl (.t 23) (.c (.int .u64 16))),
 oo 25 (.bin .or (.t 17) (.t 24)),
 oo 26 (.val (.t 4)),
 oo 27 (.bin .mul (.c (.int .i64 4)) (.t 26)),
 oo 28 (.bin .add (.t 27) (.c (.int .i64 2))),
 oo 29 (.indexA 64 1 (.t 1) (.t 28)),
 oo 30 (.load (.t 29)),
 oo 31 (.conv .u32 (.t 30)),
 oo 32 (.bin .shl (.t 31) (.c (.int .u64 8))),
 oo 33 (.bin .or (.t 25) (.t 32)),
 oo 34 (.val (.t 4)),
 oo 35 (.bin .mul (.c (.int .i64 4)) (.t 34)),
 oo 36 (.bin .add (.t 35) (.c (.int .i64 3))),
 oo 37 (.indexA 64 1 (.t 1) (.t 36)),
 oo 38 (.load (.t 37)),
 oo 39 (.conv .u32 (.t 38)),
 oo 40 (.bin .or (.t 33) (.t 39)),
 oo 41 (.indexA 64 1 (.t 3) (.t 11)),
 ⟨none,.store 1 (.t 41) (.t 40),none⟩] [([],[]),([],[]),([1],[1]),([2],[2]),([3],[3]),([4],[4]),([5],[5]),([],[]),([7],[7]),([8],[8]),([9],[9]),([10],[10]),([11],[11]),([12],[12]),([6,13],[6,13]),([],[]),([15],[15]),([16],[16]),([17],[17]),([18],[18]),([19],[19]),([20],[20]),([14,21],[14,21]),([],[]),([23],[23]),([24],[24]),([25],[25]),([26],[26]),([27],[27]),([22,28],[22,28]),([0,0,1,2,3,4,5,6,7,8,9,10,11,12,13,14,15,16,17,18,19,20,21,22,23,24,25,26,27,28,29],[0]),([30,29,0,1,2,3,4,5,6,7,8,9,10,11,12,13,14,15,16,17,18,19,20,21,22,23,24,25,26,27,28,29],[29,30])])))
 (.ops 6 false [
 oo 42 (.bin .add (.t 8) (.c (.int .i64 1))),
 oo 8 (.val (.t 42))] [])))))))
 (.seq (.seq (.ops 7 false [
 oo 5 (.val (.c (.int .i64 16)))] [])
 (.block 2 (.loop (.seq (.seq (.ops 8 false [
 oo 43 (.val (.t 5)),
 oo 44 (.bin .lss (.t 43) (.c (.int .i64 64)))] [])
 (.cond (.t 44) (.skip)
 (.exit 2)))
 (.seq (.block 3 (.seq (.ops 10 true [
 oo 47 (.val (.t 5)),
 oo 48 (.bin .sub (.t 47) (.c (.int .i64 2))),
 oo 49 (.indexA 64 1 (.t 3) (.t 48)),
 oo 50 (.load (.t 49)),
 oo 51 (.val (.t 5)),
 oo 52 (.bin .sub (.t 51) (.c (.int .i64 15))),
 oo 53 (.indexA 64 1 (.t 3) (.t 52)),
 oo 54 (.load (.t 53)),
 oo 6 (.val (.t 50)),
 oo 7 (.val (.t 54))] [([],[]),([0],[0]),([1],[1]),([2],[2]),([],[]),([4],[4]),([5],[5]),([6],[6]),([3,0,1,2,3],[3]),([7,8,0,1,2,3,4,5,6,7,8],[7])])
 (.seq (.ops 11 false [
 oo 55 (.val (.t 6)),
 oo 56 (.call 137 [(.t 55),(.c (.int .i64 (-17)))]),
 oo 57 (.val (.t 6)),
 oo 58 (.call 137 [(.t 57),(.c (.int .i64 (-19)))]),
 oo 59 (.bin .xor (.t 56) (.t 58)),
 oo 60 (.val (.t 6)),
 oo 61 (.bin .shr (.t 60) (.c (.int .u64 10))),
 oo 62 (.bin .xor (.t 59) (.t 61)),
 oo 6 (.val (.t 62))] [])
 (.seq (.ops 12 false [
 oo 63 (.val (.t 7)),
 oo 64 (.call 137 [(.t 63),(.c (.int .i64 (-7)))]),
 oo 65 (.val (.t 7)),
 oo 66 (.call 137 [(.t 65),(.c (.int .i64 (-18)))]),
 oo 67 (.bin .xor (.t 64) (.t 66)),
 oo 68 (.val (.t 7)),
 oo 69 (.bin .shr (.t 68) (.c (.int .u64 3))),
 oo 70 (.bin .xor (.t 67) (.t 69)),
 oo 7 (.val (.t 70))] [])
 (.ops 13 true [
 oo 71 (.val (.t 5)),
 oo 72 (.val (.t 6)),
 oo 73 (.val (.t 5)),
 oo 74 (.bin .sub (.t 73) (.c (.int .i64 7))),
 oo 75 (.indexA 64 1 (.t 3) (.t 74)),
 oo 76 (.load (.t 75)),
 oo 77 (.bin .add (.t 72) (.t 76)),
 oo 78 (.val (.t 7)),
 oo 79 (.bin .add (.t 77) (.t 78)),
 oo 80 (.val (.t 5)),
 oo 81 (.bin .sub (.t 80) (.c (.int .i64 16))),
 oo 82 (.indexA 64 1 (.t 3) (.t 81)),
 oo 83 (.load (.t 82)),
 oo 84 (.bin .add (.t 79) (.t 83)),
 oo 85 (.indexA 64 1 (.t 3) (.t 71)),
 ⟨none,.store 1 (.t 85) (.t 84),none⟩] [([],[]),([],[]),([],[]),([2],[2]),([3],[3]),([4],[4]),([1,5],[1,5]),([],[]),([6,7],[6,7]),([],[]),([9],[9]),([10],[10]),([11],[11]),([8,12],[8,12]),([0,0,1,2,3,4,5,6,7,8,9,10,11,12,13],[0]),([14,13,0,1,2,3,4,5,6,7,8,9,10,11,12,13],[13,14])])))))
 (.ops 9 false [
 oo 45 (.val (.t 5)),
 oo 46 (.bin .add (.t 45) (.c (.int .i64 1))),
 oo 5 (.val (.t 46))] []))))))
 (.seq (.ops 14 false [
 oo 86 (.loadN 64 (.t 3)),
 ⟨none,.store 64 (.t 2) (.t 86),none⟩] [])
 (.ret)))))
def rs136 : List RR := [.cell 2 (some 64)]
theorem fun136 : FunR Tryz.prog 136 rc136 rs136 87 := ⟨Tryz.f136, Tryz.func136, by kernel_rfl, by kernel_rfl, by kernel_rfl⟩
/-- math/bits.RotateLeft32 -/
def rc137 : RC :=
 .seq (.ops 0 false [
 oo 4 (.val (.c (.int .u32 0)))] [])
 (.seq (.ops 1 false [
 oo 6 (.val (.t 1)),
 oo 7 (.conv .u64 (.t 6)),
 oo 8 (.bin .and (.t 7) (.c (.int .u64 31))),
 oo 5 (.val (.t 8))] [])
 (.seq (.ops 2 false [
 oo 9 (.val (.t 0)),
 oo 10 (.val (.t 5)),
 oo 11 (.bin .shl (.t 9) (.t 10)),
 oo 12 (.val (.t 0)),
 oo 13 (.val (.t 5)),
 oo 14 (.bin .sub (.c (.int .u64 32)) (.t 13)),
 oo 15 (.bin .shr (.t 12) (.t 14)),
 oo 16 (.bin .or (.t 11) (.t 15)),
 oo 4 (.val (.t 16))] [])
 (.ret)))
def rs137 : List RR := [.tmp 4]
theorem fun137 : FunR Tryz.prog 137 rc137 rs137 17 := ⟨Tryz.f137, Tryz.func137, by kernel_rfl, by kernel_rfl, by kernel_rfl⟩
/-- (*causeway/causewaylaw11.Some).Find -/
def rc155 : RC :=
 .seq (.ops 0 false [
 oo 4 (.val (.c (.slice none 0 0))),
 oo 5 (.val (.c (.int .i64 0)))] [])
 (.seq (.seq (.ops 1 false [
 oo 6 (.val (.c (.int .i64 0)))] [])
 (.block 0 (.loop (.seq (.seq (.ops 2 false [
 oo 7 (.val (.t 6)),
 oo 8 (.val (.t 0)),
 oo 9 (.nilCheck (.t 8)),
 oo 10 (.fieldA 0 (.t 9)),
 oo 11 (.load (.t 10)),
 oo 12 (.len (.t 11)),
 oo 13 (.bin .lss (.t 7) (.t 12))] [])
 (.cond (.t 13) (.skip)
 (.exit 0)))
 (.seq (.block 1 (.seq (.ops 4 false [
 oo 16 (.val (.t 0)),
 oo 17 (.nilCheck (.t 16)),
 oo 18 (.fieldA 0 (.t 17)),
 oo 19 (.load (.t 18)),
 oo 20 (.val (.t 6)),
 oo 21 (.indexS 2 (.t 19) (.t 20)),
 oo 22 (.fieldA 0 (.t 21)),
 oo 23 (.load (.t 22)),
 oo 24 (.val (.t 1)),
 oo 25 (.eqp .str false (.t 23) (.t 24))] [])
 (.cond (.t 25) (.seq (.ops 5 false [
 oo 26 (.buildS 5 0 [] []),
 oo 27 (.val (.t 0)),
 oo 28 (.nilCheck (.t 27)),
 oo 29 (.fieldA 0 (.t 28)),
 oo 30 (.load (.t 29)),
 oo 31 (.val (.t 6)),
 oo 32 (.indexS 2 (.t 30) (.t 31)),
 oo 33 (.fieldA 1 (.t 32)),
 oo 34 (.load (.t 33)),
 oo 35 (.blt .append #[22,22] 22 [.t 26,.t 34]),
 oo 4 (.val (.t 35)),
 oo 5 (.val (.c (.int .i64 0)))] [])
 (.ret))
 (.skip))))
 (.ops 3 false [
 oo 14 (.val (.t 6)),
 oo 15 (.bin .add (.t 14) (.c (.int .i64 1))),
 oo 6 (.val (.t 15))] []))))))
 (.seq (.ops 6 false [
 oo 4 (.val (.c (.slice none 0 0))),
 oo 5 (.val (.c (.int .i64 74)))] [])
 (.ret)))
def rs155 : List RR := [.tmp 4, .tmp 5]
theorem fun155 : FunR Tryz.prog 155 rc155 rs155 36 := ⟨Tryz.f155, Tryz.func155, by kernel_rfl, by kernel_rfl, by kernel_rfl⟩
end Go.Proofs.YtmfonkklmndhjaaGreatDoor
