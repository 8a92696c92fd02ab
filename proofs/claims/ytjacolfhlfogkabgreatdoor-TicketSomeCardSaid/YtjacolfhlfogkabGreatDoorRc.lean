/-
 The resolved texts of this seat's functions, printed by this session's own program, and that they are what the translation has.
-/
import Derived.Test.YtjacolfhlfogkabGreatDoorChecked
import Derived.Test.YtjacolfhlfogkabGreatDoorZCd
import Derived.KernelRfl
namespace Go.Proofs.YtjacolfhlfogkabGreatDoor
open Go Go.Sl
abbrev oo (d : Nat) (r : RO) : ROp := ⟨some d, r, none⟩
set_option maxRecDepth 100000
/-- causeway/causewaylaw09.TicketSome -/
def rc3 : RC :=
 .seq (.ops 0 false [
 oo 4 (.val (.c (.bool false)))] [])
 (.seq (.ops 1 false [
 oo 10 (.val (.t 0)),
 oo 11 (.build [(.slice none 0 0)] [(0,1,(.t 10))]),
 oo 12 (.box 30 (.t 11)),
 oo 13 (.iface 28 (.t 12)),
 oo 14 (.call 6 [.t 13]),
 oo 9 (.val (.t 14)),
 oo 15 (.extract 0 (.t 9)),
 oo 16 (.extract 1 (.t 9)),
 oo 5 (.val (.t 15)),
 oo 6 (.val (.t 16))] [])
 (.seq (.seq (.ops 2 false [
 oo 17 (.val (.t 6)),
 oo 18 (.bin .neq (.t 17) (.c (.int .i64 0))),
 oo 19 (.val (.t 18)),
 ⟨some 20,.val (.t 5),some (19,false)⟩,
 ⟨some 21,.eqp .ptr false (.t 20) (.c (.pointer none)),some (19,false)⟩,
 oo 22 (.pick (.t 19) (.c (.bool true)) (.t 21)),
 oo 23 (.val (.t 22)),
 ⟨some 24,.call 7 [],some (23,false)⟩,
 ⟨some 25,.not (.t 24),some (23,false)⟩,
 oo 26 (.pick (.t 23) (.c (.bool true)) (.t 25))] [])
 (.cond (.t 26) (.seq (.ops 3 false [
 oo 4 (.val (.c (.bool false)))] [])
 (.ret))
 (.skip)))
 (.seq (.ops 4 false [
 oo 27 (.val (.t 0)),
 oo 28 (.call 8 [.t 27]),
 oo 7 (.val (.t 28))] [])
 (.seq (.seq (.ops 5 false [
 oo 8 (.val (.c (.int .i64 0)))] [])
 (.block 0 (.loop (.seq (.seq (.ops 6 false [
 oo 29 (.val (.t 8)),
 oo 30 (.val (.t 1)),
 oo 31 (.len (.t 30)),
 oo 32 (.bin .lss (.t 29) (.t 31))] [])
 (.cond (.t 32) (.skip)
 (.exit 0)))
 (.seq (.block 1 (.seq (.ops 8 true [
 oo 35 (.val (.t 5)),
 oo 36 (.val (.t 1)),
 oo 37 (.val (.t 8)),
 oo 38 (.indexS 49 (.t 36) (.t 37)),
 oo 39 (.loadN 49 (.t 38)),
 oo 40 (.call 9 [.t 35,.t 39]),
 oo 41 (.val (.t 7)),
 oo 42 (.val (.t 1)),
 oo 43 (.val (.t 8)),
 oo 44 (.indexS 49 (.t 42) (.t 43)),
 oo 45 (.loadN 49 (.t 44)),
 oo 46 (.call 10 [.t 41,.t 45]),
 oo 47 (.eqn true 42 (.t 40) (.t 46))] [([],[]),([],[]),([],[]),([1,2],[1,2]),([3],[3]),([0,4],[0,4]),([],[]),([],[]),([],[]),([7,8],[7,8]),([9],[9]),([6,10,5],[6,10]),([5,11],[5,11])])
 (.cond (.t 47) (.seq (.ops 9 false [
 oo 4 (.val (.c (.bool false)))] [])
 (.ret))
 (.skip))))
 (.ops 7 false [
 oo 33 (.val (.t 8)),
 oo 34 (.bin .add (.t 33) (.c (.int .i64 1))),
 oo 8 (.val (.t 34))] []))))))
 (.seq (.ops 10 false [
 oo 48 (.val (.t 5)),
 oo 49 (.call 12 [.t 48]),
 oo 50 (.val (.t 7)),
 oo 51 (.call 13 [.t 50]),
 oo 52 (.call 11 [.t 49,.t 51]),
 oo 53 (.val (.t 52)),
 ⟨some 54,.val (.t 5),some (53,true)⟩,
 ⟨some 55,.call 15 [.t 54],some (53,true)⟩,
 ⟨some 56,.val (.t 7),some (53,true)⟩,
 ⟨some 57,.call 16 [.t 56],some (53,true)⟩,
 ⟨some 58,.call 14 [.t 55,.t 57],some (53,true)⟩,
 oo 59 (.pick (.t 53) (.t 58) (.c (.bool false))),
 oo 4 (.val (.t 59))] [])
 (.ret))))))
def rs3 : List RR := [.tmp 4]
theorem fun3 : FunR Tryz.prog 3 rc3 rs3 60 := ⟨Tryz.f3, Tryz.func3, by kernel_rfl, by kernel_rfl, by kernel_rfl⟩
/-- causeway/store.Over -/
def rc6 : RC :=
 .seq (.ops 0 false [
 oo 2 (.val (.c (.pointer none))),
 oo 3 (.val (.c (.int .i64 0)))] [])
 (.seq (.seq (.ops 1 false [
 oo 4 (.val (.t 0)),
 oo 5 (.eqp .ifc false (.t 4) (.c .nilIface))] [])
 (.cond (.t 5) (.seq (.ops 2 false [
 oo 2 (.val (.c (.pointer none))),
 oo 3 (.val (.c (.int .i64 1)))] [])
 (.ret))
 (.skip)))
 (.seq (.ops 3 false [
 oo 6 (.val (.t 0)),
 oo 7 (.mkMap 71),
 oo 8 (.mkMap 71),
 oo 9 (.build [.nilIface,(.map none),(.map none),(.slice none 0 0),(.slice none 0 0)] [(0,1,(.t 6)),(1,1,(.t 7)),(2,1,(.t 8))]),
 oo 10 (.box 75 (.t 9)),
 oo 2 (.val (.t 10)),
 oo 3 (.val (.c (.int .i64 0)))] [])
 (.ret)))
def rs6 : List RR := [.tmp 2, .tmp 3]
theorem fun6 : FunR Tryz.prog 6 rc6 rs6 11 := ⟨Tryz.f6, Tryz.func6, by kernel_rfl, by kernel_rfl, by kernel_rfl⟩
/-- causeway/causewaylaw09.known -/
def rc7 : RC :=
 .seq (.ops 0 false [
 oo 0 (.val (.c (.bool false)))] [])
 (.seq (.ops 1 false [
 oo 11 (.call 17 [(.c (.slice none 0 0))]),
 oo 1 (.val (.t 11))] [])
 (.seq (.seq (.ops 2 false [
 oo 12 (.val (.t 1)),
 oo 13 (.eqp .ptr false (.t 12) (.c (.pointer none)))] [])
 (.cond (.t 13) (.seq (.ops 3 false [
 oo 0 (.val (.c (.bool false)))] [])
 (.ret))
 (.skip)))
 (.seq (.ops 4 false [
 oo 14 (.build [(.int .u64 0),(.int .u64 0),(.int .u64 0),(.int .u64 0)] [(0,1,(.c (.int .u64 256)))]),
 oo 15 (.build [(.int .i64 0),(.int .i64 0),(.int .u8 0),(.int .u8 0),(.int .u8 0),(.int .u8 0),(.int .u8 0),(.int .u8 0),(.int .u8 0),(.int .u8 0),(.int .u8 0),(.int .u8 0),(.int .u8 0),(.int .u8 0),(.int .u8 0),(.int .u8 0),(.int .u8 0),(.int .u8 0),(.int .u8 0),(.int .u8 0),(.int .u8 0),(.int .u8 0),(.int .i64 0),(.int .u8 0),(.int .u8 0),(.int .u8 0),(.int .u8 0),(.int .u8 0),(.int .u8 0),(.int .u8 0),(.int .u8 0),(.int .u8 0),(.int .u8 0),(.int .u8 0),(.int .u8 0),(.int .u8 0),(.int .u8 0),(.int .u8 0),(.int .u8 0),(.int .u8 0),(.int .u8 0),(.int .u8 0),(.int .u8 0),(.int .u64 0),(.int .u64 0),(.int .u64 0),(.int .u64 0)] [(1,1,(.c (.int .i64 7))),(22,1,(.c (.int .i64 3))),(43,4,(.t 14))]),
 oo 2 (.alloc 40 [(.int .i64 0),(.int .i64 0),(.int .u8 0),(.int .u8 0),(.int .u8 0),(.int .u8 0),(.int .u8 0),(.int .u8 0),(.int .u8 0),(.int .u8 0),(.int .u8 0),(.int .u8 0),(.int .u8 0),(.int .u8 0),(.int .u8 0),(.int .u8 0),(.int .u8 0),(.int .u8 0),(.int .u8 0),(.int .u8 0),(.int .u8 0),(.int .u8 0),(.int .i64 0),(.int .u8 0),(.int .u8 0),(.int .u8 0),(.int .u8 0),(.int .u8 0),(.int .u8 0),(.int .u8 0),(.int .u8 0),(.int .u8 0),(.int .u8 0),(.int .u8 0),(.int .u8 0),(.int .u8 0),(.int .u8 0),(.int .u8 0),(.int .u8 0),(.int .u8 0),(.int .u8 0),(.int .u8 0),(.int .u8 0),(.int .u64 0),(.int .u64 0),(.int .u64 0),(.int .u64 0)]),
 ⟨none,.store 47 (.t 2) (.t 15),none⟩] [])
 (.seq (.ops 5 false [
 oo 17 (.val (.t 1)),
 oo 18 (.loadN 47 (.t 2)),
 oo 19 (.call 28 [.t 17,.t 18]),
 oo 16 (.val (.t 19)),
 oo 20 (.extract 0 (.t 16)),
 oo 21 (.extract 1 (.t 16)),
 oo 3 (.val (.t 20)),
 oo 4 (.val (.t 21))] [])
 (.seq (.ops 6 false [
 oo 23 (.val (.t 1)),
 oo 24 (.call 29 [(.t 23),(.c (.int .i64 1))]),
 oo 22 (.val (.t 24)),
 oo 25 (.extract 0 (.t 22)),
 oo 26 (.extract 1 (.t 22)),
 oo 5 (.alloc 40 [(.int .i64 0),(.int .i64 0),(.int .u8 0),(.int .u8 0),(.int .u8 0),(.int .u8 0),(.int .u8 0),(.int .u8 0),(.int .u8 0),(.int .u8 0),(.int .u8 0),(.int .u8 0),(.int .u8 0),(.int .u8 0),(.int .u8 0),(.int .u8 0),(.int .u8 0),(.int .u8 0),(.int .u8 0),(.int .u8 0),(.int .u8 0),(.int .u8 0),(.int .i64 0),(.int .u8 0),(.int .u8 0),(.int .u8 0),(.int .u8 0),(.int .u8 0),(.int .u8 0),(.int .u8 0),(.int .u8 0),(.int .u8 0),(.int .u8 0),(.int .u8 0),(.int .u8 0),(.int .u8 0),(.int .u8 0),(.int .u8 0),(.int .u8 0),(.int .u8 0),(.int .u8 0),(.int .u8 0),(.int .u8 0),(.int .u64 0),(.int .u64 0),(.int .u64 0),(.int .u64 0)]),
 ⟨none,.store 47 (.t 5) (.t 25),none⟩,
 oo 6 (.val (.t 26))] [])
 (.seq (.ops 7 false [
 oo 28 (.val (.t 1)),
 oo 29 (.build (List.replicate 20 (.int .u8 0)) []),
 oo 30 (.call 30 [(.t 28),(.c (.int .i64 1)),(.t 29)]),
 oo 27 (.val (.t 30)),
 oo 31 (.extract 0 (.t 27)),
 oo 32 (.extract 1 (.t 27)),
 oo 7 (.alloc 40 [(.int .i64 0),(.int .i64 0),(.int .u8 0),(.int .u8 0),(.int .u8 0),(.int .u8 0),(.int .u8 0),(.int .u8 0),(.int .u8 0),(.int .u8 0),(.int .u8 0),(.int .u8 0),(.int .u8 0),(.int .u8 0),(.int .u8 0),(.int .u8 0),(.int .u8 0),(.int .u8 0),(.int .u8 0),(.int .u8 0),(.int .u8 0),(.int .u8 0),(.int .i64 0),(.int .u8 0),(.int .u8 0),(.int .u8 0),(.int .u8 0),(.int .u8 0),(.int .u8 0),(.int .u8 0),(.int .u8 0),(.int .u8 0),(.int .u8 0),(.int .u8 0),(.int .u8 0),(.int .u8 0),(.int .u8 0),(.int .u8 0),(.int .u8 0),(.int .u8 0),(.int .u8 0),(.int .u8 0),(.int .u8 0),(.int .u64 0),(.int .u64 0),(.int .u64 0),(.int .u64 0)]),
 ⟨none,.store 47 (.t 7) (.t 31),none⟩,
 oo 8 (.val (.t 32))] [])
 (.seq (.ops 8 false [
 oo 34 (.val (.t 1)),
 oo 35 (.call 29 [(.t 34),(.c (.int .i64 1))]),
 oo 33 (.val (.t 35)),
 oo 36 (.extract 0 (.t 33)),
 oo 37 (.extract 1 (.t 33)),
 oo 9 (.alloc 40 [(.int .i64 0),(.int .i64 0),(.int .u8 0),(.int .u8 0),(.int .u8 0),(.int .u8 0),(.int .u8 0),(.int .u8 0),(.int .u8 0),(.int .u8 0),(.int .u8 0),(.int .u8 0),(.int .u8 0),(.int .u8 0),(.int .u8 0),(.int .u8 0),(.int .u8 0),(.int .u8 0),(.int .u8 0),(.int .u8 0),(.int .u8 0),(.int .u8 0),(.int .i64 0),(.int .u8 0),(.int .u8 0),(.int .u8 0),(.int .u8 0),(.int .u8 0),(.int .u8 0),(.int .u8 0),(.int .u8 0),(.int .u8 0),(.int .u8 0),(.int .u8 0),(.int .u8 0),(.int .u8 0),(.int .u8 0),(.int .u8 0),(.int .u8 0),(.int .u8 0),(.int .u8 0),(.int .u8 0),(.int .u8 0),(.int .u64 0),(.int .u64 0),(.int .u64 0),(.int .u64 0)]),
 ⟨none,.store 47 (.t 9) (.t 36),none⟩,
 oo 10 (.val (.t 37))] [])
 (.seq (.ops 9 false [
 oo 38 (.fieldA 0 (.t 2)),
 ⟨none,.store 1 (.t 38) (.c (.int .i64 1)),none⟩] [])
 (.seq (.ops 10 false [
 oo 39 (.val (.t 3)),
 oo 40 (.bin .eql (.t 39) (.c (.int .i64 1))),
 oo 41 (.val (.t 40)),
 ⟨some 42,.val (.t 4),some (41,true)⟩,
 ⟨some 43,.bin .eql (.t 42) (.c (.int .i64 0)),some (41,true)⟩,
 oo 44 (.pick (.t 41) (.t 43) (.c (.bool false))),
 oo 45 (.val (.t 44)),
 ⟨some 46,.val (.t 6),some (45,true)⟩,
 ⟨some 47,.bin .eql (.t 46) (.c (.int .i64 0)),some (45,true)⟩,
 oo 48 (.pick (.t 45) (.t 47) (.c (.bool false))),
 oo 49 (.val (.t 48)),
 ⟨some 50,.loadN 47 (.t 5),some (49,true)⟩,
 ⟨some 51,.loadN 47 (.t 2),some (49,true)⟩,
 ⟨some 52,.eqn false 40 (.t 50) (.t 51),some (49,true)⟩,
 oo 53 (.pick (.t 49) (.t 52) (.c (.bool false))),
 oo 54 (.val (.t 53)),
 ⟨some 55,.val (.t 8),some (54,true)⟩,
 ⟨some 56,.bin .eql (.t 55) (.c (.int .i64 0)),some (54,true)⟩,
 oo 57 (.pick (.t 54) (.t 56) (.c (.bool false))),
 oo 58 (.val (.t 57)),
 ⟨some 59,.loadN 47 (.t 7),some (58,true)⟩,
 ⟨some 60,.loadN 47 (.t 2),some (58,true)⟩,
 ⟨some 61,.eqn false 40 (.t 59) (.t 60),some (58,true)⟩,
 oo 62 (.pick (.t 58) (.t 61) (.c (.bool false))),
 oo 63 (.val (.t 62)),
 ⟨some 64,.val (.t 10),some (63,true)⟩,
 ⟨some 65,.bin .eql (.t 64) (.c (.int .i64 90)),some (63,true)⟩,
 oo 66 (.pick (.t 63) (.t 65) (.c (.bool false))),
 oo 0 (.val (.t 66))] [])
 (.ret))))))))))
def rs7 : List RR := [.tmp 0]
theorem fun7 : FunR Tryz.prog 7 rc7 rs7 67 := ⟨Tryz.f7, Tryz.func7, by kernel_rfl, by kernel_rfl, by kernel_rfl⟩
/-- causeway/causewayref07.Part -/
def rc8 : RC :=
 .seq (.ops 0 false [
 oo 2 (.val (.c (.pointer none)))] [])
 (.seq (.ops 1 false [
 oo 3 (.val (.t 0)),
 oo 4 (.build [(.slice none 0 0),(.bool false),(.slice none 0 0),(.slice none 0 0),(.slice none 0 0),(.slice none 0 0),(.int .i64 0)] [(0,1,(.t 3)),(1,1,(.c (.bool true)))]),
 oo 5 (.box 83 (.t 4)),
 oo 2 (.val (.t 5))] [])
 (.ret))
def rs8 : List RR := [.tmp 2]
theorem fun8 : FunR Tryz.prog 8 rc8 rs8 6 := ⟨Tryz.f8, Tryz.func8, by kernel_rfl, by kernel_rfl, by kernel_rfl⟩
/-- causeway/causewaylaw09.stepped -/
def rc9 : RC :=
 .seq (.ops 0 false [
 oo 3 (.box 45 (.t 1)),
 oo 4 (.alloc 42 [(.int .i64 0),(.int .i64 0),(.int .i64 0),(.int .i64 0),(.int .u8 0),(.int .u8 0),(.int .u8 0),(.int .u8 0),(.int .u8 0),(.int .u8 0),(.int .u8 0),(.int .u8 0),(.int .u8 0),(.int .u8 0),(.int .u8 0),(.int .u8 0),(.int .u8 0),(.int .u8 0),(.int .u8 0),(.int .u8 0),(.int .u8 0),(.int .u8 0),(.int .u8 0),(.int .u8 0),(.int .i64 0),(.int .u8 0),(.int .u8 0),(.int .u8 0),(.int .u8 0),(.int .u8 0),(.int .u8 0),(.int .u8 0),(.int .u8 0),(.int .u8 0),(.int .u8 0),(.int .u8 0),(.int .u8 0),(.int .u8 0),(.int .u8 0),(.int .u8 0),(.int .u8 0),(.int .u8 0),(.int .u8 0),(.int .u8 0),(.int .u8 0),(.int .u64 0),(.int .u64 0),(.int .u64 0),(.int .u64 0)])] [])
 (.seq (.seq (.ops 1 false [
 oo 13 (.fieldA 0 (.t 3)),
 oo 14 (.load (.t 13)),
 oo 15 (.call 19 [(.t 14),(.c (.int .i64 14))])] [])
 (.block 0 (.seq (.seq (.ops 2 false [
 oo 17 (.bin .eql (.t 15) (.c (.int .i64 0))),
 oo 16 (.val (.t 17))] [])
 (.cond (.t 16) (.skip)
 (.seq (.ops 3 false [
 oo 18 (.bin .eql (.t 15) (.c (.int .i64 1))),
 oo 16 (.val (.t 18))] [])
 (.cond (.t 16) (.skip)
 (.ops 4 false [
 oo 19 (.bin .eql (.t 15) (.c (.int .i64 2))),
 oo 16 (.val (.t 19))] [])))))
 (.cond (.t 16) (.seq (.ops 5 false [
 oo 21 (.val (.t 0)),
 oo 22 (.fieldA 2 (.t 3)),
 oo 23 (.loadN 47 (.t 22)),
 oo 24 (.call 28 [.t 21,.t 23]),
 oo 20 (.val (.t 24)),
 oo 25 (.extract 0 (.t 20)),
 oo 26 (.extract 1 (.t 20)),
 oo 5 (.val (.t 25)),
 oo 6 (.val (.t 26))] [])
 (.seq (.ops 6 false [
 oo 27 (.val (.t 6)),
 oo 28 (.val (.t 5)),
 oo 29 (.build [(.int .i64 0),(.int .i64 0),(.int .u8 0),(.int .u8 0),(.int .u8 0),(.int .u8 0),(.int .u8 0),(.int .u8 0),(.int .u8 0),(.int .u8 0),(.int .u8 0),(.int .u8 0),(.int .u8 0),(.int .u8 0),(.int .u8 0),(.int .u8 0),(.int .u8 0),(.int .u8 0),(.int .u8 0),(.int .u8 0),(.int .u8 0),(.int .u8 0),(.int .i64 0),(.int .u8 0),(.int .u8 0),(.int .u8 0),(.int .u8 0),(.int .u8 0),(.int .u8 0),(.int .u8 0),(.int .u8 0),(.int .u8 0),(.int .u8 0),(.int .u8 0),(.int .u8 0),(.int .u8 0),(.int .u8 0),(.int .u8 0),(.int .u8 0),(.int .u8 0),(.int .u8 0),(.int .u8 0),(.int .u8 0),(.int .u64 0),(.int .u64 0),(.int .u64 0),(.int .u64 0)] []),
 oo 30 (.build [(.int .i64 0),(.int .i64 0),(.int .i64 0),(.int .i64 0),(.int .u8 0),(.int .u8 0),(.int .u8 0),(.int .u8 0),(.int .u8 0),(.int .u8 0),(.int .u8 0),(.int .u8 0),(.int .u8 0),(.int .u8 0),(.int .u8 0),(.int .u8 0),(.int .u8 0),(.int .u8 0),(.int .u8 0),(.int .u8 0),(.int .u8 0),(.int .u8 0),(.int .u8 0),(.int .u8 0),(.int .i64 0),(.int .u8 0),(.int .u8 0),(.int .u8 0),(.int .u8 0),(.int .u8 0),(.int .u8 0),(.int .u8 0),(.int .u8 0),(.int .u8 0),(.int .u8 0),(.int .u8 0),(.int .u8 0),(.int .u8 0),(.int .u8 0),(.int .u8 0),(.int .u8 0),(.int .u8 0),(.int .u8 0),(.int .u8 0),(.int .u8 0),(.int .u64 0),(.int .u64 0),(.int .u64 0),(.int .u64 0)] [(0,1,(.t 27)),(1,1,(.t 28)),(2,47,(.t 29))]),
 ⟨none,.store 49 (.t 4) (.t 30),none⟩] [])
 (.ret)))
 (.seq (.ops 7 false [
 oo 32 (.bin .eql (.t 15) (.c (.int .i64 3))),
 oo 31 (.val (.t 32))] [])
 (.cond (.t 31) (.seq (.ops 8 false [
 oo 34 (.val (.t 0)),
 oo 35 (.fieldA 1 (.t 3)),
 oo 36 (.load (.t 35)),
 oo 37 (.call 29 [.t 34,.t 36]),
 oo 33 (.val (.t 37)),
 oo 38 (.extract 0 (.t 33)),
 oo 39 (.extract 1 (.t 33)),
 oo 7 (.alloc 40 [(.int .i64 0),(.int .i64 0),(.int .u8 0),(.int .u8 0),(.int .u8 0),(.int .u8 0),(.int .u8 0),(.int .u8 0),(.int .u8 0),(.int .u8 0),(.int .u8 0),(.int .u8 0),(.int .u8 0),(.int .u8 0),(.int .u8 0),(.int .u8 0),(.int .u8 0),(.int .u8 0),(.int .u8 0),(.int .u8 0),(.int .u8 0),(.int .u8 0),(.int .i64 0),(.int .u8 0),(.int .u8 0),(.int .u8 0),(.int .u8 0),(.int .u8 0),(.int .u8 0),(.int .u8 0),(.int .u8 0),(.int .u8 0),(.int .u8 0),(.int .u8 0),(.int .u8 0),(.int .u8 0),(.int .u8 0),(.int .u8 0),(.int .u8 0),(.int .u8 0),(.int .u8 0),(.int .u8 0),(.int .u8 0),(.int .u64 0),(.int .u64 0),(.int .u64 0),(.int .u64 0)]),
 ⟨none,.store 47 (.t 7) (.t 38),none⟩,
 oo 8 (.val (.t 39))] [])
 (.seq (.ops 9 false [
 oo 40 (.val (.t 8)),
 oo 41 (.loadN 47 (.t 7)),
 oo 42 (.build [(.int .i64 0),(.int .i64 0),(.int .i64 0),(.int .i64 0),(.int .u8 0),(.int .u8 0),(.int .u8 0),(.int .u8 0),(.int .u8 0),(.int .u8 0),(.int .u8 0),(.int .u8 0),(.int .u8 0),(.int .u8 0),(.int .u8 0),(.int .u8 0),(.int .u8 0),(.int .u8 0),(.int .u8 0),(.int .u8 0),(.int .u8 0),(.int .u8 0),(.int .u8 0),(.int .u8 0),(.int .i64 0),(.int .u8 0),(.int .u8 0),(.int .u8 0),(.int .u8 0),(.int .u8 0),(.int .u8 0),(.int .u8 0),(.int .u8 0),(.int .u8 0),(.int .u8 0),(.int .u8 0),(.int .u8 0),(.int .u8 0),(.int .u8 0),(.int .u8 0),(.int .u8 0),(.int .u8 0),(.int .u8 0),(.int .u8 0),(.int .u8 0),(.int .u64 0),(.int .u64 0),(.int .u64 0),(.int .u64 0)] [(0,1,(.t 40)),(1,1,(.c (.int .i64 0))),(2,47,(.t 41))]),
 ⟨none,.store 49 (.t 4) (.t 42),none⟩] [])
 (.ret)))
 (.seq (.ops 10 false [
 oo 44 (.bin .eql (.t 15) (.c (.int .i64 4))),
 oo 43 (.val (.t 44))] [])
 (.cond (.t 43) (.seq (.ops 11 false [
 oo 46 (.val (.t 0)),
 oo 47 (.call 31 [.t 46]),
 oo 45 (.val (.t 47)),
 oo 48 (.extract 0 (.t 45)),
 oo 49 (.extract 1 (.t 45)),
 oo 9 (.val (.t 48)),
 oo 10 (.val (.t 49))] [])
 (.seq (.ops 12 false [
 oo 50 (.val (.t 10)),
 oo 51 (.val (.t 9)),
 oo 52 (.build [(.int .i64 0),(.int .i64 0),(.int .u8 0),(.int .u8 0),(.int .u8 0),(.int .u8 0),(.int .u8 0),(.int .u8 0),(.int .u8 0),(.int .u8 0),(.int .u8 0),(.int .u8 0),(.int .u8 0),(.int .u8 0),(.int .u8 0),(.int .u8 0),(.int .u8 0),(.int .u8 0),(.int .u8 0),(.int .u8 0),(.int .u8 0),(.int .u8 0),(.int .i64 0),(.int .u8 0),(.int .u8 0),(.int .u8 0),(.int .u8 0),(.int .u8 0),(.int .u8 0),(.int .u8 0),(.int .u8 0),(.int .u8 0),(.int .u8 0),(.int .u8 0),(.int .u8 0),(.int .u8 0),(.int .u8 0),(.int .u8 0),(.int .u8 0),(.int .u8 0),(.int .u8 0),(.int .u8 0),(.int .u8 0),(.int .u64 0),(.int .u64 0),(.int .u64 0),(.int .u64 0)] []),
 oo 53 (.build [(.int .i64 0),(.int .i64 0),(.int .i64 0),(.int .i64 0),(.int .u8 0),(.int .u8 0),(.int .u8 0),(.int .u8 0),(.int .u8 0),(.int .u8 0),(.int .u8 0),(.int .u8 0),(.int .u8 0),(.int .u8 0),(.int .u8 0),(.int .u8 0),(.int .u8 0),(.int .u8 0),(.int .u8 0),(.int .u8 0),(.int .u8 0),(.int .u8 0),(.int .u8 0),(.int .u8 0),(.int .i64 0),(.int .u8 0),(.int .u8 0),(.int .u8 0),(.int .u8 0),(.int .u8 0),(.int .u8 0),(.int .u8 0),(.int .u8 0),(.int .u8 0),(.int .u8 0),(.int .u8 0),(.int .u8 0),(.int .u8 0),(.int .u8 0),(.int .u8 0),(.int .u8 0),(.int .u8 0),(.int .u8 0),(.int .u8 0),(.int .u8 0),(.int .u64 0),(.int .u64 0),(.int .u64 0),(.int .u64 0)] [(0,1,(.t 50)),(1,1,(.t 51)),(2,47,(.t 52))]),
 ⟨none,.store 49 (.t 4) (.t 53),none⟩] [])
 (.ret)))
 (.seq (.seq (.ops 13 false [
 oo 55 (.bin .eql (.t 15) (.c (.int .i64 5))),
 oo 54 (.val (.t 55))] [])
 (.cond (.t 54) (.skip)
 (.ops 14 false [
 oo 56 (.bin .eql (.t 15) (.c (.int .i64 6))),
 oo 54 (.val (.t 56))] [])))
 (.cond (.t 54) (.seq (.ops 15 false [
 oo 57 (.val (.t 0)),
 oo 58 (.fieldA 1 (.t 3)),
 oo 59 (.load (.t 58)),
 oo 60 (.call 32 [.t 57,.t 59]),
 oo 61 (.build [(.int .i64 0),(.int .i64 0),(.int .i64 0),(.int .i64 0),(.int .u8 0),(.int .u8 0),(.int .u8 0),(.int .u8 0),(.int .u8 0),(.int .u8 0),(.int .u8 0),(.int .u8 0),(.int .u8 0),(.int .u8 0),(.int .u8 0),(.int .u8 0),(.int .u8 0),(.int .u8 0),(.int .u8 0),(.int .u8 0),(.int .u8 0),(.int .u8 0),(.int .u8 0),(.int .u8 0),(.int .i64 0),(.int .u8 0),(.int .u8 0),(.int .u8 0),(.int .u8 0),(.int .u8 0),(.int .u8 0),(.int .u8 0),(.int .u8 0),(.int .u8 0),(.int .u8 0),(.int .u8 0),(.int .u8 0),(.int .u8 0),(.int .u8 0),(.int .u8 0),(.int .u8 0),(.int .u8 0),(.int .u8 0),(.int .u8 0),(.int .u8 0),(.int .u64 0),(.int .u64 0),(.int .u64 0),(.int .u64 0)] [(0,1,(.t 60))]),
 ⟨none,.store 49 (.t 4) (.t 61),none⟩] [])
 (.ret))
 (.seq (.seq (.ops 16 false [
 oo 63 (.bin .eql (.t 15) (.c (.int .i64 7))),
 oo 62 (.val (.t 63))] [])
 (.cond (.t 62) (.skip)
 (.ops 17 false [
 oo 64 (.bin .eql (.t 15) (.c (.int .i64 8))),
 oo 62 (.val (.t 64))] [])))
 (.cond (.t 62) (.seq (.ops 18 false [
 oo 66 (.val (.t 0)),
 oo 67 (.fieldA 1 (.t 3)),
 oo 68 (.load (.t 67)),
 oo 69 (.fieldA 2 (.t 3)),
 oo 70 (.fieldA 2 (.t 69)),
 oo 71 (.loadN 20 (.t 70)),
 oo 72 (.call 30 [.t 66,.t 68,.t 71]),
 oo 65 (.val (.t 72)),
 oo 73 (.extract 0 (.t 65)),
 oo 74 (.extract 1 (.t 65)),
 oo 11 (.alloc 40 [(.int .i64 0),(.int .i64 0),(.int .u8 0),(.int .u8 0),(.int .u8 0),(.int .u8 0),(.int .u8 0),(.int .u8 0),(.int .u8 0),(.int .u8 0),(.int .u8 0),(.int .u8 0),(.int .u8 0),(.int .u8 0),(.int .u8 0),(.int .u8 0),(.int .u8 0),(.int .u8 0),(.int .u8 0),(.int .u8 0),(.int .u8 0),(.int .u8 0),(.int .i64 0),(.int .u8 0),(.int .u8 0),(.int .u8 0),(.int .u8 0),(.int .u8 0),(.int .u8 0),(.int .u8 0),(.int .u8 0),(.int .u8 0),(.int .u8 0),(.int .u8 0),(.int .u8 0),(.int .u8 0),(.int .u8 0),(.int .u8 0),(.int .u8 0),(.int .u8 0),(.int .u8 0),(.int .u8 0),(.int .u8 0),(.int .u64 0),(.int .u64 0),(.int .u64 0),(.int .u64 0)]),
 ⟨none,.store 47 (.t 11) (.t 73),none⟩,
 oo 12 (.val (.t 74))] [])
 (.seq (.ops 19 false [
 oo 75 (.val (.t 12)),
 oo 76 (.loadN 47 (.t 11)),
 oo 77 (.build [(.int .i64 0),(.int .i64 0),(.int .i64 0),(.int .i64 0),(.int .u8 0),(.int .u8 0),(.int .u8 0),(.int .u8 0),(.int .u8 0),(.int .u8 0),(.int .u8 0),(.int .u8 0),(.int .u8 0),(.int .u8 0),(.int .u8 0),(.int .u8 0),(.int .u8 0),(.int .u8 0),(.int .u8 0),(.int .u8 0),(.int .u8 0),(.int .u8 0),(.int .u8 0),(.int .u8 0),(.int .i64 0),(.int .u8 0),(.int .u8 0),(.int .u8 0),(.int .u8 0),(.int .u8 0),(.int .u8 0),(.int .u8 0),(.int .u8 0),(.int .u8 0),(.int .u8 0),(.int .u8 0),(.int .u8 0),(.int .u8 0),(.int .u8 0),(.int .u8 0),(.int .u8 0),(.int .u8 0),(.int .u8 0),(.int .u8 0),(.int .u8 0),(.int .u64 0),(.int .u64 0),(.int .u64 0),(.int .u64 0)] [(0,1,(.t 75)),(1,1,(.c (.int .i64 0))),(2,47,(.t 76))]),
 ⟨none,.store 49 (.t 4) (.t 77),none⟩] [])
 (.ret)))
 (.seq (.ops 20 false [
 oo 79 (.bin .eql (.t 15) (.c (.int .i64 9))),
 oo 78 (.val (.t 79))] [])
 (.cond (.t 78) (.seq (.ops 21 false [
 oo 80 (.val (.t 0)),
 oo 81 (.fieldA 2 (.t 3)),
 oo 82 (.fieldA 22 (.t 81)),
 oo 83 (.load (.t 82)),
 oo 84 (.call 33 [.t 80,.t 83]),
 oo 85 (.build [(.int .i64 0),(.int .i64 0),(.int .i64 0),(.int .i64 0),(.int .u8 0),(.int .u8 0),(.int .u8 0),(.int .u8 0),(.int .u8 0),(.int .u8 0),(.int .u8 0),(.int .u8 0),(.int .u8 0),(.int .u8 0),(.int .u8 0),(.int .u8 0),(.int .u8 0),(.int .u8 0),(.int .u8 0),(.int .u8 0),(.int .u8 0),(.int .u8 0),(.int .u8 0),(.int .u8 0),(.int .i64 0),(.int .u8 0),(.int .u8 0),(.int .u8 0),(.int .u8 0),(.int .u8 0),(.int .u8 0),(.int .u8 0),(.int .u8 0),(.int .u8 0),(.int .u8 0),(.int .u8 0),(.int .u8 0),(.int .u8 0),(.int .u8 0),(.int .u8 0),(.int .u8 0),(.int .u8 0),(.int .u8 0),(.int .u8 0),(.int .u8 0),(.int .u64 0),(.int .u64 0),(.int .u64 0),(.int .u64 0)] [(0,1,(.t 84))]),
 ⟨none,.store 49 (.t 4) (.t 85),none⟩] [])
 (.ret))
 (.seq (.ops 22 false [
 oo 87 (.bin .eql (.t 15) (.c (.int .i64 10))),
 oo 86 (.val (.t 87))] [])
 (.cond (.t 86) (.seq (.ops 23 false [
 oo 88 (.val (.t 0)),
 oo 89 (.fieldA 2 (.t 3)),
 oo 90 (.fieldA 22 (.t 89)),
 oo 91 (.load (.t 90)),
 oo 92 (.call 34 [.t 88,.t 91]),
 oo 93 (.build [(.int .i64 0),(.int .i64 0),(.int .i64 0),(.int .i64 0),(.int .u8 0),(.int .u8 0),(.int .u8 0),(.int .u8 0),(.int .u8 0),(.int .u8 0),(.int .u8 0),(.int .u8 0),(.int .u8 0),(.int .u8 0),(.int .u8 0),(.int .u8 0),(.int .u8 0),(.int .u8 0),(.int .u8 0),(.int .u8 0),(.int .u8 0),(.int .u8 0),(.int .u8 0),(.int .u8 0),(.int .i64 0),(.int .u8 0),(.int .u8 0),(.int .u8 0),(.int .u8 0),(.int .u8 0),(.int .u8 0),(.int .u8 0),(.int .u8 0),(.int .u8 0),(.int .u8 0),(.int .u8 0),(.int .u8 0),(.int .u8 0),(.int .u8 0),(.int .u8 0),(.int .u8 0),(.int .u8 0),(.int .u8 0),(.int .u8 0),(.int .u8 0),(.int .u64 0),(.int .u64 0),(.int .u64 0),(.int .u64 0)] [(0,1,(.t 92))]),
 ⟨none,.store 49 (.t 4) (.t 93),none⟩] [])
 (.ret))
 (.seq (.ops 24 false [
 oo 95 (.bin .eql (.t 15) (.c (.int .i64 11))),
 oo 94 (.val (.t 95))] [])
 (.cond (.t 94) (.seq (.ops 25 false [
 oo 96 (.val (.t 0)),
 oo 97 (.fieldA 2 (.t 3)),
 oo 98 (.fieldA 22 (.t 97)),
 oo 99 (.load (.t 98)),
 oo 100 (.call 35 [.t 96,.t 99]),
 oo 101 (.build [(.int .i64 0),(.int .i64 0),(.int .i64 0),(.int .i64 0),(.int .u8 0),(.int .u8 0),(.int .u8 0),(.int .u8 0),(.int .u8 0),(.int .u8 0),(.int .u8 0),(.int .u8 0),(.int .u8 0),(.int .u8 0),(.int .u8 0),(.int .u8 0),(.int .u8 0),(.int .u8 0),(.int .u8 0),(.int .u8 0),(.int .u8 0),(.int .u8 0),(.int .u8 0),(.int .u8 0),(.int .i64 0),(.int .u8 0),(.int .u8 0),(.int .u8 0),(.int .u8 0),(.int .u8 0),(.int .u8 0),(.int .u8 0),(.int .u8 0),(.int .u8 0),(.int .u8 0),(.int .u8 0),(.int .u8 0),(.int .u8 0),(.int .u8 0),(.int .u8 0),(.int .u8 0),(.int .u8 0),(.int .u8 0),(.int .u8 0),(.int .u8 0),(.int .u64 0),(.int .u64 0),(.int .u64 0),(.int .u64 0)] [(0,1,(.t 100))]),
 ⟨none,.store 49 (.t 4) (.t 101),none⟩] [])
 (.ret))
 (.seq (.ops 26 false [
 oo 103 (.bin .eql (.t 15) (.c (.int .i64 12))),
 oo 102 (.val (.t 103))] [])
 (.cond (.t 102) (.seq (.ops 27 false [
 oo 104 (.val (.t 0)),
 oo 105 (.call 36 [.t 104]),
 oo 106 (.build [(.int .i64 0),(.int .i64 0),(.int .i64 0),(.int .i64 0),(.int .u8 0),(.int .u8 0),(.int .u8 0),(.int .u8 0),(.int .u8 0),(.int .u8 0),(.int .u8 0),(.int .u8 0),(.int .u8 0),(.int .u8 0),(.int .u8 0),(.int .u8 0),(.int .u8 0),(.int .u8 0),(.int .u8 0),(.int .u8 0),(.int .u8 0),(.int .u8 0),(.int .u8 0),(.int .u8 0),(.int .i64 0),(.int .u8 0),(.int .u8 0),(.int .u8 0),(.int .u8 0),(.int .u8 0),(.int .u8 0),(.int .u8 0),(.int .u8 0),(.int .u8 0),(.int .u8 0),(.int .u8 0),(.int .u8 0),(.int .u8 0),(.int .u8 0),(.int .u8 0),(.int .u8 0),(.int .u8 0),(.int .u8 0),(.int .u8 0),(.int .u8 0),(.int .u64 0),(.int .u64 0),(.int .u64 0),(.int .u64 0)] [(1,1,(.t 105))]),
 ⟨none,.store 49 (.t 4) (.t 106),none⟩] [])
 (.ret))
 (.skip)))))))))))))))))))))
 (.seq (.ops 28 false [
 oo 107 (.val (.t 0)),
 oo 108 (.fieldA 1 (.t 3)),
 oo 109 (.load (.t 108)),
 oo 110 (.call 37 [.t 107,.t 109]),
 oo 111 (.build [(.int .i64 0),(.int .i64 0),(.int .i64 0),(.int .i64 0),(.int .u8 0),(.int .u8 0),(.int .u8 0),(.int .u8 0),(.int .u8 0),(.int .u8 0),(.int .u8 0),(.int .u8 0),(.int .u8 0),(.int .u8 0),(.int .u8 0),(.int .u8 0),(.int .u8 0),(.int .u8 0),(.int .u8 0),(.int .u8 0),(.int .u8 0),(.int .u8 0),(.int .u8 0),(.int .u8 0),(.int .i64 0),(.int .u8 0),(.int .u8 0),(.int .u8 0),(.int .u8 0),(.int .u8 0),(.int .u8 0),(.int .u8 0),(.int .u8 0),(.int .u8 0),(.int .u8 0),(.int .u8 0),(.int .u8 0),(.int .u8 0),(.int .u8 0),(.int .u8 0),(.int .u8 0),(.int .u8 0),(.int .u8 0),(.int .u8 0),(.int .u8 0),(.int .u64 0),(.int .u64 0),(.int .u64 0),(.int .u64 0)] [(0,1,(.t 110))]),
 ⟨none,.store 49 (.t 4) (.t 111),none⟩] [])
 (.ret)))
def rs9 : List RR := [.cell 4 (some 49)]
theorem fun9 : FunR Tryz.prog 9 rc9 rs9 112 := ⟨Tryz.f9, Tryz.func9, by kernel_rfl, by kernel_rfl, by kernel_rfl⟩
/-- causeway/causewaylaw09.wanted -/
def rc10 : RC :=
 .seq (.ops 0 false [
 oo 3 (.box 45 (.t 1)),
 oo 4 (.alloc 42 [(.int .i64 0),(.int .i64 0),(.int .i64 0),(.int .i64 0),(.int .u8 0),(.int .u8 0),(.int .u8 0),(.int .u8 0),(.int .u8 0),(.int .u8 0),(.int .u8 0),(.int .u8 0),(.int .u8 0),(.int .u8 0),(.int .u8 0),(.int .u8 0),(.int .u8 0),(.int .u8 0),(.int .u8 0),(.int .u8 0),(.int .u8 0),(.int .u8 0),(.int .u8 0),(.int .u8 0),(.int .i64 0),(.int .u8 0),(.int .u8 0),(.int .u8 0),(.int .u8 0),(.int .u8 0),(.int .u8 0),(.int .u8 0),(.int .u8 0),(.int .u8 0),(.int .u8 0),(.int .u8 0),(.int .u8 0),(.int .u8 0),(.int .u8 0),(.int .u8 0),(.int .u8 0),(.int .u8 0),(.int .u8 0),(.int .u8 0),(.int .u8 0),(.int .u64 0),(.int .u64 0),(.int .u64 0),(.int .u64 0)])] [])
 (.seq (.seq (.ops 1 false [
 oo 13 (.fieldA 0 (.t 3)),
 oo 14 (.load (.t 13)),
 oo 15 (.call 19 [(.t 14),(.c (.int .i64 14))])] [])
 (.block 0 (.seq (.seq (.ops 2 false [
 oo 17 (.bin .eql (.t 15) (.c (.int .i64 0))),
 oo 16 (.val (.t 17))] [])
 (.cond (.t 16) (.skip)
 (.seq (.ops 3 false [
 oo 18 (.bin .eql (.t 15) (.c (.int .i64 1))),
 oo 16 (.val (.t 18))] [])
 (.cond (.t 16) (.skip)
 (.ops 4 false [
 oo 19 (.bin .eql (.t 15) (.c (.int .i64 2))),
 oo 16 (.val (.t 19))] [])))))
 (.cond (.t 16) (.seq (.ops 5 false [
 oo 21 (.val (.t 0)),
 oo 22 (.fieldA 2 (.t 3)),
 oo 23 (.loadN 47 (.t 22)),
 oo 24 (.call 38 [.t 21,.t 23]),
 oo 20 (.val (.t 24)),
 oo 25 (.extract 0 (.t 20)),
 oo 26 (.extract 1 (.t 20)),
 oo 5 (.val (.t 25)),
 oo 6 (.val (.t 26))] [])
 (.seq (.ops 6 false [
 oo 27 (.val (.t 6)),
 oo 28 (.val (.t 5)),
 oo 29 (.build [(.int .i64 0),(.int .i64 0),(.int .u8 0),(.int .u8 0),(.int .u8 0),(.int .u8 0),(.int .u8 0),(.int .u8 0),(.int .u8 0),(.int .u8 0),(.int .u8 0),(.int .u8 0),(.int .u8 0),(.int .u8 0),(.int .u8 0),(.int .u8 0),(.int .u8 0),(.int .u8 0),(.int .u8 0),(.int .u8 0),(.int .u8 0),(.int .u8 0),(.int .i64 0),(.int .u8 0),(.int .u8 0),(.int .u8 0),(.int .u8 0),(.int .u8 0),(.int .u8 0),(.int .u8 0),(.int .u8 0),(.int .u8 0),(.int .u8 0),(.int .u8 0),(.int .u8 0),(.int .u8 0),(.int .u8 0),(.int .u8 0),(.int .u8 0),(.int .u8 0),(.int .u8 0),(.int .u8 0),(.int .u8 0),(.int .u64 0),(.int .u64 0),(.int .u64 0),(.int .u64 0)] []),
 oo 30 (.build [(.int .i64 0),(.int .i64 0),(.int .i64 0),(.int .i64 0),(.int .u8 0),(.int .u8 0),(.int .u8 0),(.int .u8 0),(.int .u8 0),(.int .u8 0),(.int .u8 0),(.int .u8 0),(.int .u8 0),(.int .u8 0),(.int .u8 0),(.int .u8 0),(.int .u8 0),(.int .u8 0),(.int .u8 0),(.int .u8 0),(.int .u8 0),(.int .u8 0),(.int .u8 0),(.int .u8 0),(.int .i64 0),(.int .u8 0),(.int .u8 0),(.int .u8 0),(.int .u8 0),(.int .u8 0),(.int .u8 0),(.int .u8 0),(.int .u8 0),(.int .u8 0),(.int .u8 0),(.int .u8 0),(.int .u8 0),(.int .u8 0),(.int .u8 0),(.int .u8 0),(.int .u8 0),(.int .u8 0),(.int .u8 0),(.int .u8 0),(.int .u8 0),(.int .u64 0),(.int .u64 0),(.int .u64 0),(.int .u64 0)] [(0,1,(.t 27)),(1,1,(.t 28)),(2,47,(.t 29))]),
 ⟨none,.store 49 (.t 4) (.t 30),none⟩] [])
 (.ret)))
 (.seq (.ops 7 false [
 oo 32 (.bin .eql (.t 15) (.c (.int .i64 3))),
 oo 31 (.val (.t 32))] [])
 (.cond (.t 31) (.seq (.ops 8 false [
 oo 34 (.val (.t 0)),
 oo 35 (.fieldA 1 (.t 3)),
 oo 36 (.load (.t 35)),
 oo 37 (.call 39 [.t 34,.t 36]),
 oo 33 (.val (.t 37)),
 oo 38 (.extract 0 (.t 33)),
 oo 39 (.extract 1 (.t 33)),
 oo 7 (.alloc 40 [(.int .i64 0),(.int .i64 0),(.int .u8 0),(.int .u8 0),(.int .u8 0),(.int .u8 0),(.int .u8 0),(.int .u8 0),(.int .u8 0),(.int .u8 0),(.int .u8 0),(.int .u8 0),(.int .u8 0),(.int .u8 0),(.int .u8 0),(.int .u8 0),(.int .u8 0),(.int .u8 0),(.int .u8 0),(.int .u8 0),(.int .u8 0),(.int .u8 0),(.int .i64 0),(.int .u8 0),(.int .u8 0),(.int .u8 0),(.int .u8 0),(.int .u8 0),(.int .u8 0),(.int .u8 0),(.int .u8 0),(.int .u8 0),(.int .u8 0),(.int .u8 0),(.int .u8 0),(.int .u8 0),(.int .u8 0),(.int .u8 0),(.int .u8 0),(.int .u8 0),(.int .u8 0),(.int .u8 0),(.int .u8 0),(.int .u64 0),(.int .u64 0),(.int .u64 0),(.int .u64 0)]),
 ⟨none,.store 47 (.t 7) (.t 38),none⟩,
 oo 8 (.val (.t 39))] [])
 (.seq (.ops 9 false [
 oo 40 (.val (.t 8)),
 oo 41 (.loadN 47 (.t 7)),
 oo 42 (.build [(.int .i64 0),(.int .i64 0),(.int .i64 0),(.int .i64 0),(.int .u8 0),(.int .u8 0),(.int .u8 0),(.int .u8 0),(.int .u8 0),(.int .u8 0),(.int .u8 0),(.int .u8 0),(.int .u8 0),(.int .u8 0),(.int .u8 0),(.int .u8 0),(.int .u8 0),(.int .u8 0),(.int .u8 0),(.int .u8 0),(.int .u8 0),(.int .u8 0),(.int .u8 0),(.int .u8 0),(.int .i64 0),(.int .u8 0),(.int .u8 0),(.int .u8 0),(.int .u8 0),(.int .u8 0),(.int .u8 0),(.int .u8 0),(.int .u8 0),(.int .u8 0),(.int .u8 0),(.int .u8 0),(.int .u8 0),(.int .u8 0),(.int .u8 0),(.int .u8 0),(.int .u8 0),(.int .u8 0),(.int .u8 0),(.int .u8 0),(.int .u8 0),(.int .u64 0),(.int .u64 0),(.int .u64 0),(.int .u64 0)] [(0,1,(.t 40)),(1,1,(.c (.int .i64 0))),(2,47,(.t 41))]),
 ⟨none,.store 49 (.t 4) (.t 42),none⟩] [])
 (.ret)))
 (.seq (.ops 10 false [
 oo 44 (.bin .eql (.t 15) (.c (.int .i64 4))),
 oo 43 (.val (.t 44))] [])
 (.cond (.t 43) (.seq (.ops 11 false [
 oo 46 (.val (.t 0)),
 oo 47 (.call 40 [.t 46]),
 oo 45 (.val (.t 47)),
 oo 48 (.extract 0 (.t 45)),
 oo 49 (.extract 1 (.t 45)),
 oo 9 (.val (.t 48)),
 oo 10 (.val (.t 49))] [])
 (.seq (.ops 12 false [
 oo 50 (.val (.t 10)),
 oo 51 (.val (.t 9)),
 oo 52 (.build [(.int .i64 0),(.int .i64 0),(.int .u8 0),(.int .u8 0),(.int .u8 0),(.int .u8 0),(.int .u8 0),(.int .u8 0),(.int .u8 0),(.int .u8 0),(.int .u8 0),(.int .u8 0),(.int .u8 0),(.int .u8 0),(.int .u8 0),(.int .u8 0),(.int .u8 0),(.int .u8 0),(.int .u8 0),(.int .u8 0),(.int .u8 0),(.int .u8 0),(.int .i64 0),(.int .u8 0),(.int .u8 0),(.int .u8 0),(.int .u8 0),(.int .u8 0),(.int .u8 0),(.int .u8 0),(.int .u8 0),(.int .u8 0),(.int .u8 0),(.int .u8 0),(.int .u8 0),(.int .u8 0),(.int .u8 0),(.int .u8 0),(.int .u8 0),(.int .u8 0),(.int .u8 0),(.int .u8 0),(.int .u8 0),(.int .u64 0),(.int .u64 0),(.int .u64 0),(.int .u64 0)] []),
 oo 53 (.build [(.int .i64 0),(.int .i64 0),(.int .i64 0),(.int .i64 0),(.int .u8 0),(.int .u8 0),(.int .u8 0),(.int .u8 0),(.int .u8 0),(.int .u8 0),(.int .u8 0),(.int .u8 0),(.int .u8 0),(.int .u8 0),(.int .u8 0),(.int .u8 0),(.int .u8 0),(.int .u8 0),(.int .u8 0),(.int .u8 0),(.int .u8 0),(.int .u8 0),(.int .u8 0),(.int .u8 0),(.int .i64 0),(.int .u8 0),(.int .u8 0),(.int .u8 0),(.int .u8 0),(.int .u8 0),(.int .u8 0),(.int .u8 0),(.int .u8 0),(.int .u8 0),(.int .u8 0),(.int .u8 0),(.int .u8 0),(.int .u8 0),(.int .u8 0),(.int .u8 0),(.int .u8 0),(.int .u8 0),(.int .u8 0),(.int .u8 0),(.int .u8 0),(.int .u64 0),(.int .u64 0),(.int .u64 0),(.int .u64 0)] [(0,1,(.t 50)),(1,1,(.t 51)),(2,47,(.t 52))]),
 ⟨none,.store 49 (.t 4) (.t 53),none⟩] [])
 (.ret)))
 (.seq (.seq (.ops 13 false [
 oo 55 (.bin .eql (.t 15) (.c (.int .i64 5))),
 oo 54 (.val (.t 55))] [])
 (.cond (.t 54) (.skip)
 (.ops 14 false [
 oo 56 (.bin .eql (.t 15) (.c (.int .i64 6))),
 oo 54 (.val (.t 56))] [])))
 (.cond (.t 54) (.seq (.ops 15 false [
 oo 57 (.val (.t 0)),
 oo 58 (.fieldA 1 (.t 3)),
 oo 59 (.load (.t 58)),
 oo 60 (.call 41 [.t 57,.t 59]),
 oo 61 (.build [(.int .i64 0),(.int .i64 0),(.int .i64 0),(.int .i64 0),(.int .u8 0),(.int .u8 0),(.int .u8 0),(.int .u8 0),(.int .u8 0),(.int .u8 0),(.int .u8 0),(.int .u8 0),(.int .u8 0),(.int .u8 0),(.int .u8 0),(.int .u8 0),(.int .u8 0),(.int .u8 0),(.int .u8 0),(.int .u8 0),(.int .u8 0),(.int .u8 0),(.int .u8 0),(.int .u8 0),(.int .i64 0),(.int .u8 0),(.int .u8 0),(.int .u8 0),(.int .u8 0),(.int .u8 0),(.int .u8 0),(.int .u8 0),(.int .u8 0),(.int .u8 0),(.int .u8 0),(.int .u8 0),(.int .u8 0),(.int .u8 0),(.int .u8 0),(.int .u8 0),(.int .u8 0),(.int .u8 0),(.int .u8 0),(.int .u8 0),(.int .u8 0),(.int .u64 0),(.int .u64 0),(.int .u64 0),(.int .u64 0)] [(0,1,(.t 60))]),
 ⟨none,.store 49 (.t 4) (.t 61),none⟩] [])
 (.ret))
 (.seq (.seq (.ops 16 false [
 oo 63 (.bin .eql (.t 15) (.c (.int .i64 7))),
 oo 62 (.val (.t 63))] [])
 (.cond (.t 62) (.skip)
 (.ops 17 false [
 oo 64 (.bin .eql (.t 15) (.c (.int .i64 8))),
 oo 62 (.val (.t 64))] [])))
 (.cond (.t 62) (.seq (.ops 18 false [
 oo 66 (.val (.t 0)),
 oo 67 (.fieldA 1 (.t 3)),
 oo 68 (.load (.t 67)),
 oo 69 (.fieldA 2 (.t 3)),
 oo 70 (.fieldA 2 (.t 69)),
 oo 71 (.loadN 20 (.t 70)),
 oo 72 (.call 42 [.t 66,.t 68,.t 71]),
 oo 65 (.val (.t 72)),
 oo 73 (.extract 0 (.t 65)),
 oo 74 (.extract 1 (.t 65)),
 oo 11 (.alloc 40 [(.int .i64 0),(.int .i64 0),(.int .u8 0),(.int .u8 0),(.int .u8 0),(.int .u8 0),(.int .u8 0),(.int .u8 0),(.int .u8 0),(.int .u8 0),(.int .u8 0),(.int .u8 0),(.int .u8 0),(.int .u8 0),(.int .u8 0),(.int .u8 0),(.int .u8 0),(.int .u8 0),(.int .u8 0),(.int .u8 0),(.int .u8 0),(.int .u8 0),(.int .i64 0),(.int .u8 0),(.int .u8 0),(.int .u8 0),(.int .u8 0),(.int .u8 0),(.int .u8 0),(.int .u8 0),(.int .u8 0),(.int .u8 0),(.int .u8 0),(.int .u8 0),(.int .u8 0),(.int .u8 0),(.int .u8 0),(.int .u8 0),(.int .u8 0),(.int .u8 0),(.int .u8 0),(.int .u8 0),(.int .u8 0),(.int .u64 0),(.int .u64 0),(.int .u64 0),(.int .u64 0)]),
 ⟨none,.store 47 (.t 11) (.t 73),none⟩,
 oo 12 (.val (.t 74))] [])
 (.seq (.ops 19 false [
 oo 75 (.val (.t 12)),
 oo 76 (.loadN 47 (.t 11)),
 oo 77 (.build [(.int .i64 0),(.int .i64 0),(.int .i64 0),(.int .i64 0),(.int .u8 0),(.int .u8 0),(.int .u8 0),(.int .u8 0),(.int .u8 0),(.int .u8 0),(.int .u8 0),(.int .u8 0),(.int .u8 0),(.int .u8 0),(.int .u8 0),(.int .u8 0),(.int .u8 0),(.int .u8 0),(.int .u8 0),(.int .u8 0),(.int .u8 0),(.int .u8 0),(.int .u8 0),(.int .u8 0),(.int .i64 0),(.int .u8 0),(.int .u8 0),(.int .u8 0),(.int .u8 0),(.int .u8 0),(.int .u8 0),(.int .u8 0),(.int .u8 0),(.int .u8 0),(.int .u8 0),(.int .u8 0),(.int .u8 0),(.int .u8 0),(.int .u8 0),(.int .u8 0),(.int .u8 0),(.int .u8 0),(.int .u8 0),(.int .u8 0),(.int .u8 0),(.int .u64 0),(.int .u64 0),(.int .u64 0),(.int .u64 0)] [(0,1,(.t 75)),(1,1,(.c (.int .i64 0))),(2,47,(.t 76))]),
 ⟨none,.store 49 (.t 4) (.t 77),none⟩] [])
 (.ret)))
 (.seq (.ops 20 false [
 oo 79 (.bin .eql (.t 15) (.c (.int .i64 9))),
 oo 78 (.val (.t 79))] [])
 (.cond (.t 78) (.seq (.ops 21 false [
 oo 80 (.val (.t 0)),
 oo 81 (.fieldA 2 (.t 3)),
 oo 82 (.fieldA 22 (.t 81)),
 oo 83 (.load (.t 82)),
 oo 84 (.call 43 [.t 80,.t 83]),
 oo 85 (.build [(.int .i64 0),(.int .i64 0),(.int .i64 0),(.int .i64 0),(.int .u8 0),(.int .u8 0),(.int .u8 0),(.int .u8 0),(.int .u8 0),(.int .u8 0),(.int .u8 0),(.int .u8 0),(.int .u8 0),(.int .u8 0),(.int .u8 0),(.int .u8 0),(.int .u8 0),(.int .u8 0),(.int .u8 0),(.int .u8 0),(.int .u8 0),(.int .u8 0),(.int .u8 0),(.int .u8 0),(.int .i64 0),(.int .u8 0),(.int .u8 0),(.int .u8 0),(.int .u8 0),(.int .u8 0),(.int .u8 0),(.int .u8 0),(.int .u8 0),(.int .u8 0),(.int .u8 0),(.int .u8 0),(.int .u8 0),(.int .u8 0),(.int .u8 0),(.int .u8 0),(.int .u8 0),(.int .u8 0),(.int .u8 0),(.int .u8 0),(.int .u8 0),(.int .u64 0),(.int .u64 0),(.int .u64 0),(.int .u64 0)] [(0,1,(.t 84))]),
 ⟨none,.store 49 (.t 4) (.t 85),none⟩] [])
 (.ret))
 (.seq (.ops 22 false [
 oo 87 (.bin .eql (.t 15) (.c (.int .i64 10))),
 oo 86 (.val (.t 87))] [])
 (.cond (.t 86) (.seq (.ops 23 false [
 oo 88 (.val (.t 0)),
 oo 89 (.fieldA 2 (.t 3)),
 oo 90 (.fieldA 22 (.t 89)),
 oo 91 (.load (.t 90)),
 oo 92 (.call 44 [.t 88,.t 91]),
 oo 93 (.build [(.int .i64 0),(.int .i64 0),(.int .i64 0),(.int .i64 0),(.int .u8 0),(.int .u8 0),(.int .u8 0),(.int .u8 0),(.int .u8 0),(.int .u8 0),(.int .u8 0),(.int .u8 0),(.int .u8 0),(.int .u8 0),(.int .u8 0),(.int .u8 0),(.int .u8 0),(.int .u8 0),(.int .u8 0),(.int .u8 0),(.int .u8 0),(.int .u8 0),(.int .u8 0),(.int .u8 0),(.int .i64 0),(.int .u8 0),(.int .u8 0),(.int .u8 0),(.int .u8 0),(.int .u8 0),(.int .u8 0),(.int .u8 0),(.int .u8 0),(.int .u8 0),(.int .u8 0),(.int .u8 0),(.int .u8 0),(.int .u8 0),(.int .u8 0),(.int .u8 0),(.int .u8 0),(.int .u8 0),(.int .u8 0),(.int .u8 0),(.int .u8 0),(.int .u64 0),(.int .u64 0),(.int .u64 0),(.int .u64 0)] [(0,1,(.t 92))]),
 ⟨none,.store 49 (.t 4) (.t 93),none⟩] [])
 (.ret))
 (.seq (.ops 24 false [
 oo 95 (.bin .eql (.t 15) (.c (.int .i64 11))),
 oo 94 (.val (.t 95))] [])
 (.cond (.t 94) (.seq (.ops 25 false [
 oo 96 (.val (.t 0)),
 oo 97 (.fieldA 2 (.t 3)),
 oo 98 (.fieldA 22 (.t 97)),
 oo 99 (.load (.t 98)),
 oo 100 (.call 45 [.t 96,.t 99]),
 oo 101 (.build [(.int .i64 0),(.int .i64 0),(.int .i64 0),(.int .i64 0),(.int .u8 0),(.int .u8 0),(.int .u8 0),(.int .u8 0),(.int .u8 0),(.int .u8 0),(.int .u8 0),(.int .u8 0),(.int .u8 0),(.int .u8 0),(.int .u8 0),(.int .u8 0),(.int .u8 0),(.int .u8 0),(.int .u8 0),(.int .u8 0),(.int .u8 0),(.int .u8 0),(.int .u8 0),(.int .u8 0),(.int .i64 0),(.int .u8 0),(.int .u8 0),(.int .u8 0),(.int .u8 0),(.int .u8 0),(.int .u8 0),(.int .u8 0),(.int .u8 0),(.int .u8 0),(.int .u8 0),(.int .u8 0),(.int .u8 0),(.int .u8 0),(.int .u8 0),(.int .u8 0),(.int .u8 0),(.int .u8 0),(.int .u8 0),(.int .u8 0),(.int .u8 0),(.int .u64 0),(.int .u64 0),(.int .u64 0),(.int .u64 0)] [(0,1,(.t 100))]),
 ⟨none,.store 49 (.t 4) (.t 101),none⟩] [])
 (.ret))
 (.seq (.ops 26 false [
 oo 103 (.bin .eql (.t 15) (.c (.int .i64 12))),
 oo 102 (.val (.t 103))] [])
 (.cond (.t 102) (.seq (.ops 27 false [
 oo 104 (.val (.t 0)),
 oo 105 (.call 46 [.t 104]),
 oo 106 (.build [(.int .i64 0),(.int .i64 0),(.int .i64 0),(.int .i64 0),(.int .u8 0),(.int .u8 0),(.int .u8 0),(.int .u8 0),(.int .u8 0),(.int .u8 0),(.int .u8 0),(.int .u8 0),(.int .u8 0),(.int .u8 0),(.int .u8 0),(.int .u8 0),(.int .u8 0),(.int .u8 0),(.int .u8 0),(.int .u8 0),(.int .u8 0),(.int .u8 0),(.int .u8 0),(.int .u8 0),(.int .i64 0),(.int .u8 0),(.int .u8 0),(.int .u8 0),(.int .u8 0),(.int .u8 0),(.int .u8 0),(.int .u8 0),(.int .u8 0),(.int .u8 0),(.int .u8 0),(.int .u8 0),(.int .u8 0),(.int .u8 0),(.int .u8 0),(.int .u8 0),(.int .u8 0),(.int .u8 0),(.int .u8 0),(.int .u8 0),(.int .u8 0),(.int .u64 0),(.int .u64 0),(.int .u64 0),(.int .u64 0)] [(1,1,(.t 105))]),
 ⟨none,.store 49 (.t 4) (.t 106),none⟩] [])
 (.ret))
 (.skip)))))))))))))))))))))
 (.seq (.ops 28 false [
 oo 107 (.val (.t 0)),
 oo 108 (.fieldA 1 (.t 3)),
 oo 109 (.load (.t 108)),
 oo 110 (.call 47 [.t 107,.t 109]),
 oo 111 (.build [(.int .i64 0),(.int .i64 0),(.int .i64 0),(.int .i64 0),(.int .u8 0),(.int .u8 0),(.int .u8 0),(.int .u8 0),(.int .u8 0),(.int .u8 0),(.int .u8 0),(.int .u8 0),(.int .u8 0),(.int .u8 0),(.int .u8 0),(.int .u8 0),(.int .u8 0),(.int .u8 0),(.int .u8 0),(.int .u8 0),(.int .u8 0),(.int .u8 0),(.int .u8 0),(.int .u8 0),(.int .i64 0),(.int .u8 0),(.int .u8 0),(.int .u8 0),(.int .u8 0),(.int .u8 0),(.int .u8 0),(.int .u8 0),(.int .u8 0),(.int .u8 0),(.int .u8 0),(.int .u8 0),(.int .u8 0),(.int .u8 0),(.int .u8 0),(.int .u8 0),(.int .u8 0),(.int .u8 0),(.int .u8 0),(.int .u8 0),(.int .u8 0),(.int .u64 0),(.int .u64 0),(.int .u64 0),(.int .u64 0)] [(0,1,(.t 110))]),
 ⟨none,.store 49 (.t 4) (.t 111),none⟩] [])
 (.ret)))
def rs10 : List RR := [.cell 4 (some 49)]
theorem fun10 : FunR Tryz.prog 10 rc10 rs10 112 := ⟨Tryz.f10, Tryz.func10, by kernel_rfl, by kernel_rfl, by kernel_rfl⟩
/-- causeway/causewaylaw09.sameKeys -/
def rc11 : RC :=
 .seq (.ops 0 false [
 oo 4 (.val (.c (.bool false)))] [])
 (.seq (.seq (.ops 1 false [
 oo 6 (.val (.t 0)),
 oo 7 (.len (.t 6)),
 oo 8 (.val (.t 1)),
 oo 9 (.len (.t 8)),
 oo 10 (.bin .neq (.t 7) (.t 9))] [])
 (.cond (.t 10) (.seq (.ops 2 false [
 oo 4 (.val (.c (.bool false)))] [])
 (.ret))
 (.skip)))
 (.seq (.seq (.ops 3 false [
 oo 5 (.val (.c (.int .i64 0)))] [])
 (.block 0 (.loop (.seq (.seq (.ops 4 false [
 oo 11 (.val (.t 5)),
 oo 12 (.val (.t 0)),
 oo 13 (.len (.t 12)),
 oo 14 (.bin .lss (.t 11) (.t 13))] [])
 (.cond (.t 14) (.skip)
 (.exit 0)))
 (.seq (.block 1 (.seq (.ops 6 true [
 oo 17 (.val (.t 0)),
 oo 18 (.val (.t 5)),
 oo 19 (.indexS 1 (.t 17) (.t 18)),
 oo 20 (.load (.t 19)),
 oo 21 (.val (.t 1)),
 oo 22 (.val (.t 5)),
 oo 23 (.indexS 1 (.t 21) (.t 22)),
 oo 24 (.load (.t 23)),
 oo 25 (.eqp .str true (.t 20) (.t 24))] [([],[]),([],[]),([0,1],[0,1]),([2],[2]),([],[]),([],[]),([4,5],[4,5]),([6],[6]),([3,7],[3,7])])
 (.cond (.t 25) (.seq (.ops 7 false [
 oo 4 (.val (.c (.bool false)))] [])
 (.ret))
 (.skip))))
 (.ops 5 false [
 oo 15 (.val (.t 5)),
 oo 16 (.bin .add (.t 15) (.c (.int .i64 1))),
 oo 5 (.val (.t 16))] []))))))
 (.seq (.ops 8 false [
 oo 4 (.val (.c (.bool true)))] [])
 (.ret))))
def rs11 : List RR := [.tmp 4]
theorem fun11 : FunR Tryz.prog 11 rc11 rs11 26 := ⟨Tryz.f11, Tryz.func11, by kernel_rfl, by kernel_rfl, by kernel_rfl⟩
/-- (*causeway/store.State).Touched -/
def rc12 : RC :=
 .seq (.ops 0 false [
 oo 2 (.val (.c (.slice none 0 0)))] [])
 (.seq (.ops 1 false [
 oo 3 (.val (.t 0)),
 oo 4 (.nilCheck (.t 3)),
 oo 5 (.fieldA 1 (.t 4)),
 oo 6 (.load (.t 5)),
 oo 7 (.call 49 [.t 6]),
 oo 8 (.call 48 [.t 7]),
 oo 2 (.val (.t 8))] [])
 (.ret))
def rs12 : List RR := [.tmp 2]
theorem fun12 : FunR Tryz.prog 12 rc12 rs12 9 := ⟨Tryz.f12, Tryz.func12, by kernel_rfl, by kernel_rfl, by kernel_rfl⟩
/-- (*causeway/causewayref07.State).Touched -/
def rc13 : RC :=
 .seq (.ops 0 false [
 oo 2 (.val (.c (.slice none 0 0)))] [])
 (.seq (.ops 1 false [
 oo 3 (.val (.c (.slice none 0 0)))] [])
 (.seq (.seq (.ops 2 false [
 oo 4 (.val (.c (.int .i64 0)))] [])
 (.block 0 (.loop (.seq (.seq (.ops 3 false [
 oo 5 (.val (.t 4)),
 oo 6 (.val (.t 0)),
 oo 7 (.nilCheck (.t 6)),
 oo 8 (.fieldA 3 (.t 7)),
 oo 9 (.load (.t 8)),
 oo 10 (.len (.t 9)),
 oo 11 (.bin .lss (.t 5) (.t 10))] [])
 (.cond (.t 11) (.skip)
 (.exit 0)))
 (.seq (.block 1 (.ops 5 false [
 oo 14 (.val (.t 3)),
 oo 15 (.val (.t 0)),
 oo 16 (.nilCheck (.t 15)),
 oo 17 (.fieldA 3 (.t 16)),
 oo 18 (.load (.t 17)),
 oo 19 (.val (.t 4)),
 oo 20 (.indexS 2 (.t 18) (.t 19)),
 oo 21 (.fieldA 0 (.t 20)),
 oo 22 (.load (.t 21)),
 oo 23 (.buildS 9 1 [(.string ⟨#[]⟩)] [(0,1,(.t 22))]),
 oo 24 (.blt .append #[48,48] 48 [.t 14,.t 23]),
 oo 3 (.val (.t 24))] []))
 (.ops 4 false [
 oo 12 (.val (.t 4)),
 oo 13 (.bin .add (.t 12) (.c (.int .i64 1))),
 oo 4 (.val (.t 13))] []))))))
 (.seq (.ops 6 false [
 oo 25 (.val (.t 3)),
 oo 2 (.val (.t 25))] [])
 (.ret))))
def rs13 : List RR := [.tmp 2]
theorem fun13 : FunR Tryz.prog 13 rc13 rs13 26 := ⟨Tryz.f13, Tryz.func13, by kernel_rfl, by kernel_rfl, by kernel_rfl⟩
/-- causeway/causewaylaw09.sameChanges -/
def rc14 : RC :=
 .seq (.ops 0 false [
 oo 4 (.val (.c (.bool false)))] [])
 (.seq (.seq (.ops 1 false [
 oo 6 (.val (.t 0)),
 oo 7 (.len (.t 6)),
 oo 8 (.val (.t 1)),
 oo 9 (.len (.t 8)),
 oo 10 (.bin .neq (.t 7) (.t 9))] [])
 (.cond (.t 10) (.seq (.ops 2 false [
 oo 4 (.val (.c (.bool false)))] [])
 (.ret))
 (.skip)))
 (.seq (.seq (.ops 3 false [
 oo 5 (.val (.c (.int .i64 0)))] [])
 (.block 0 (.loop (.seq (.seq (.ops 4 false [
 oo 11 (.val (.t 5)),
 oo 12 (.val (.t 0)),
 oo 13 (.len (.t 12)),
 oo 14 (.bin .lss (.t 11) (.t 13))] [])
 (.cond (.t 14) (.skip)
 (.exit 0)))
 (.seq (.block 1 (.seq (.ops 6 true [
 oo 17 (.val (.t 0)),
 oo 18 (.val (.t 5)),
 oo 19 (.indexS 3 (.t 17) (.t 18)),
 oo 20 (.fieldA 0 (.t 19)),
 oo 21 (.load (.t 20)),
 oo 22 (.val (.t 1)),
 oo 23 (.val (.t 5)),
 oo 24 (.indexS 3 (.t 22) (.t 23)),
 oo 25 (.fieldA 0 (.t 24)),
 oo 26 (.load (.t 25)),
 oo 27 (.eqp .str true (.t 21) (.t 26)),
 oo 28 (.val (.t 27)),
 ⟨some 29,.val (.t 0),some (28,false)⟩,
 ⟨some 30,.val (.t 5),some (28,false)⟩,
 ⟨some 31,.indexS 3 (.t 29) (.t 30),some (28,false)⟩,
 ⟨some 32,.fieldA 1 (.t 31),some (28,false)⟩,
 ⟨some 33,.load (.t 32),some (28,false)⟩,
 ⟨some 34,.cvt 97 9 (.t 33),some (28,false)⟩,
 ⟨some 35,.val (.t 1),some (28,false)⟩,
 ⟨some 36,.val (.t 5),some (28,false)⟩,
 ⟨some 37,.indexS 3 (.t 35) (.t 36),some (28,false)⟩,
 ⟨some 38,.fieldA 1 (.t 37),some (28,false)⟩,
 ⟨some 39,.load (.t 38),some (28,false)⟩,
 ⟨some 40,.cvt 97 9 (.t 39),some (28,false)⟩,
 ⟨some 41,.eqp .str true (.t 34) (.t 40),some (28,false)⟩,
 oo 42 (.pick (.t 28) (.c (.bool true)) (.t 41)),
 oo 43 (.val (.t 42)),
 ⟨some 44,.val (.t 0),some (43,false)⟩,
 ⟨some 45,.val (.t 5),some (43,false)⟩,
 ⟨some 46,.indexS 3 (.t 44) (.t 45),some (43,false)⟩,
 ⟨some 47,.fieldA 2 (.t 46),some (43,false)⟩,
 ⟨some 48,.load (.t 47),some (43,false)⟩,
 ⟨some 49,.cvt 97 9 (.t 48),some (43,false)⟩,
 ⟨some 50,.val (.t 1),some (43,false)⟩,
 ⟨some 51,.val (.t 5),some (43,false)⟩,
 ⟨some 52,.indexS 3 (.t 50) (.t 51),some (43,false)⟩,
 ⟨some 53,.fieldA 2 (.t 52),some (43,false)⟩,
 ⟨some 54,.load (.t 53),some (43,false)⟩,
 ⟨some 55,.cvt 97 9 (.t 54),some (43,false)⟩,
 ⟨some 56,.eqp .str true (.t 49) (.t 55),some (43,false)⟩,
 oo 57 (.pick (.t 43) (.c (.bool true)) (.t 56))] [([],[]),([],[]),([0,1],[0,1]),([2],[2]),([3],[3]),([],[]),([],[]),([5,6],[5,6]),([7],[7]),([8],[8]),([4,9],[4,9]),([10],[10]),([11],[11]),([11],[11]),([12,13,11],[11,12,13]),([14,11],[11,14]),([15,11],[11,15]),([16,11],[11,16]),([11],[11]),([11],[11]),([18,19,11],[11,18,19]),([20,11],[11,20]),([21,11],[11,21]),([22,11],[11,22]),([17,23,11],[11,17,23]),([11,24],[11,24]),([25,11],[25]),([26],[26]),([26],[26]),([27,28,26],[26,27,28]),([29,26],[26,29]),([30,26],[26,30]),([31,26],[26,31]),([26],[26]),([26],[26]),([33,34,26],[26,33,34]),([35,26],[26,35]),([36,26],[26,36]),([37,26],[26,37]),([32,38,26],[26,32,38]),([26,39],[26,39])])
 (.cond (.t 57) (.seq (.ops 7 false [
 oo 4 (.val (.c (.bool false)))] [])
 (.ret))
 (.skip))))
 (.ops 5 false [
 oo 15 (.val (.t 5)),
 oo 16 (.bin .add (.t 15) (.c (.int .i64 1))),
 oo 5 (.val (.t 16))] []))))))
 (.seq (.ops 8 false [
 oo 4 (.val (.c (.bool true)))] [])
 (.ret))))
def rs14 : List RR := [.tmp 4]
theorem fun14 : FunR Tryz.prog 14 rc14 rs14 58 := ⟨Tryz.f14, Tryz.func14, by kernel_rfl, by kernel_rfl, by kernel_rfl⟩
/-- (*causeway/store.State).Changes -/
def rc15 : RC :=
 .seq (.ops 0 false [
 oo 2 (.val (.c (.slice none 0 0)))] [])
 (.seq (.ops 1 false [
 oo 3 (.val (.c (.slice none 0 0)))] [])
 (.seq (.seq (.ops 2 false [
 oo 7 (.val (.t 0)),
 oo 8 (.call 12 [.t 7]),
 oo 9 (.len (.t 8)),
 oo 10 (.val (.c (.int .i64 0)))] [])
 (.block 0 (.loop (.seq (.ops 3 false [
 oo 11 (.bin .lss (.t 10) (.t 9))] [])
 (.seq (.cond (.t 11) (.skip)
 (.exit 0))
 (.seq (.block 1 (.seq (.ops 4 false [
 oo 12 (.indexS 1 (.t 8) (.t 10)),
 oo 13 (.load (.t 12)),
 oo 5 (.val (.t 13))] [])
 (.seq (.ops 5 false [
 oo 14 (.val (.t 0)),
 oo 15 (.val (.t 5)),
 oo 16 (.call 50 [.t 14,.t 15]),
 oo 6 (.val (.t 16))] [])
 (.seq (.ops 6 false [
 oo 17 (.val (.t 6)),
 oo 18 (.val (.t 0)),
 oo 19 (.nilCheck (.t 18)),
 oo 20 (.fieldA 1 (.t 19)),
 oo 21 (.load (.t 20)),
 oo 22 (.val (.t 5)),
 oo 23 (.look 71 (.t 21) (.t 22) false),
 oo 24 (.call 51 [.t 17,.t 23]),
 oo 25 (.not (.t 24))] [])
 (.cond (.t 25) (.ops 7 false [
 oo 26 (.val (.t 3)),
 oo 27 (.val (.t 5)),
 oo 28 (.val (.t 0)),
 oo 29 (.nilCheck (.t 28)),
 oo 30 (.fieldA 1 (.t 29)),
 oo 31 (.load (.t 30)),
 oo 32 (.val (.t 5)),
 oo 33 (.look 71 (.t 31) (.t 32) false),
 oo 34 (.call 52 [.t 33]),
 oo 35 (.val (.t 6)),
 oo 36 (.call 52 [.t 35]),
 oo 37 (.build [(.string ⟨#[]⟩),(.slice none 0 0),(.slice none 0 0)] [(0,1,(.t 27)),(1,1,(.t 34)),(2,1,(.t 36))]),
 oo 38 (.buildS 101 1 [(.string ⟨#[]⟩),(.slice none 0 0),(.slice none 0 0)] [(0,3,(.t 37))]),
 oo 39 (.blt .append #[51,51] 51 [.t 26,.t 38]),
 oo 3 (.val (.t 39))] [])
 (.skip))))))
 (.ops 8 false [
 oo 40 (.bin .add (.t 10) (.c (.int .i64 1))),
 oo 10 (.val (.t 40))] [])))))))
 (.seq (.ops 9 false [
 oo 41 (.val (.t 3)),
 oo 2 (.val (.t 41))] [])
 (.ret))))
def rs15 : List RR := [.tmp 2]
theorem fun15 : FunR Tryz.prog 15 rc15 rs15 42 := ⟨Tryz.f15, Tryz.func15, by kernel_rfl, by kernel_rfl, by kernel_rfl⟩
/-- (*causeway/causewayref07.State).Changes -/
def rc16 : RC :=
 .seq (.ops 0 false [
 oo 2 (.val (.c (.slice none 0 0)))] [])
 (.seq (.ops 1 false [
 oo 3 (.val (.c (.slice none 0 0)))] [])
 (.seq (.seq (.ops 2 false [
 oo 4 (.val (.c (.int .i64 0)))] [])
 (.block 0 (.loop (.seq (.seq (.ops 3 false [
 oo 6 (.val (.t 4)),
 oo 7 (.val (.t 0)),
 oo 8 (.nilCheck (.t 7)),
 oo 9 (.fieldA 3 (.t 8)),
 oo 10 (.load (.t 9)),
 oo 11 (.len (.t 10)),
 oo 12 (.bin .lss (.t 6) (.t 11))] [])
 (.cond (.t 12) (.skip)
 (.exit 0)))
 (.seq (.block 1 (.seq (.ops 5 false [
 oo 15 (.val (.t 0)),
 oo 16 (.val (.t 0)),
 oo 17 (.nilCheck (.t 16)),
 oo 18 (.fieldA 3 (.t 17)),
 oo 19 (.load (.t 18)),
 oo 20 (.val (.t 4)),
 oo 21 (.indexS 2 (.t 19) (.t 20)),
 oo 22 (.fieldA 0 (.t 21)),
 oo 23 (.load (.t 22)),
 oo 24 (.call 53 [.t 15,.t 23]),
 oo 5 (.val (.t 24))] [])
 (.seq (.ops 6 true [
 oo 25 (.val (.t 5)),
 oo 26 (.cvt 97 9 (.t 25)),
 oo 27 (.val (.t 0)),
 oo 28 (.nilCheck (.t 27)),
 oo 29 (.fieldA 3 (.t 28)),
 oo 30 (.load (.t 29)),
 oo 31 (.val (.t 4)),
 oo 32 (.indexS 2 (.t 30) (.t 31)),
 oo 33 (.fieldA 1 (.t 32)),
 oo 34 (.load (.t 33)),
 oo 35 (.cvt 97 9 (.t 34)),
 oo 36 (.eqp .str true (.t 26) (.t 35))] [([],[]),([0],[0]),([],[]),([2],[2]),([3],[3]),([4],[4]),([],[]),([5,6],[5,6]),([7],[7]),([8],[8]),([9],[9]),([1,10],[1,10])])
 (.cond (.t 36) (.ops 7 true [
 oo 37 (.val (.t 3)),
 oo 38 (.val (.t 0)),
 oo 39 (.nilCheck (.t 38)),
 oo 40 (.fieldA 3 (.t 39)),
 oo 41 (.load (.t 40)),
 oo 42 (.val (.t 4)),
 oo 43 (.indexS 2 (.t 41) (.t 42)),
 oo 44 (.fieldA 0 (.t 43)),
 oo 45 (.load (.t 44)),
 oo 46 (.val (.t 0)),
 oo 47 (.nilCheck (.t 46)),
 oo 48 (.fieldA 3 (.t 47)),
 oo 49 (.load (.t 48)),
 oo 50 (.val (.t 4)),
 oo 51 (.indexS 2 (.t 49) (.t 50)),
 oo 52 (.fieldA 1 (.t 51)),
 oo 53 (.load (.t 52)),
 oo 54 (.call 54 [.t 53]),
 oo 55 (.val (.t 5)),
 oo 56 (.call 54 [.t 55]),
 oo 57 (.build [(.string ⟨#[]⟩),(.slice none 0 0),(.slice none 0 0)] [(0,1,(.t 45)),(1,1,(.t 54)),(2,1,(.t 56))]),
 oo 58 (.buildS 101 1 [(.string ⟨#[]⟩),(.slice none 0 0),(.slice none 0 0)] [(0,3,(.t 57))]),
 oo 59 (.blt .append #[51,51] 51 [.t 37,.t 58]),
 oo 3 (.val (.t 59))] [([],[]),([],[]),([1],[1]),([2],[2]),([3],[3]),([],[]),([4,5],[4,5]),([6],[6]),([7],[7]),([],[]),([9],[9]),([10],[10]),([11],[11]),([],[]),([12,13],[12,13]),([14],[14]),([15],[15]),([16],[16]),([],[]),([18,17],[18]),([8,17,19],[8,17,19]),([20],[20]),([0,21,19],[0,21]),([22,22,0,1,2,3,4,5,6,7,8,9,10,11,12,13,14,15,16,17,18,19,20,21,22],[0,22])])
 (.skip)))))
 (.ops 4 false [
 oo 13 (.val (.t 4)),
 oo 14 (.bin .add (.t 13) (.c (.int .i64 1))),
 oo 4 (.val (.t 14))] []))))))
 (.seq (.ops 8 false [
 oo 60 (.val (.t 3)),
 oo 2 (.val (.t 60))] [])
 (.ret))))
def rs16 : List RR := [.tmp 2]
theorem fun16 : FunR Tryz.prog 16 rc16 rs16 61 := ⟨Tryz.f16, Tryz.func16, by kernel_rfl, by kernel_rfl, by kernel_rfl⟩
/-- causeway/causewaylaw09.fresh -/
def rc17 : RC :=
 .seq (.ops 0 false [
 oo 2 (.val (.c (.pointer none)))] [])
 (.seq (.ops 1 false [
 oo 8 (.call 55 []),
 oo 3 (.val (.t 8))] [])
 (.seq (.seq (.ops 2 false [
 oo 9 (.val (.t 3)),
 oo 10 (.eqp .ptr false (.t 9) (.c (.pointer none)))] [])
 (.cond (.t 10) (.seq (.ops 3 false [
 oo 2 (.val (.c (.pointer none)))] [])
 (.ret))
 (.skip)))
 (.seq (.seq (.ops 4 false [
 oo 4 (.val (.c (.int .i64 0)))] [])
 (.block 0 (.loop (.seq (.seq (.ops 5 false [
 oo 11 (.val (.t 4)),
 oo 12 (.val (.t 0)),
 oo 13 (.len (.t 12)),
 oo 14 (.bin .lss (.t 11) (.t 13))] [])
 (.cond (.t 14) (.skip)
 (.exit 0)))
 (.seq (.block 1 (.seq (.ops 7 true [
 oo 17 (.val (.t 3)),
 oo 18 (.val (.t 0)),
 oo 19 (.val (.t 4)),
 oo 20 (.indexS 2 (.t 18) (.t 19)),
 oo 21 (.fieldA 0 (.t 20)),
 oo 22 (.load (.t 21)),
 oo 23 (.val (.t 0)),
 oo 24 (.val (.t 4)),
 oo 25 (.indexS 2 (.t 23) (.t 24)),
 oo 26 (.fieldA 1 (.t 25)),
 oo 27 (.load (.t 26)),
 oo 28 (.call 56 [.t 17,.t 22,.t 27]),
 oo 5 (.val (.t 28))] [([],[]),([],[]),([],[]),([1,2],[1,2]),([3],[3]),([4],[4]),([],[]),([],[]),([6,7],[6,7]),([8],[8]),([9],[9]),([0,5,10],[0,5,10]),([11,11,0,1,2,3,4,5,6,7,8,9,10,11],[11])])
 (.seq (.ops 8 false [
 oo 29 (.val (.t 5)),
 oo 30 (.bin .neq (.t 29) (.c (.int .i64 0)))] [])
 (.cond (.t 30) (.seq (.ops 9 false [
 oo 2 (.val (.c (.pointer none)))] [])
 (.ret))
 (.skip)))))
 (.ops 6 false [
 oo 15 (.val (.t 4)),
 oo 16 (.bin .add (.t 15) (.c (.int .i64 1))),
 oo 4 (.val (.t 16))] []))))))
 (.seq (.ops 10 false [
 oo 32 (.val (.t 3)),
 oo 33 (.iface 105 (.t 32)),
 oo 34 (.call 6 [.t 33]),
 oo 31 (.val (.t 34)),
 oo 35 (.extract 0 (.t 31)),
 oo 36 (.extract 1 (.t 31)),
 oo 6 (.val (.t 35)),
 oo 7 (.val (.t 36))] [])
 (.seq (.seq (.ops 11 false [
 oo 37 (.val (.t 7)),
 oo 38 (.bin .neq (.t 37) (.c (.int .i64 0)))] [])
 (.cond (.t 38) (.seq (.ops 12 false [
 oo 2 (.val (.c (.pointer none)))] [])
 (.ret))
 (.skip)))
 (.seq (.ops 13 false [
 oo 39 (.val (.t 6)),
 oo 2 (.val (.t 39))] [])
 (.ret)))))))
def rs17 : List RR := [.tmp 2]
theorem fun17 : FunR Tryz.prog 17 rc17 rs17 40 := ⟨Tryz.f17, Tryz.func17, by kernel_rfl, by kernel_rfl, by kernel_rfl⟩
/-- causeway/causewaylaw09.pick -/
def rc19 : RC :=
 .seq (.ops 0 false [
 oo 4 (.val (.c (.int .i64 0)))] [])
 (.seq (.seq (.ops 1 false [
 oo 5 (.val (.t 0)),
 oo 6 (.bin .lss (.t 5) (.c (.int .i64 0)))] [])
 (.cond (.t 6) (.ops 2 false [
 oo 7 (.val (.t 0)),
 oo 8 (.bin .add (.t 7) (.c (.int .i64 1))),
 oo 9 (.neg (.t 8)),
 oo 0 (.val (.t 9))] [])
 (.skip)))
 (.seq (.ops 3 false [
 oo 10 (.val (.t 0)),
 oo 11 (.val (.t 1)),
 oo 12 (.bin .rem (.t 10) (.t 11)),
 oo 4 (.val (.t 12))] [])
 (.ret)))
def rs19 : List RR := [.tmp 4]
theorem fun19 : FunR Tryz.prog 19 rc19 rs19 13 := ⟨Tryz.f19, Tryz.func19, by kernel_rfl, by kernel_rfl, by kernel_rfl⟩
/-- causeway/ticket.Open -/
def rc28 : RC :=
 .seq (.ops 0 false [
 oo 3 (.box 40 (.t 1)),
 oo 4 (.val (.c (.int .i64 0))),
 oo 5 (.val (.c (.int .i64 0)))] [])
 (.seq (.block 0 (.seq (.ops 1 false [
 oo 10 (.val (.t 0)),
 oo 11 (.eqp .ptr false (.t 10) (.c (.pointer none))),
 oo 9 (.val (.t 11))] [])
 (.cond (.t 9) (.seq (.ops 2 false [
 oo 4 (.val (.c (.int .i64 0))),
 oo 5 (.val (.c (.int .i64 1)))] [])
 (.ret))
 (.seq (.ops 3 false [
 oo 13 (.fieldA 0 (.t 3)),
 oo 14 (.load (.t 13)),
 oo 15 (.bin .neq (.t 14) (.c (.int .i64 0))),
 oo 16 (.val (.t 15)),
 ⟨some 17,.loadN 47 (.t 3),some (16,false)⟩,
 ⟨some 18,.call 76 [.t 17],some (16,false)⟩,
 ⟨some 19,.not (.t 18),some (16,false)⟩,
 oo 20 (.pick (.t 16) (.c (.bool true)) (.t 19)),
 oo 12 (.val (.t 20))] [])
 (.cond (.t 12) (.seq (.ops 4 false [
 oo 4 (.val (.c (.int .i64 0))),
 oo 5 (.val (.c (.int .i64 93)))] [])
 (.ret))
 (.skip))))))
 (.seq (.ops 5 false [
 oo 22 (.val (.t 0)),
 oo 23 (.call 31 [.t 22]),
 oo 21 (.val (.t 23)),
 oo 24 (.extract 0 (.t 21)),
 oo 25 (.extract 1 (.t 21)),
 oo 6 (.val (.t 24)),
 oo 7 (.val (.t 25))] [])
 (.seq (.block 1 (.seq (.ops 6 false [
 oo 27 (.val (.t 7)),
 oo 28 (.bin .neq (.t 27) (.c (.int .i64 0))),
 oo 26 (.val (.t 28))] [])
 (.cond (.t 26) (.seq (.ops 7 false [
 oo 29 (.val (.t 7)),
 oo 4 (.val (.c (.int .i64 0))),
 oo 5 (.val (.t 29))] [])
 (.ret))
 (.seq (.ops 8 false [
 oo 31 (.val (.t 6)),
 oo 32 (.bin .geq (.t 31) (.c (.int .i64 1099511627776))),
 oo 30 (.val (.t 32))] [])
 (.cond (.t 30) (.seq (.ops 9 false [
 oo 4 (.val (.c (.int .i64 0))),
 oo 5 (.val (.c (.int .i64 92)))] [])
 (.ret))
 (.skip))))))
 (.seq (.ops 10 false [
 oo 33 (.val (.t 6)),
 oo 34 (.bin .add (.t 33) (.c (.int .i64 1))),
 oo 6 (.val (.t 34))] [])
 (.seq (.seq (.ops 11 true [
 oo 35 (.val (.t 0)),
 oo 36 (.val (.t 6)),
 oo 37 (.call 78 [.t 36]),
 oo 38 (.loadN 47 (.t 3)),
 oo 39 (.call 79 [.t 38]),
 oo 40 (.call 77 [.t 35,.t 37,.t 39]),
 oo 8 (.val (.t 40))] [([],[]),([],[]),([1],[1]),([],[]),([3,2],[3]),([0,2,4,4],[0,2,4]),([5,5,0,1,2,3,4,5],[5])])
 (.seq (.ops 12 false [
 oo 41 (.val (.t 8)),
 oo 42 (.bin .neq (.t 41) (.c (.int .i64 0)))] [])
 (.cond (.t 42) (.seq (.ops 13 false [
 oo 43 (.val (.t 8)),
 oo 4 (.val (.c (.int .i64 0))),
 oo 5 (.val (.t 43))] [])
 (.ret))
 (.skip))))
 (.seq (.ops 14 false [
 oo 44 (.val (.t 6)),
 oo 45 (.val (.t 0)),
 oo 46 (.val (.t 6)),
 oo 47 (.call 80 [.t 46]),
 oo 48 (.call 77 [(.t 45),(.c (.string ⟨#[110,116]⟩)),(.t 47)]),
 oo 4 (.val (.t 44)),
 oo 5 (.val (.t 48))] [])
 (.ret)))))))
def rs28 : List RR := [.tmp 4, .tmp 5]
theorem fun28 : FunR Tryz.prog 28 rc28 rs28 49 := ⟨Tryz.f28, Tryz.func28, by kernel_rfl, by kernel_rfl, by kernel_rfl⟩
/-- causeway/ticket.Find -/
def rc29 : RC :=
 .seq (.ops 0 false [
 oo 4 (.alloc 40 [(.int .i64 0),(.int .i64 0),(.int .u8 0),(.int .u8 0),(.int .u8 0),(.int .u8 0),(.int .u8 0),(.int .u8 0),(.int .u8 0),(.int .u8 0),(.int .u8 0),(.int .u8 0),(.int .u8 0),(.int .u8 0),(.int .u8 0),(.int .u8 0),(.int .u8 0),(.int .u8 0),(.int .u8 0),(.int .u8 0),(.int .u8 0),(.int .u8 0),(.int .i64 0),(.int .u8 0),(.int .u8 0),(.int .u8 0),(.int .u8 0),(.int .u8 0),(.int .u8 0),(.int .u8 0),(.int .u8 0),(.int .u8 0),(.int .u8 0),(.int .u8 0),(.int .u8 0),(.int .u8 0),(.int .u8 0),(.int .u8 0),(.int .u8 0),(.int .u8 0),(.int .u8 0),(.int .u8 0),(.int .u8 0),(.int .u64 0),(.int .u64 0),(.int .u64 0),(.int .u64 0)]),
 oo 5 (.val (.c (.int .i64 0)))] [])
 (.seq (.block 0 (.seq (.ops 1 false [
 oo 11 (.val (.t 0)),
 oo 12 (.eqp .ptr false (.t 11) (.c (.pointer none))),
 oo 10 (.val (.t 12))] [])
 (.cond (.t 10) (.seq (.ops 2 false [
 oo 13 (.build [(.int .i64 0),(.int .i64 0),(.int .u8 0),(.int .u8 0),(.int .u8 0),(.int .u8 0),(.int .u8 0),(.int .u8 0),(.int .u8 0),(.int .u8 0),(.int .u8 0),(.int .u8 0),(.int .u8 0),(.int .u8 0),(.int .u8 0),(.int .u8 0),(.int .u8 0),(.int .u8 0),(.int .u8 0),(.int .u8 0),(.int .u8 0),(.int .u8 0),(.int .i64 0),(.int .u8 0),(.int .u8 0),(.int .u8 0),(.int .u8 0),(.int .u8 0),(.int .u8 0),(.int .u8 0),(.int .u8 0),(.int .u8 0),(.int .u8 0),(.int .u8 0),(.int .u8 0),(.int .u8 0),(.int .u8 0),(.int .u8 0),(.int .u8 0),(.int .u8 0),(.int .u8 0),(.int .u8 0),(.int .u8 0),(.int .u64 0),(.int .u64 0),(.int .u64 0),(.int .u64 0)] []),
 ⟨none,.store 47 (.t 4) (.t 13),none⟩,
 oo 5 (.val (.c (.int .i64 1)))] [])
 (.ret))
 (.seq (.ops 3 false [
 oo 15 (.val (.t 1)),
 oo 16 (.bin .lss (.t 15) (.c (.int .i64 1))),
 oo 17 (.val (.t 16)),
 ⟨some 18,.val (.t 1),some (17,false)⟩,
 ⟨some 19,.bin .gtr (.t 18) (.c (.int .i64 1099511627776)),some (17,false)⟩,
 oo 20 (.pick (.t 17) (.c (.bool true)) (.t 19)),
 oo 14 (.val (.t 20))] [])
 (.cond (.t 14) (.seq (.ops 4 false [
 oo 21 (.build [(.int .i64 0),(.int .i64 0),(.int .u8 0),(.int .u8 0),(.int .u8 0),(.int .u8 0),(.int .u8 0),(.int .u8 0),(.int .u8 0),(.int .u8 0),(.int .u8 0),(.int .u8 0),(.int .u8 0),(.int .u8 0),(.int .u8 0),(.int .u8 0),(.int .u8 0),(.int .u8 0),(.int .u8 0),(.int .u8 0),(.int .u8 0),(.int .u8 0),(.int .i64 0),(.int .u8 0),(.int .u8 0),(.int .u8 0),(.int .u8 0),(.int .u8 0),(.int .u8 0),(.int .u8 0),(.int .u8 0),(.int .u8 0),(.int .u8 0),(.int .u8 0),(.int .u8 0),(.int .u8 0),(.int .u8 0),(.int .u8 0),(.int .u8 0),(.int .u8 0),(.int .u8 0),(.int .u8 0),(.int .u8 0),(.int .u64 0),(.int .u64 0),(.int .u64 0),(.int .u64 0)] []),
 ⟨none,.store 47 (.t 4) (.t 21),none⟩,
 oo 5 (.val (.c (.int .i64 90)))] [])
 (.ret))
 (.skip))))))
 (.seq (.ops 5 false [
 oo 23 (.val (.t 0)),
 oo 24 (.val (.t 1)),
 oo 25 (.call 78 [.t 24]),
 oo 26 (.call 81 [.t 23,.t 25]),
 oo 22 (.val (.t 26)),
 oo 27 (.extract 0 (.t 22)),
 oo 28 (.extract 1 (.t 22)),
 oo 6 (.val (.t 27)),
 oo 7 (.val (.t 28))] [])
 (.seq (.block 1 (.seq (.ops 6 false [
 oo 30 (.val (.t 7)),
 oo 31 (.bin .neq (.t 30) (.c (.int .i64 0))),
 oo 29 (.val (.t 31))] [])
 (.cond (.t 29) (.seq (.ops 7 false [
 oo 32 (.build [(.int .i64 0),(.int .i64 0),(.int .u8 0),(.int .u8 0),(.int .u8 0),(.int .u8 0),(.int .u8 0),(.int .u8 0),(.int .u8 0),(.int .u8 0),(.int .u8 0),(.int .u8 0),(.int .u8 0),(.int .u8 0),(.int .u8 0),(.int .u8 0),(.int .u8 0),(.int .u8 0),(.int .u8 0),(.int .u8 0),(.int .u8 0),(.int .u8 0),(.int .i64 0),(.int .u8 0),(.int .u8 0),(.int .u8 0),(.int .u8 0),(.int .u8 0),(.int .u8 0),(.int .u8 0),(.int .u8 0),(.int .u8 0),(.int .u8 0),(.int .u8 0),(.int .u8 0),(.int .u8 0),(.int .u8 0),(.int .u8 0),(.int .u8 0),(.int .u8 0),(.int .u8 0),(.int .u8 0),(.int .u8 0),(.int .u64 0),(.int .u64 0),(.int .u64 0),(.int .u64 0)] []),
 oo 33 (.val (.t 7)),
 ⟨none,.store 47 (.t 4) (.t 32),none⟩,
 oo 5 (.val (.t 33))] [])
 (.ret))
 (.seq (.ops 8 false [
 oo 35 (.val (.t 6)),
 oo 36 (.len (.t 35)),
 oo 37 (.bin .eql (.t 36) (.c (.int .i64 0))),
 oo 34 (.val (.t 37))] [])
 (.cond (.t 34) (.seq (.ops 9 false [
 oo 38 (.build [(.int .i64 0),(.int .i64 0),(.int .u8 0),(.int .u8 0),(.int .u8 0),(.int .u8 0),(.int .u8 0),(.int .u8 0),(.int .u8 0),(.int .u8 0),(.int .u8 0),(.int .u8 0),(.int .u8 0),(.int .u8 0),(.int .u8 0),(.int .u8 0),(.int .u8 0),(.int .u8 0),(.int .u8 0),(.int .u8 0),(.int .u8 0),(.int .u8 0),(.int .i64 0),(.int .u8 0),(.int .u8 0),(.int .u8 0),(.int .u8 0),(.int .u8 0),(.int .u8 0),(.int .u8 0),(.int .u8 0),(.int .u8 0),(.int .u8 0),(.int .u8 0),(.int .u8 0),(.int .u8 0),(.int .u8 0),(.int .u8 0),(.int .u8 0),(.int .u8 0),(.int .u8 0),(.int .u8 0),(.int .u8 0),(.int .u64 0),(.int .u64 0),(.int .u64 0),(.int .u64 0)] []),
 ⟨none,.store 47 (.t 4) (.t 38),none⟩,
 oo 5 (.val (.c (.int .i64 90)))] [])
 (.ret))
 (.skip))))))
 (.seq (.ops 10 false [
 oo 40 (.val (.t 1)),
 oo 41 (.val (.t 6)),
 oo 42 (.call 82 [.t 40,.t 41]),
 oo 39 (.val (.t 42)),
 oo 43 (.extract 0 (.t 39)),
 oo 44 (.extract 1 (.t 39)),
 oo 8 (.alloc 40 [(.int .i64 0),(.int .i64 0),(.int .u8 0),(.int .u8 0),(.int .u8 0),(.int .u8 0),(.int .u8 0),(.int .u8 0),(.int .u8 0),(.int .u8 0),(.int .u8 0),(.int .u8 0),(.int .u8 0),(.int .u8 0),(.int .u8 0),(.int .u8 0),(.int .u8 0),(.int .u8 0),(.int .u8 0),(.int .u8 0),(.int .u8 0),(.int .u8 0),(.int .i64 0),(.int .u8 0),(.int .u8 0),(.int .u8 0),(.int .u8 0),(.int .u8 0),(.int .u8 0),(.int .u8 0),(.int .u8 0),(.int .u8 0),(.int .u8 0),(.int .u8 0),(.int .u8 0),(.int .u8 0),(.int .u8 0),(.int .u8 0),(.int .u8 0),(.int .u8 0),(.int .u8 0),(.int .u8 0),(.int .u8 0),(.int .u64 0),(.int .u64 0),(.int .u64 0),(.int .u64 0)]),
 ⟨none,.store 47 (.t 8) (.t 43),none⟩,
 oo 9 (.val (.t 44))] [])
 (.seq (.seq (.ops 11 false [
 oo 45 (.val (.t 9)),
 oo 46 (.not (.t 45))] [])
 (.cond (.t 46) (.seq (.ops 12 false [
 oo 47 (.build [(.int .i64 0),(.int .i64 0),(.int .u8 0),(.int .u8 0),(.int .u8 0),(.int .u8 0),(.int .u8 0),(.int .u8 0),(.int .u8 0),(.int .u8 0),(.int .u8 0),(.int .u8 0),(.int .u8 0),(.int .u8 0),(.int .u8 0),(.int .u8 0),(.int .u8 0),(.int .u8 0),(.int .u8 0),(.int .u8 0),(.int .u8 0),(.int .u8 0),(.int .i64 0),(.int .u8 0),(.int .u8 0),(.int .u8 0),(.int .u8 0),(.int .u8 0),(.int .u8 0),(.int .u8 0),(.int .u8 0),(.int .u8 0),(.int .u8 0),(.int .u8 0),(.int .u8 0),(.int .u8 0),(.int .u8 0),(.int .u8 0),(.int .u8 0),(.int .u8 0),(.int .u8 0),(.int .u8 0),(.int .u8 0),(.int .u64 0),(.int .u64 0),(.int .u64 0),(.int .u64 0)] []),
 ⟨none,.store 47 (.t 4) (.t 47),none⟩,
 oo 5 (.val (.c (.int .i64 75)))] [])
 (.ret))
 (.skip)))
 (.seq (.ops 13 false [
 oo 48 (.loadN 47 (.t 8)),
 ⟨none,.store 47 (.t 4) (.t 48),none⟩,
 oo 5 (.val (.c (.int .i64 0)))] [])
 (.ret)))))))
def rs29 : List RR := [.cell 4 (some 47), .tmp 5]
theorem fun29 : FunR Tryz.prog 29 rc29 rs29 49 := ⟨Tryz.f29, Tryz.func29, by kernel_rfl, by kernel_rfl, by kernel_rfl⟩
/-- causeway/ticket.Cancel -/
def rc30 : RC :=
 .seq (.ops 0 false [
 oo 5 (.box 35 (.t 2)),
 oo 6 (.alloc 40 [(.int .i64 0),(.int .i64 0),(.int .u8 0),(.int .u8 0),(.int .u8 0),(.int .u8 0),(.int .u8 0),(.int .u8 0),(.int .u8 0),(.int .u8 0),(.int .u8 0),(.int .u8 0),(.int .u8 0),(.int .u8 0),(.int .u8 0),(.int .u8 0),(.int .u8 0),(.int .u8 0),(.int .u8 0),(.int .u8 0),(.int .u8 0),(.int .u8 0),(.int .i64 0),(.int .u8 0),(.int .u8 0),(.int .u8 0),(.int .u8 0),(.int .u8 0),(.int .u8 0),(.int .u8 0),(.int .u8 0),(.int .u8 0),(.int .u8 0),(.int .u8 0),(.int .u8 0),(.int .u8 0),(.int .u8 0),(.int .u8 0),(.int .u8 0),(.int .u8 0),(.int .u8 0),(.int .u8 0),(.int .u8 0),(.int .u64 0),(.int .u64 0),(.int .u64 0),(.int .u64 0)]),
 oo 7 (.val (.c (.int .i64 0)))] [])
 (.seq (.ops 1 false [
 oo 12 (.val (.t 0)),
 oo 13 (.val (.t 1)),
 oo 14 (.call 29 [.t 12,.t 13]),
 oo 11 (.val (.t 14)),
 oo 15 (.extract 0 (.t 11)),
 oo 16 (.extract 1 (.t 11)),
 oo 8 (.alloc 40 [(.int .i64 0),(.int .i64 0),(.int .u8 0),(.int .u8 0),(.int .u8 0),(.int .u8 0),(.int .u8 0),(.int .u8 0),(.int .u8 0),(.int .u8 0),(.int .u8 0),(.int .u8 0),(.int .u8 0),(.int .u8 0),(.int .u8 0),(.int .u8 0),(.int .u8 0),(.int .u8 0),(.int .u8 0),(.int .u8 0),(.int .u8 0),(.int .u8 0),(.int .i64 0),(.int .u8 0),(.int .u8 0),(.int .u8 0),(.int .u8 0),(.int .u8 0),(.int .u8 0),(.int .u8 0),(.int .u8 0),(.int .u8 0),(.int .u8 0),(.int .u8 0),(.int .u8 0),(.int .u8 0),(.int .u8 0),(.int .u8 0),(.int .u8 0),(.int .u8 0),(.int .u8 0),(.int .u8 0),(.int .u8 0),(.int .u64 0),(.int .u64 0),(.int .u64 0),(.int .u64 0)]),
 ⟨none,.store 47 (.t 8) (.t 15),none⟩,
 oo 9 (.val (.t 16))] [])
 (.seq (.block 0 (.seq (.ops 2 false [
 oo 18 (.val (.t 9)),
 oo 19 (.bin .neq (.t 18) (.c (.int .i64 0))),
 oo 17 (.val (.t 19))] [])
 (.cond (.t 17) (.seq (.ops 3 false [
 oo 20 (.build [(.int .i64 0),(.int .i64 0),(.int .u8 0),(.int .u8 0),(.int .u8 0),(.int .u8 0),(.int .u8 0),(.int .u8 0),(.int .u8 0),(.int .u8 0),(.int .u8 0),(.int .u8 0),(.int .u8 0),(.int .u8 0),(.int .u8 0),(.int .u8 0),(.int .u8 0),(.int .u8 0),(.int .u8 0),(.int .u8 0),(.int .u8 0),(.int .u8 0),(.int .i64 0),(.int .u8 0),(.int .u8 0),(.int .u8 0),(.int .u8 0),(.int .u8 0),(.int .u8 0),(.int .u8 0),(.int .u8 0),(.int .u8 0),(.int .u8 0),(.int .u8 0),(.int .u8 0),(.int .u8 0),(.int .u8 0),(.int .u8 0),(.int .u8 0),(.int .u8 0),(.int .u8 0),(.int .u8 0),(.int .u8 0),(.int .u64 0),(.int .u64 0),(.int .u64 0),(.int .u64 0)] []),
 oo 21 (.val (.t 9)),
 ⟨none,.store 47 (.t 6) (.t 20),none⟩,
 oo 7 (.val (.t 21))] [])
 (.ret))
 (.seq (.ops 4 false [
 oo 23 (.fieldA 2 (.t 8)),
 oo 24 (.loadN 20 (.t 23)),
 oo 25 (.loadN 20 (.t 5)),
 oo 26 (.eqn true 35 (.t 24) (.t 25)),
 oo 22 (.val (.t 26))] [])
 (.cond (.t 22) (.seq (.ops 5 false [
 oo 27 (.build [(.int .i64 0),(.int .i64 0),(.int .u8 0),(.int .u8 0),(.int .u8 0),(.int .u8 0),(.int .u8 0),(.int .u8 0),(.int .u8 0),(.int .u8 0),(.int .u8 0),(.int .u8 0),(.int .u8 0),(.int .u8 0),(.int .u8 0),(.int .u8 0),(.int .u8 0),(.int .u8 0),(.int .u8 0),(.int .u8 0),(.int .u8 0),(.int .u8 0),(.int .i64 0),(.int .u8 0),(.int .u8 0),(.int .u8 0),(.int .u8 0),(.int .u8 0),(.int .u8 0),(.int .u8 0),(.int .u8 0),(.int .u8 0),(.int .u8 0),(.int .u8 0),(.int .u8 0),(.int .u8 0),(.int .u8 0),(.int .u8 0),(.int .u8 0),(.int .u8 0),(.int .u8 0),(.int .u8 0),(.int .u8 0),(.int .u64 0),(.int .u64 0),(.int .u64 0),(.int .u64 0)] []),
 ⟨none,.store 47 (.t 6) (.t 27),none⟩,
 oo 7 (.val (.c (.int .i64 91)))] [])
 (.ret))
 (.skip))))))
 (.seq (.seq (.ops 6 false [
 oo 28 (.val (.t 0)),
 oo 29 (.val (.t 1)),
 oo 30 (.call 78 [.t 29]),
 oo 31 (.call 77 [(.t 28),(.t 30),(.c (.slice none 0 0))]),
 oo 10 (.val (.t 31))] [])
 (.seq (.ops 7 false [
 oo 32 (.val (.t 10)),
 oo 33 (.bin .neq (.t 32) (.c (.int .i64 0)))] [])
 (.cond (.t 33) (.seq (.ops 8 false [
 oo 34 (.build [(.int .i64 0),(.int .i64 0),(.int .u8 0),(.int .u8 0),(.int .u8 0),(.int .u8 0),(.int .u8 0),(.int .u8 0),(.int .u8 0),(.int .u8 0),(.int .u8 0),(.int .u8 0),(.int .u8 0),(.int .u8 0),(.int .u8 0),(.int .u8 0),(.int .u8 0),(.int .u8 0),(.int .u8 0),(.int .u8 0),(.int .u8 0),(.int .u8 0),(.int .i64 0),(.int .u8 0),(.int .u8 0),(.int .u8 0),(.int .u8 0),(.int .u8 0),(.int .u8 0),(.int .u8 0),(.int .u8 0),(.int .u8 0),(.int .u8 0),(.int .u8 0),(.int .u8 0),(.int .u8 0),(.int .u8 0),(.int .u8 0),(.int .u8 0),(.int .u8 0),(.int .u8 0),(.int .u8 0),(.int .u8 0),(.int .u64 0),(.int .u64 0),(.int .u64 0),(.int .u64 0)] []),
 oo 35 (.val (.t 10)),
 ⟨none,.store 47 (.t 6) (.t 34),none⟩,
 oo 7 (.val (.t 35))] [])
 (.ret))
 (.skip))))
 (.seq (.ops 9 false [
 oo 36 (.loadN 47 (.t 8)),
 ⟨none,.store 47 (.t 6) (.t 36),none⟩,
 oo 7 (.val (.c (.int .i64 0)))] [])
 (.ret)))))
def rs30 : List RR := [.cell 6 (some 47), .tmp 7]
theorem fun30 : FunR Tryz.prog 30 rc30 rs30 37 := ⟨Tryz.f30, Tryz.func30, by kernel_rfl, by kernel_rfl, by kernel_rfl⟩
/-- causeway/ticket.Made -/
def rc31 : RC :=
 .seq (.ops 0 false [
 oo 2 (.val (.c (.int .i64 0))),
 oo 3 (.val (.c (.int .i64 0)))] [])
 (.seq (.seq (.ops 1 false [
 oo 7 (.val (.t 0)),
 oo 8 (.eqp .ptr false (.t 7) (.c (.pointer none)))] [])
 (.cond (.t 8) (.seq (.ops 2 false [
 oo 2 (.val (.c (.int .i64 0))),
 oo 3 (.val (.c (.int .i64 1)))] [])
 (.ret))
 (.skip)))
 (.seq (.ops 3 false [
 oo 10 (.val (.t 0)),
 oo 11 (.call 81 [(.t 10),(.c (.string ⟨#[110,116]⟩))]),
 oo 9 (.val (.t 11)),
 oo 12 (.extract 0 (.t 9)),
 oo 13 (.extract 1 (.t 9)),
 oo 4 (.val (.t 12)),
 oo 5 (.val (.t 13))] [])
 (.seq (.seq (.ops 4 false [
 oo 14 (.val (.t 5)),
 oo 15 (.bin .neq (.t 14) (.c (.int .i64 0))),
 oo 16 (.val (.t 15)),
 ⟨some 17,.val (.t 4),some (16,false)⟩,
 ⟨some 18,.len (.t 17),some (16,false)⟩,
 ⟨some 19,.bin .eql (.t 18) (.c (.int .i64 0)),some (16,false)⟩,
 oo 20 (.pick (.t 16) (.c (.bool true)) (.t 19))] [])
 (.cond (.t 20) (.seq (.ops 5 false [
 oo 21 (.val (.t 5)),
 oo 2 (.val (.c (.int .i64 0))),
 oo 3 (.val (.t 21))] [])
 (.ret))
 (.skip)))
 (.seq (.ops 6 false [
 oo 22 (.val (.t 4)),
 oo 23 (.call 83 [.t 22]),
 oo 6 (.val (.t 23))] [])
 (.seq (.seq (.ops 7 false [
 oo 24 (.val (.t 4)),
 oo 25 (.len (.t 24)),
 oo 26 (.bin .neq (.t 25) (.c (.int .i64 8))),
 oo 27 (.val (.t 26)),
 ⟨some 28,.val (.t 6),some (27,false)⟩,
 ⟨some 29,.bin .lss (.t 28) (.c (.int .i64 1)),some (27,false)⟩,
 oo 30 (.pick (.t 27) (.c (.bool true)) (.t 29)),
 oo 31 (.val (.t 30)),
 ⟨some 32,.val (.t 6),some (31,false)⟩,
 ⟨some 33,.bin .gtr (.t 32) (.c (.int .i64 1099511627776)),some (31,false)⟩,
 oo 34 (.pick (.t 31) (.c (.bool true)) (.t 33))] [])
 (.cond (.t 34) (.seq (.ops 8 false [
 oo 2 (.val (.c (.int .i64 0))),
 oo 3 (.val (.c (.int .i64 75)))] [])
 (.ret))
 (.skip)))
 (.seq (.ops 9 false [
 oo 35 (.val (.t 6)),
 oo 2 (.val (.t 35)),
 oo 3 (.val (.c (.int .i64 0)))] [])
 (.ret)))))))
def rs31 : List RR := [.tmp 2, .tmp 3]
theorem fun31 : FunR Tryz.prog 31 rc31 rs31 36 := ⟨Tryz.f31, Tryz.func31, by kernel_rfl, by kernel_rfl, by kernel_rfl⟩
/-- causeway/ticket.Retry -/
def rc32 : RC :=
 .seq (.ops 0 false [
 oo 4 (.val (.c (.int .i64 0)))] [])
 (.seq (.ops 1 false [
 oo 9 (.val (.t 0)),
 oo 10 (.val (.t 1)),
 oo 11 (.call 29 [.t 9,.t 10]),
 oo 8 (.val (.t 11)),
 oo 12 (.extract 0 (.t 8)),
 oo 13 (.extract 1 (.t 8)),
 oo 5 (.alloc 40 [(.int .i64 0),(.int .i64 0),(.int .u8 0),(.int .u8 0),(.int .u8 0),(.int .u8 0),(.int .u8 0),(.int .u8 0),(.int .u8 0),(.int .u8 0),(.int .u8 0),(.int .u8 0),(.int .u8 0),(.int .u8 0),(.int .u8 0),(.int .u8 0),(.int .u8 0),(.int .u8 0),(.int .u8 0),(.int .u8 0),(.int .u8 0),(.int .u8 0),(.int .i64 0),(.int .u8 0),(.int .u8 0),(.int .u8 0),(.int .u8 0),(.int .u8 0),(.int .u8 0),(.int .u8 0),(.int .u8 0),(.int .u8 0),(.int .u8 0),(.int .u8 0),(.int .u8 0),(.int .u8 0),(.int .u8 0),(.int .u8 0),(.int .u8 0),(.int .u8 0),(.int .u8 0),(.int .u8 0),(.int .u8 0),(.int .u64 0),(.int .u64 0),(.int .u64 0),(.int .u64 0)]),
 ⟨none,.store 47 (.t 5) (.t 12),none⟩,
 oo 6 (.val (.t 13))] [])
 (.seq (.seq (.ops 2 false [
 oo 14 (.val (.t 6)),
 oo 15 (.bin .neq (.t 14) (.c (.int .i64 0)))] [])
 (.cond (.t 15) (.seq (.ops 3 false [
 oo 16 (.val (.t 6)),
 oo 4 (.val (.t 16))] [])
 (.ret))
 (.skip)))
 (.seq (.seq (.ops 4 false [
 oo 17 (.val (.t 0)),
 oo 18 (.fieldA 22 (.t 5)),
 oo 19 (.load (.t 18)),
 oo 20 (.fieldA 23 (.t 5)),
 oo 21 (.loadN 20 (.t 20)),
 oo 22 (.fieldA 43 (.t 5)),
 oo 23 (.loadN 4 (.t 22)),
 oo 24 (.call 58 [.t 17,.t 19,.t 21,.t 23]),
 oo 7 (.val (.t 24))] [])
 (.seq (.ops 5 false [
 oo 25 (.val (.t 7)),
 oo 26 (.bin .neq (.t 25) (.c (.int .i64 0)))] [])
 (.cond (.t 26) (.seq (.ops 6 false [
 oo 27 (.val (.t 7)),
 oo 4 (.val (.t 27))] [])
 (.ret))
 (.skip))))
 (.seq (.ops 7 false [
 oo 28 (.val (.t 0)),
 oo 29 (.val (.t 1)),
 oo 30 (.call 78 [.t 29]),
 oo 31 (.call 77 [(.t 28),(.t 30),(.c (.slice none 0 0))]),
 oo 4 (.val (.t 31))] [])
 (.ret)))))
def rs32 : List RR := [.tmp 4]
theorem fun32 : FunR Tryz.prog 32 rc32 rs32 32 := ⟨Tryz.f32, Tryz.func32, by kernel_rfl, by kernel_rfl, by kernel_rfl⟩
/-- causeway/ledger.Register -/
def rc33 : RC :=
 .seq (.ops 0 false [
 oo 4 (.val (.c (.int .i64 0)))] [])
 (.seq (.ops 1 false [
 oo 8 (.val (.t 0)),
 oo 9 (.val (.t 1)),
 oo 10 (.call 61 [.t 8,.t 9]),
 oo 7 (.val (.t 10)),
 oo 11 (.extract 0 (.t 7)),
 oo 12 (.extract 1 (.t 7)),
 oo 5 (.alloc 61 [(.bool false),(.bool false),(.int .u64 0),(.int .u64 0),(.int .u64 0),(.int .u64 0)]),
 ⟨none,.store 6 (.t 5) (.t 11),none⟩,
 oo 6 (.val (.t 12))] [])
 (.seq (.block 0 (.seq (.ops 2 false [
 oo 14 (.val (.t 6)),
 oo 15 (.bin .neq (.t 14) (.c (.int .i64 0))),
 oo 13 (.val (.t 15))] [])
 (.cond (.t 13) (.seq (.ops 3 false [
 oo 16 (.val (.t 6)),
 oo 4 (.val (.t 16))] [])
 (.ret))
 (.seq (.ops 4 false [
 oo 18 (.fieldA 0 (.t 5)),
 oo 19 (.load (.t 18)),
 oo 17 (.val (.t 19))] [])
 (.cond (.t 17) (.seq (.ops 5 false [
 oo 4 (.val (.c (.int .i64 82)))] [])
 (.ret))
 (.skip))))))
 (.seq (.ops 6 false [
 oo 20 (.val (.t 0)),
 oo 21 (.val (.t 1)),
 oo 22 (.build [(.bool false),(.bool false),(.int .u64 0),(.int .u64 0),(.int .u64 0),(.int .u64 0)] []),
 oo 23 (.call 84 [.t 20,.t 21,.t 22]),
 oo 4 (.val (.t 23))] [])
 (.ret))))
def rs33 : List RR := [.tmp 4]
theorem fun33 : FunR Tryz.prog 33 rc33 rs33 24 := ⟨Tryz.f33, Tryz.func33, by kernel_rfl, by kernel_rfl, by kernel_rfl⟩
/-- causeway/ledger.Pause -/
def rc34 : RC :=
 .seq (.ops 0 false [
 oo 4 (.val (.c (.int .i64 0)))] [])
 (.seq (.ops 1 false [
 oo 8 (.val (.t 0)),
 oo 9 (.val (.t 1)),
 oo 10 (.call 85 [.t 8,.t 9]),
 oo 7 (.val (.t 10)),
 oo 11 (.extract 0 (.t 7)),
 oo 12 (.extract 1 (.t 7)),
 oo 5 (.alloc 61 [(.bool false),(.bool false),(.int .u64 0),(.int .u64 0),(.int .u64 0),(.int .u64 0)]),
 ⟨none,.store 6 (.t 5) (.t 11),none⟩,
 oo 6 (.val (.t 12))] [])
 (.seq (.seq (.ops 2 false [
 oo 13 (.val (.t 6)),
 oo 14 (.bin .neq (.t 13) (.c (.int .i64 0)))] [])
 (.cond (.t 14) (.seq (.ops 3 false [
 oo 15 (.val (.t 6)),
 oo 4 (.val (.t 15))] [])
 (.ret))
 (.skip)))
 (.seq (.ops 4 false [
 oo 16 (.fieldA 1 (.t 5)),
 ⟨none,.store 1 (.t 16) (.c (.bool true)),none⟩] [])
 (.seq (.ops 5 false [
 oo 17 (.val (.t 0)),
 oo 18 (.val (.t 1)),
 oo 19 (.loadN 6 (.t 5)),
 oo 20 (.call 84 [.t 17,.t 18,.t 19]),
 oo 4 (.val (.t 20))] [])
 (.ret)))))
def rs34 : List RR := [.tmp 4]
theorem fun34 : FunR Tryz.prog 34 rc34 rs34 21 := ⟨Tryz.f34, Tryz.func34, by kernel_rfl, by kernel_rfl, by kernel_rfl⟩
/-- causeway/ledger.Resume -/
def rc35 : RC :=
 .seq (.ops 0 false [
 oo 4 (.val (.c (.int .i64 0)))] [])
 (.seq (.ops 1 false [
 oo 8 (.val (.t 0)),
 oo 9 (.val (.t 1)),
 oo 10 (.call 86 [.t 8,.t 9]),
 oo 7 (.val (.t 10)),
 oo 11 (.extract 0 (.t 7)),
 oo 12 (.extract 1 (.t 7)),
 oo 5 (.alloc 61 [(.bool false),(.bool false),(.int .u64 0),(.int .u64 0),(.int .u64 0),(.int .u64 0)]),
 ⟨none,.store 6 (.t 5) (.t 11),none⟩,
 oo 6 (.val (.t 12))] [])
 (.seq (.block 0 (.seq (.ops 2 false [
 oo 14 (.val (.t 6)),
 oo 15 (.bin .neq (.t 14) (.c (.int .i64 0))),
 oo 13 (.val (.t 15))] [])
 (.cond (.t 13) (.seq (.ops 3 false [
 oo 16 (.val (.t 6)),
 oo 4 (.val (.t 16))] [])
 (.ret))
 (.seq (.ops 4 false [
 oo 18 (.fieldA 1 (.t 5)),
 oo 19 (.load (.t 18)),
 oo 20 (.not (.t 19)),
 oo 17 (.val (.t 20))] [])
 (.cond (.t 17) (.seq (.ops 5 false [
 oo 4 (.val (.c (.int .i64 84)))] [])
 (.ret))
 (.skip))))))
 (.seq (.ops 6 false [
 oo 21 (.fieldA 1 (.t 5)),
 ⟨none,.store 1 (.t 21) (.c (.bool false)),none⟩] [])
 (.seq (.ops 7 false [
 oo 22 (.val (.t 0)),
 oo 23 (.val (.t 1)),
 oo 24 (.loadN 6 (.t 5)),
 oo 25 (.call 84 [.t 22,.t 23,.t 24]),
 oo 4 (.val (.t 25))] [])
 (.ret)))))
def rs35 : List RR := [.tmp 4]
theorem fun35 : FunR Tryz.prog 35 rc35 rs35 26 := ⟨Tryz.f35, Tryz.func35, by kernel_rfl, by kernel_rfl, by kernel_rfl⟩
/-- (*causeway/store.State).Mark -/
def rc36 : RC :=
 .seq (.ops 0 false [
 oo 2 (.val (.c (.int .i64 0)))] [])
 (.seq (.ops 1 true [
 oo 3 (.val (.t 0)),
 oo 4 (.val (.t 0)),
 oo 5 (.nilCheck (.t 4)),
 oo 6 (.fieldA 4 (.t 5)),
 oo 7 (.load (.t 6)),
 oo 8 (.val (.t 0)),
 oo 9 (.nilCheck (.t 8)),
 oo 10 (.fieldA 3 (.t 9)),
 oo 11 (.load (.t 10)),
 oo 12 (.len (.t 11)),
 oo 13 (.buildS 3 1 [(.int .i64 0)] [(0,1,(.t 12))]),
 oo 14 (.blt .append #[73,73] 73 [.t 7,.t 13]),
 oo 15 (.nilCheck (.t 3)),
 oo 16 (.fieldA 4 (.t 15)),
 ⟨none,.store 1 (.t 16) (.t 14),none⟩] [([],[]),([],[]),([1],[1]),([2],[2]),([3],[3]),([],[]),([5],[5]),([6],[6]),([7],[7]),([8],[8]),([9],[9]),([4,10],[4,10]),([0,0,1,2,3,4,5,6,7,8,9,10,11],[0]),([12,0,1,2,3,4,5,6,7,8,9,10,11],[12]),([13,11,11,0,1,2,3,4,5,6,7,8,9,10,11],[11,13])])
 (.seq (.ops 2 false [
 oo 17 (.val (.t 0)),
 oo 18 (.nilCheck (.t 17)),
 oo 19 (.fieldA 4 (.t 18)),
 oo 20 (.load (.t 19)),
 oo 21 (.len (.t 20)),
 oo 22 (.bin .sub (.t 21) (.c (.int .i64 1))),
 oo 2 (.val (.t 22))] [])
 (.ret)))
def rs36 : List RR := [.tmp 2]
theorem fun36 : FunR Tryz.prog 36 rc36 rs36 23 := ⟨Tryz.f36, Tryz.func36, by kernel_rfl, by kernel_rfl, by kernel_rfl⟩
/-- (*causeway/store.State).Back -/
def rc37 : RC :=
 .seq (.ops 0 false [
 oo 4 (.val (.c (.int .i64 0)))] [])
 (.seq (.seq (.ops 1 false [
 oo 8 (.val (.t 1)),
 oo 9 (.bin .lss (.t 8) (.c (.int .i64 0))),
 oo 10 (.val (.t 9)),
 ⟨some 11,.val (.t 1),some (10,false)⟩,
 ⟨some 12,.val (.t 0),some (10,false)⟩,
 ⟨some 13,.nilCheck (.t 12),some (10,false)⟩,
 ⟨some 14,.fieldA 4 (.t 13),some (10,false)⟩,
 ⟨some 15,.load (.t 14),some (10,false)⟩,
 ⟨some 16,.len (.t 15),some (10,false)⟩,
 ⟨some 17,.bin .geq (.t 11) (.t 16),some (10,false)⟩,
 oo 18 (.pick (.t 10) (.c (.bool true)) (.t 17))] [])
 (.cond (.t 18) (.seq (.ops 2 false [
 oo 4 (.val (.c (.int .i64 72)))] [])
 (.ret))
 (.skip)))
 (.seq (.ops 3 false [
 oo 19 (.val (.t 0)),
 oo 20 (.nilCheck (.t 19)),
 oo 21 (.fieldA 4 (.t 20)),
 oo 22 (.load (.t 21)),
 oo 23 (.val (.t 1)),
 oo 24 (.indexS 1 (.t 22) (.t 23)),
 oo 25 (.load (.t 24)),
 oo 5 (.val (.t 25))] [])
 (.seq (.seq (.ops 4 false [
 oo 26 (.val (.t 0)),
 oo 27 (.nilCheck (.t 26)),
 oo 28 (.fieldA 3 (.t 27)),
 oo 29 (.load (.t 28)),
 oo 30 (.len (.t 29)),
 oo 31 (.bin .sub (.t 30) (.c (.int .i64 1))),
 oo 6 (.val (.t 31))] [])
 (.block 0 (.loop (.seq (.seq (.ops 5 false [
 oo 32 (.val (.t 6)),
 oo 33 (.val (.t 5)),
 oo 34 (.bin .geq (.t 32) (.t 33))] [])
 (.cond (.t 34) (.skip)
 (.exit 0)))
 (.seq (.block 1 (.seq (.ops 7 false [
 oo 37 (.val (.t 0)),
 oo 38 (.nilCheck (.t 37)),
 oo 39 (.fieldA 3 (.t 38)),
 oo 40 (.load (.t 39)),
 oo 41 (.val (.t 6)),
 oo 42 (.indexS 3 (.t 40) (.t 41)),
 oo 43 (.loadN 3 (.t 42)),
 oo 7 (.alloc 135 [(.string ⟨#[]⟩),(.slice none 0 0),(.bool false)]),
 ⟨none,.store 3 (.t 7) (.t 43),none⟩] [])
 (.seq (.ops 8 false [
 oo 44 (.fieldA 2 (.t 7)),
 oo 45 (.load (.t 44))] [])
 (.cond (.t 45) (.ops 9 true [
 oo 46 (.val (.t 0)),
 oo 47 (.nilCheck (.t 46)),
 oo 48 (.fieldA 2 (.t 47)),
 oo 49 (.load (.t 48)),
 oo 50 (.fieldA 0 (.t 7)),
 oo 51 (.load (.t 50)),
 oo 52 (.fieldA 1 (.t 7)),
 oo 53 (.load (.t 52)),
 ⟨none,.upd 71 (.t 49) (.t 51) (.t 53),none⟩] [([],[]),([0],[0]),([1],[1]),([2],[2]),([],[]),([4],[4]),([],[]),([6],[6]),([3,5,7,0,1,2,3,4,5,6,7],[3,5,7])])
 (.ops 10 true [
 oo 54 (.val (.t 0)),
 oo 55 (.nilCheck (.t 54)),
 oo 56 (.fieldA 2 (.t 55)),
 oo 57 (.load (.t 56)),
 oo 58 (.fieldA 0 (.t 7)),
 oo 59 (.load (.t 58)),
 ⟨none,.blt .delete #[71,9] 0 [.t 57,.t 59],none⟩] [([],[]),([0],[0]),([1],[1]),([2],[2]),([],[]),([4],[4]),([3,5],[3,5])])))))
 (.ops 6 false [
 oo 35 (.val (.t 6)),
 oo 36 (.bin .sub (.t 35) (.c (.int .i64 1))),
 oo 6 (.val (.t 36))] []))))))
 (.seq (.ops 11 false [
 oo 60 (.val (.t 0)),
 oo 61 (.val (.t 0)),
 oo 62 (.nilCheck (.t 61)),
 oo 63 (.fieldA 3 (.t 62)),
 oo 64 (.load (.t 63)),
 oo 65 (.val (.t 5)),
 oo 66 (.slice 3 (.t 64) none (some (.t 65)) none),
 oo 67 (.nilCheck (.t 60)),
 oo 68 (.fieldA 3 (.t 67)),
 ⟨none,.store 1 (.t 68) (.t 66),none⟩] [])
 (.seq (.ops 12 false [
 oo 69 (.val (.t 0)),
 oo 70 (.val (.t 0)),
 oo 71 (.nilCheck (.t 70)),
 oo 72 (.fieldA 4 (.t 71)),
 oo 73 (.load (.t 72)),
 oo 74 (.val (.t 1)),
 oo 75 (.bin .add (.t 74) (.c (.int .i64 1))),
 oo 76 (.slice 1 (.t 73) none (some (.t 75)) none),
 oo 77 (.nilCheck (.t 69)),
 oo 78 (.fieldA 4 (.t 77)),
 ⟨none,.store 1 (.t 78) (.t 76),none⟩] [])
 (.seq (.ops 13 false [
 oo 4 (.val (.c (.int .i64 0)))] [])
 (.ret)))))))
def rs37 : List RR := [.tmp 4]
theorem fun37 : FunR Tryz.prog 37 rc37 rs37 79 := ⟨Tryz.f37, Tryz.func37, by kernel_rfl, by kernel_rfl, by kernel_rfl⟩
/-- causeway/causewayref09.Open -/
def rc38 : RC :=
 .seq (.ops 0 false [
 oo 3 (.box 40 (.t 1)),
 oo 4 (.val (.c (.int .i64 0))),
 oo 5 (.val (.c (.int .i64 0)))] [])
 (.seq (.seq (.ops 1 false [
 oo 8 (.val (.t 0)),
 oo 9 (.eqp .ptr false (.t 8) (.c (.pointer none)))] [])
 (.cond (.t 9) (.seq (.ops 2 false [
 oo 4 (.val (.c (.int .i64 0))),
 oo 5 (.val (.c (.int .i64 1)))] [])
 (.ret))
 (.skip)))
 (.seq (.seq (.ops 3 false [
 oo 10 (.fieldA 0 (.t 3)),
 oo 11 (.load (.t 10)),
 oo 12 (.bin .neq (.t 11) (.c (.int .i64 0))),
 oo 13 (.val (.t 12)),
 ⟨some 14,.loadN 47 (.t 3),some (13,false)⟩,
 ⟨some 15,.call 87 [.t 14],some (13,false)⟩,
 ⟨some 16,.not (.t 15),some (13,false)⟩,
 oo 17 (.pick (.t 13) (.c (.bool true)) (.t 16))] [])
 (.cond (.t 17) (.seq (.ops 4 false [
 oo 4 (.val (.c (.int .i64 0))),
 oo 5 (.val (.c (.int .i64 93)))] [])
 (.ret))
 (.skip)))
 (.seq (.ops 5 false [
 oo 19 (.val (.t 0)),
 oo 20 (.call 40 [.t 19]),
 oo 18 (.val (.t 20)),
 oo 21 (.extract 0 (.t 18)),
 oo 22 (.extract 1 (.t 18)),
 oo 6 (.val (.t 21)),
 oo 7 (.val (.t 22))] [])
 (.seq (.seq (.ops 6 false [
 oo 23 (.val (.t 7)),
 oo 24 (.bin .neq (.t 23) (.c (.int .i64 0)))] [])
 (.cond (.t 24) (.seq (.ops 7 false [
 oo 25 (.val (.t 7)),
 oo 4 (.val (.c (.int .i64 0))),
 oo 5 (.val (.t 25))] [])
 (.ret))
 (.skip)))
 (.seq (.seq (.ops 8 false [
 oo 26 (.val (.t 6)),
 oo 27 (.bin .eql (.t 26) (.c (.int .i64 1099511627776)))] [])
 (.cond (.t 27) (.seq (.ops 9 false [
 oo 4 (.val (.c (.int .i64 0))),
 oo 5 (.val (.c (.int .i64 92)))] [])
 (.ret))
 (.skip)))
 (.seq (.ops 10 true [
 oo 28 (.val (.t 0)),
 oo 29 (.val (.t 6)),
 oo 30 (.bin .add (.t 29) (.c (.int .i64 1))),
 oo 31 (.call 89 [.t 30]),
 oo 32 (.loadN 47 (.t 3)),
 oo 33 (.call 90 [.t 32]),
 oo 34 (.call 88 [.t 28,.t 31,.t 33]),
 oo 7 (.val (.t 34))] [([],[]),([],[]),([1],[1]),([2],[2]),([],[]),([4,3],[4]),([0,3,5,5],[0,3,5]),([6,6,0,1,2,3,4,5,6],[6])])
 (.seq (.seq (.ops 11 false [
 oo 35 (.val (.t 7)),
 oo 36 (.bin .neq (.t 35) (.c (.int .i64 0)))] [])
 (.cond (.t 36) (.seq (.ops 12 false [
 oo 37 (.val (.t 7)),
 oo 4 (.val (.c (.int .i64 0))),
 oo 5 (.val (.t 37))] [])
 (.ret))
 (.skip)))
 (.seq (.ops 13 false [
 oo 38 (.val (.t 0)),
 oo 39 (.val (.t 6)),
 oo 40 (.bin .add (.t 39) (.c (.int .i64 1))),
 oo 41 (.call 91 [.t 40]),
 oo 42 (.call 88 [(.t 38),(.c (.string ⟨#[110,116]⟩)),(.t 41)]),
 oo 7 (.val (.t 42))] [])
 (.seq (.seq (.ops 14 false [
 oo 43 (.val (.t 7)),
 oo 44 (.bin .neq (.t 43) (.c (.int .i64 0)))] [])
 (.cond (.t 44) (.seq (.ops 15 false [
 oo 45 (.val (.t 7)),
 oo 4 (.val (.c (.int .i64 0))),
 oo 5 (.val (.t 45))] [])
 (.ret))
 (.skip)))
 (.seq (.ops 16 false [
 oo 46 (.val (.t 6)),
 oo 47 (.bin .add (.t 46) (.c (.int .i64 1))),
 oo 4 (.val (.t 47)),
 oo 5 (.val (.c (.int .i64 0)))] [])
 (.ret)))))))))))
def rs38 : List RR := [.tmp 4, .tmp 5]
theorem fun38 : FunR Tryz.prog 38 rc38 rs38 48 := ⟨Tryz.f38, Tryz.func38, by kernel_rfl, by kernel_rfl, by kernel_rfl⟩
/-- causeway/causewayref09.Find -/
def rc39 : RC :=
 .seq (.ops 0 false [
 oo 4 (.alloc 40 [(.int .i64 0),(.int .i64 0),(.int .u8 0),(.int .u8 0),(.int .u8 0),(.int .u8 0),(.int .u8 0),(.int .u8 0),(.int .u8 0),(.int .u8 0),(.int .u8 0),(.int .u8 0),(.int .u8 0),(.int .u8 0),(.int .u8 0),(.int .u8 0),(.int .u8 0),(.int .u8 0),(.int .u8 0),(.int .u8 0),(.int .u8 0),(.int .u8 0),(.int .i64 0),(.int .u8 0),(.int .u8 0),(.int .u8 0),(.int .u8 0),(.int .u8 0),(.int .u8 0),(.int .u8 0),(.int .u8 0),(.int .u8 0),(.int .u8 0),(.int .u8 0),(.int .u8 0),(.int .u8 0),(.int .u8 0),(.int .u8 0),(.int .u8 0),(.int .u8 0),(.int .u8 0),(.int .u8 0),(.int .u8 0),(.int .u64 0),(.int .u64 0),(.int .u64 0),(.int .u64 0)]),
 oo 5 (.val (.c (.int .i64 0)))] [])
 (.seq (.seq (.ops 1 false [
 oo 9 (.val (.t 0)),
 oo 10 (.eqp .ptr false (.t 9) (.c (.pointer none)))] [])
 (.cond (.t 10) (.seq (.ops 2 false [
 oo 11 (.build [(.int .i64 0),(.int .i64 0),(.int .u8 0),(.int .u8 0),(.int .u8 0),(.int .u8 0),(.int .u8 0),(.int .u8 0),(.int .u8 0),(.int .u8 0),(.int .u8 0),(.int .u8 0),(.int .u8 0),(.int .u8 0),(.int .u8 0),(.int .u8 0),(.int .u8 0),(.int .u8 0),(.int .u8 0),(.int .u8 0),(.int .u8 0),(.int .u8 0),(.int .i64 0),(.int .u8 0),(.int .u8 0),(.int .u8 0),(.int .u8 0),(.int .u8 0),(.int .u8 0),(.int .u8 0),(.int .u8 0),(.int .u8 0),(.int .u8 0),(.int .u8 0),(.int .u8 0),(.int .u8 0),(.int .u8 0),(.int .u8 0),(.int .u8 0),(.int .u8 0),(.int .u8 0),(.int .u8 0),(.int .u8 0),(.int .u64 0),(.int .u64 0),(.int .u64 0),(.int .u64 0)] []),
 ⟨none,.store 47 (.t 4) (.t 11),none⟩,
 oo 5 (.val (.c (.int .i64 1)))] [])
 (.ret))
 (.skip)))
 (.seq (.seq (.ops 3 false [
 oo 12 (.val (.t 1)),
 oo 13 (.bin .lss (.t 12) (.c (.int .i64 1))),
 oo 14 (.val (.t 13)),
 ⟨some 15,.val (.t 1),some (14,false)⟩,
 ⟨some 16,.bin .gtr (.t 15) (.c (.int .i64 1099511627776)),some (14,false)⟩,
 oo 17 (.pick (.t 14) (.c (.bool true)) (.t 16))] [])
 (.cond (.t 17) (.seq (.ops 4 false [
 oo 18 (.build [(.int .i64 0),(.int .i64 0),(.int .u8 0),(.int .u8 0),(.int .u8 0),(.int .u8 0),(.int .u8 0),(.int .u8 0),(.int .u8 0),(.int .u8 0),(.int .u8 0),(.int .u8 0),(.int .u8 0),(.int .u8 0),(.int .u8 0),(.int .u8 0),(.int .u8 0),(.int .u8 0),(.int .u8 0),(.int .u8 0),(.int .u8 0),(.int .u8 0),(.int .i64 0),(.int .u8 0),(.int .u8 0),(.int .u8 0),(.int .u8 0),(.int .u8 0),(.int .u8 0),(.int .u8 0),(.int .u8 0),(.int .u8 0),(.int .u8 0),(.int .u8 0),(.int .u8 0),(.int .u8 0),(.int .u8 0),(.int .u8 0),(.int .u8 0),(.int .u8 0),(.int .u8 0),(.int .u8 0),(.int .u8 0),(.int .u64 0),(.int .u64 0),(.int .u64 0),(.int .u64 0)] []),
 ⟨none,.store 47 (.t 4) (.t 18),none⟩,
 oo 5 (.val (.c (.int .i64 90)))] [])
 (.ret))
 (.skip)))
 (.seq (.ops 5 false [
 oo 20 (.val (.t 0)),
 oo 21 (.val (.t 1)),
 oo 22 (.call 89 [.t 21]),
 oo 23 (.call 92 [.t 20,.t 22]),
 oo 19 (.val (.t 23)),
 oo 24 (.extract 0 (.t 19)),
 oo 25 (.extract 1 (.t 19)),
 oo 6 (.val (.t 24)),
 oo 7 (.val (.t 25))] [])
 (.seq (.seq (.ops 6 false [
 oo 26 (.val (.t 7)),
 oo 27 (.bin .neq (.t 26) (.c (.int .i64 0)))] [])
 (.cond (.t 27) (.seq (.ops 7 false [
 oo 28 (.build [(.int .i64 0),(.int .i64 0),(.int .u8 0),(.int .u8 0),(.int .u8 0),(.int .u8 0),(.int .u8 0),(.int .u8 0),(.int .u8 0),(.int .u8 0),(.int .u8 0),(.int .u8 0),(.int .u8 0),(.int .u8 0),(.int .u8 0),(.int .u8 0),(.int .u8 0),(.int .u8 0),(.int .u8 0),(.int .u8 0),(.int .u8 0),(.int .u8 0),(.int .i64 0),(.int .u8 0),(.int .u8 0),(.int .u8 0),(.int .u8 0),(.int .u8 0),(.int .u8 0),(.int .u8 0),(.int .u8 0),(.int .u8 0),(.int .u8 0),(.int .u8 0),(.int .u8 0),(.int .u8 0),(.int .u8 0),(.int .u8 0),(.int .u8 0),(.int .u8 0),(.int .u8 0),(.int .u8 0),(.int .u8 0),(.int .u64 0),(.int .u64 0),(.int .u64 0),(.int .u64 0)] []),
 oo 29 (.val (.t 7)),
 ⟨none,.store 47 (.t 4) (.t 28),none⟩,
 oo 5 (.val (.t 29))] [])
 (.ret))
 (.skip)))
 (.seq (.seq (.ops 8 false [
 oo 30 (.val (.t 6)),
 oo 31 (.len (.t 30)),
 oo 32 (.bin .eql (.t 31) (.c (.int .i64 0)))] [])
 (.cond (.t 32) (.seq (.ops 9 false [
 oo 33 (.build [(.int .i64 0),(.int .i64 0),(.int .u8 0),(.int .u8 0),(.int .u8 0),(.int .u8 0),(.int .u8 0),(.int .u8 0),(.int .u8 0),(.int .u8 0),(.int .u8 0),(.int .u8 0),(.int .u8 0),(.int .u8 0),(.int .u8 0),(.int .u8 0),(.int .u8 0),(.int .u8 0),(.int .u8 0),(.int .u8 0),(.int .u8 0),(.int .u8 0),(.int .i64 0),(.int .u8 0),(.int .u8 0),(.int .u8 0),(.int .u8 0),(.int .u8 0),(.int .u8 0),(.int .u8 0),(.int .u8 0),(.int .u8 0),(.int .u8 0),(.int .u8 0),(.int .u8 0),(.int .u8 0),(.int .u8 0),(.int .u8 0),(.int .u8 0),(.int .u8 0),(.int .u8 0),(.int .u8 0),(.int .u8 0),(.int .u64 0),(.int .u64 0),(.int .u64 0),(.int .u64 0)] []),
 ⟨none,.store 47 (.t 4) (.t 33),none⟩,
 oo 5 (.val (.c (.int .i64 90)))] [])
 (.ret))
 (.skip)))
 (.seq (.seq (.ops 10 false [
 oo 34 (.val (.t 6)),
 oo 35 (.len (.t 34)),
 oo 36 (.bin .neq (.t 35) (.c (.int .i64 81)))] [])
 (.cond (.t 36) (.seq (.ops 11 false [
 oo 37 (.build [(.int .i64 0),(.int .i64 0),(.int .u8 0),(.int .u8 0),(.int .u8 0),(.int .u8 0),(.int .u8 0),(.int .u8 0),(.int .u8 0),(.int .u8 0),(.int .u8 0),(.int .u8 0),(.int .u8 0),(.int .u8 0),(.int .u8 0),(.int .u8 0),(.int .u8 0),(.int .u8 0),(.int .u8 0),(.int .u8 0),(.int .u8 0),(.int .u8 0),(.int .i64 0),(.int .u8 0),(.int .u8 0),(.int .u8 0),(.int .u8 0),(.int .u8 0),(.int .u8 0),(.int .u8 0),(.int .u8 0),(.int .u8 0),(.int .u8 0),(.int .u8 0),(.int .u8 0),(.int .u8 0),(.int .u8 0),(.int .u8 0),(.int .u8 0),(.int .u8 0),(.int .u8 0),(.int .u8 0),(.int .u8 0),(.int .u64 0),(.int .u64 0),(.int .u64 0),(.int .u64 0)] []),
 ⟨none,.store 47 (.t 4) (.t 37),none⟩,
 oo 5 (.val (.c (.int .i64 75)))] [])
 (.ret))
 (.skip)))
 (.seq (.ops 12 true [
 oo 38 (.val (.t 1)),
 oo 39 (.val (.t 6)),
 oo 40 (.call 93 [.t 39]),
 oo 41 (.val (.t 6)),
 oo 42 (.indexS 1 (.t 41) (.c (.int .i64 28))),
 oo 43 (.load (.t 42)),
 oo 44 (.conv .i64 (.t 43)),
 oo 45 (.build [(.int .i64 0),(.int .i64 0),(.int .u8 0),(.int .u8 0),(.int .u8 0),(.int .u8 0),(.int .u8 0),(.int .u8 0),(.int .u8 0),(.int .u8 0),(.int .u8 0),(.int .u8 0),(.int .u8 0),(.int .u8 0),(.int .u8 0),(.int .u8 0),(.int .u8 0),(.int .u8 0),(.int .u8 0),(.int .u8 0),(.int .u8 0),(.int .u8 0),(.int .i64 0),(.int .u8 0),(.int .u8 0),(.int .u8 0),(.int .u8 0),(.int .u8 0),(.int .u8 0),(.int .u8 0),(.int .u8 0),(.int .u8 0),(.int .u8 0),(.int .u8 0),(.int .u8 0),(.int .u8 0),(.int .u8 0),(.int .u8 0),(.int .u8 0),(.int .u8 0),(.int .u8 0),(.int .u8 0),(.int .u8 0),(.int .u64 0),(.int .u64 0),(.int .u64 0),(.int .u64 0)] [(0,1,(.t 38)),(1,1,(.t 40)),(22,1,(.t 44))]),
 oo 8 (.alloc 40 [(.int .i64 0),(.int .i64 0),(.int .u8 0),(.int .u8 0),(.int .u8 0),(.int .u8 0),(.int .u8 0),(.int .u8 0),(.int .u8 0),(.int .u8 0),(.int .u8 0),(.int .u8 0),(.int .u8 0),(.int .u8 0),(.int .u8 0),(.int .u8 0),(.int .u8 0),(.int .u8 0),(.int .u8 0),(.int .u8 0),(.int .u8 0),(.int .u8 0),(.int .i64 0),(.int .u8 0),(.int .u8 0),(.int .u8 0),(.int .u8 0),(.int .u8 0),(.int .u8 0),(.int .u8 0),(.int .u8 0),(.int .u8 0),(.int .u8 0),(.int .u8 0),(.int .u8 0),(.int .u8 0),(.int .u8 0),(.int .u8 0),(.int .u8 0),(.int .u8 0),(.int .u8 0),(.int .u8 0),(.int .u8 0),(.int .u64 0),(.int .u64 0),(.int .u64 0),(.int .u64 0)]),
 ⟨none,.store 47 (.t 8) (.t 45),none⟩] [([],[]),([],[]),([1],[1]),([],[]),([3],[3]),([4],[4]),([5],[5]),([0,2,6],[0,2,6]),([],[]),([8,7,2,0,1,2,3,4,5,6,7,8],[7,8])])
 (.seq (.ops 13 true [
 oo 46 (.fieldA 2 (.t 8)),
 oo 47 (.sliceA 20 1 (.t 46) none none),
 oo 48 (.val (.t 6)),
 oo 49 (.slice 1 (.t 48) (some (.c (.int .i64 8))) (some (.c (.int .i64 28))) none),
 oo 50 (.blt .copy #[97,97] 3 [.t 47,.t 49])] [([],[]),([0],[0]),([],[]),([2],[2]),([1,3],[1,3])])
 (.seq (.ops 14 true [
 oo 51 (.fieldA 23 (.t 8)),
 oo 52 (.sliceA 20 1 (.t 51) none none),
 oo 53 (.val (.t 6)),
 oo 54 (.slice 1 (.t 53) (some (.c (.int .i64 29))) (some (.c (.int .i64 49))) none),
 oo 55 (.blt .copy #[97,97] 3 [.t 52,.t 54])] [([],[]),([0],[0]),([],[]),([2],[2]),([1,3],[1,3])])
 (.seq (.ops 15 false [
 oo 57 (.val (.t 6)),
 oo 58 (.slice 1 (.t 57) (some (.c (.int .i64 49))) none none),
 oo 59 (.call 94 [.t 58]),
 oo 56 (.val (.t 59)),
 oo 60 (.extract 0 (.t 56)),
 oo 61 (.extract 1 (.t 56)),
 oo 62 (.fieldA 43 (.t 8)),
 ⟨none,.store 4 (.t 62) (.t 60),none⟩] [])
 (.seq (.seq (.ops 16 false [
 oo 63 (.loadN 47 (.t 8)),
 oo 64 (.call 87 [.t 63]),
 oo 65 (.not (.t 64))] [])
 (.cond (.t 65) (.seq (.ops 17 false [
 oo 66 (.build [(.int .i64 0),(.int .i64 0),(.int .u8 0),(.int .u8 0),(.int .u8 0),(.int .u8 0),(.int .u8 0),(.int .u8 0),(.int .u8 0),(.int .u8 0),(.int .u8 0),(.int .u8 0),(.int .u8 0),(.int .u8 0),(.int .u8 0),(.int .u8 0),(.int .u8 0),(.int .u8 0),(.int .u8 0),(.int .u8 0),(.int .u8 0),(.int .u8 0),(.int .i64 0),(.int .u8 0),(.int .u8 0),(.int .u8 0),(.int .u8 0),(.int .u8 0),(.int .u8 0),(.int .u8 0),(.int .u8 0),(.int .u8 0),(.int .u8 0),(.int .u8 0),(.int .u8 0),(.int .u8 0),(.int .u8 0),(.int .u8 0),(.int .u8 0),(.int .u8 0),(.int .u8 0),(.int .u8 0),(.int .u8 0),(.int .u64 0),(.int .u64 0),(.int .u64 0),(.int .u64 0)] []),
 ⟨none,.store 47 (.t 4) (.t 66),none⟩,
 oo 5 (.val (.c (.int .i64 75)))] [])
 (.ret))
 (.skip)))
 (.seq (.ops 18 false [
 oo 67 (.loadN 47 (.t 8)),
 ⟨none,.store 47 (.t 4) (.t 67),none⟩,
 oo 5 (.val (.c (.int .i64 0)))] [])
 (.ret)))))))))))))
def rs39 : List RR := [.cell 4 (some 47), .tmp 5]
theorem fun39 : FunR Tryz.prog 39 rc39 rs39 68 := ⟨Tryz.f39, Tryz.func39, by kernel_rfl, by kernel_rfl, by kernel_rfl⟩
/-- causeway/causewayref09.Made -/
def rc40 : RC :=
 .seq (.ops 0 false [
 oo 2 (.val (.c (.int .i64 0))),
 oo 3 (.val (.c (.int .i64 0)))] [])
 (.seq (.seq (.ops 1 false [
 oo 7 (.val (.t 0)),
 oo 8 (.eqp .ptr false (.t 7) (.c (.pointer none)))] [])
 (.cond (.t 8) (.seq (.ops 2 false [
 oo 2 (.val (.c (.int .i64 0))),
 oo 3 (.val (.c (.int .i64 1)))] [])
 (.ret))
 (.skip)))
 (.seq (.ops 3 false [
 oo 10 (.val (.t 0)),
 oo 11 (.call 92 [(.t 10),(.c (.string ⟨#[110,116]⟩))]),
 oo 9 (.val (.t 11)),
 oo 12 (.extract 0 (.t 9)),
 oo 13 (.extract 1 (.t 9)),
 oo 4 (.val (.t 12)),
 oo 5 (.val (.t 13))] [])
 (.seq (.seq (.ops 4 false [
 oo 14 (.val (.t 5)),
 oo 15 (.bin .neq (.t 14) (.c (.int .i64 0))),
 oo 16 (.val (.t 15)),
 ⟨some 17,.val (.t 4),some (16,false)⟩,
 ⟨some 18,.len (.t 17),some (16,false)⟩,
 ⟨some 19,.bin .eql (.t 18) (.c (.int .i64 0)),some (16,false)⟩,
 oo 20 (.pick (.t 16) (.c (.bool true)) (.t 19))] [])
 (.cond (.t 20) (.seq (.ops 5 false [
 oo 21 (.val (.t 5)),
 oo 2 (.val (.c (.int .i64 0))),
 oo 3 (.val (.t 21))] [])
 (.ret))
 (.skip)))
 (.seq (.seq (.ops 6 false [
 oo 22 (.val (.t 4)),
 oo 23 (.len (.t 22)),
 oo 24 (.bin .neq (.t 23) (.c (.int .i64 8)))] [])
 (.cond (.t 24) (.seq (.ops 7 false [
 oo 2 (.val (.c (.int .i64 0))),
 oo 3 (.val (.c (.int .i64 75)))] [])
 (.ret))
 (.skip)))
 (.seq (.ops 8 false [
 oo 25 (.val (.t 4)),
 oo 26 (.call 93 [.t 25]),
 oo 6 (.val (.t 26))] [])
 (.seq (.seq (.ops 9 false [
 oo 27 (.val (.t 6)),
 oo 28 (.bin .lss (.t 27) (.c (.int .i64 1))),
 oo 29 (.val (.t 28)),
 ⟨some 30,.val (.t 6),some (29,false)⟩,
 ⟨some 31,.bin .gtr (.t 30) (.c (.int .i64 1099511627776)),some (29,false)⟩,
 oo 32 (.pick (.t 29) (.c (.bool true)) (.t 31))] [])
 (.cond (.t 32) (.seq (.ops 10 false [
 oo 2 (.val (.c (.int .i64 0))),
 oo 3 (.val (.c (.int .i64 75)))] [])
 (.ret))
 (.skip)))
 (.seq (.ops 11 false [
 oo 33 (.val (.t 6)),
 oo 2 (.val (.t 33)),
 oo 3 (.val (.c (.int .i64 0)))] [])
 (.ret))))))))
def rs40 : List RR := [.tmp 2, .tmp 3]
theorem fun40 : FunR Tryz.prog 40 rc40 rs40 34 := ⟨Tryz.f40, Tryz.func40, by kernel_rfl, by kernel_rfl, by kernel_rfl⟩
/-- causeway/causewayref09.Retry -/
def rc41 : RC :=
 .seq (.ops 0 false [
 oo 4 (.val (.c (.int .i64 0)))] [])
 (.seq (.ops 1 false [
 oo 8 (.val (.t 0)),
 oo 9 (.val (.t 1)),
 oo 10 (.call 39 [.t 8,.t 9]),
 oo 7 (.val (.t 10)),
 oo 11 (.extract 0 (.t 7)),
 oo 12 (.extract 1 (.t 7)),
 oo 5 (.alloc 40 [(.int .i64 0),(.int .i64 0),(.int .u8 0),(.int .u8 0),(.int .u8 0),(.int .u8 0),(.int .u8 0),(.int .u8 0),(.int .u8 0),(.int .u8 0),(.int .u8 0),(.int .u8 0),(.int .u8 0),(.int .u8 0),(.int .u8 0),(.int .u8 0),(.int .u8 0),(.int .u8 0),(.int .u8 0),(.int .u8 0),(.int .u8 0),(.int .u8 0),(.int .i64 0),(.int .u8 0),(.int .u8 0),(.int .u8 0),(.int .u8 0),(.int .u8 0),(.int .u8 0),(.int .u8 0),(.int .u8 0),(.int .u8 0),(.int .u8 0),(.int .u8 0),(.int .u8 0),(.int .u8 0),(.int .u8 0),(.int .u8 0),(.int .u8 0),(.int .u8 0),(.int .u8 0),(.int .u8 0),(.int .u8 0),(.int .u64 0),(.int .u64 0),(.int .u64 0),(.int .u64 0)]),
 ⟨none,.store 47 (.t 5) (.t 11),none⟩,
 oo 6 (.val (.t 12))] [])
 (.seq (.seq (.ops 2 false [
 oo 13 (.val (.t 6)),
 oo 14 (.bin .neq (.t 13) (.c (.int .i64 0)))] [])
 (.cond (.t 14) (.seq (.ops 3 false [
 oo 15 (.val (.t 6)),
 oo 4 (.val (.t 15))] [])
 (.ret))
 (.skip)))
 (.seq (.ops 4 false [
 oo 16 (.val (.t 0)),
 oo 17 (.fieldA 22 (.t 5)),
 oo 18 (.load (.t 17)),
 oo 19 (.fieldA 23 (.t 5)),
 oo 20 (.loadN 20 (.t 19)),
 oo 21 (.fieldA 43 (.t 5)),
 oo 22 (.loadN 4 (.t 21)),
 oo 23 (.call 68 [.t 16,.t 18,.t 20,.t 22]),
 oo 6 (.val (.t 23))] [])
 (.seq (.seq (.ops 5 false [
 oo 24 (.val (.t 6)),
 oo 25 (.bin .neq (.t 24) (.c (.int .i64 0)))] [])
 (.cond (.t 25) (.seq (.ops 6 false [
 oo 26 (.val (.t 6)),
 oo 4 (.val (.t 26))] [])
 (.ret))
 (.skip)))
 (.seq (.ops 7 false [
 oo 27 (.val (.t 0)),
 oo 28 (.val (.t 1)),
 oo 29 (.call 89 [.t 28]),
 oo 30 (.call 88 [(.t 27),(.t 29),(.c (.slice none 0 0))]),
 oo 4 (.val (.t 30))] [])
 (.ret))))))
def rs41 : List RR := [.tmp 4]
theorem fun41 : FunR Tryz.prog 41 rc41 rs41 31 := ⟨Tryz.f41, Tryz.func41, by kernel_rfl, by kernel_rfl, by kernel_rfl⟩
/-- causeway/causewayref09.Cancel -/
def rc42 : RC :=
 .seq (.ops 0 false [
 oo 5 (.box 35 (.t 2)),
 oo 6 (.alloc 40 [(.int .i64 0),(.int .i64 0),(.int .u8 0),(.int .u8 0),(.int .u8 0),(.int .u8 0),(.int .u8 0),(.int .u8 0),(.int .u8 0),(.int .u8 0),(.int .u8 0),(.int .u8 0),(.int .u8 0),(.int .u8 0),(.int .u8 0),(.int .u8 0),(.int .u8 0),(.int .u8 0),(.int .u8 0),(.int .u8 0),(.int .u8 0),(.int .u8 0),(.int .i64 0),(.int .u8 0),(.int .u8 0),(.int .u8 0),(.int .u8 0),(.int .u8 0),(.int .u8 0),(.int .u8 0),(.int .u8 0),(.int .u8 0),(.int .u8 0),(.int .u8 0),(.int .u8 0),(.int .u8 0),(.int .u8 0),(.int .u8 0),(.int .u8 0),(.int .u8 0),(.int .u8 0),(.int .u8 0),(.int .u8 0),(.int .u64 0),(.int .u64 0),(.int .u64 0),(.int .u64 0)]),
 oo 7 (.val (.c (.int .i64 0)))] [])
 (.seq (.ops 1 false [
 oo 11 (.val (.t 0)),
 oo 12 (.val (.t 1)),
 oo 13 (.call 39 [.t 11,.t 12]),
 oo 10 (.val (.t 13)),
 oo 14 (.extract 0 (.t 10)),
 oo 15 (.extract 1 (.t 10)),
 oo 8 (.alloc 40 [(.int .i64 0),(.int .i64 0),(.int .u8 0),(.int .u8 0),(.int .u8 0),(.int .u8 0),(.int .u8 0),(.int .u8 0),(.int .u8 0),(.int .u8 0),(.int .u8 0),(.int .u8 0),(.int .u8 0),(.int .u8 0),(.int .u8 0),(.int .u8 0),(.int .u8 0),(.int .u8 0),(.int .u8 0),(.int .u8 0),(.int .u8 0),(.int .u8 0),(.int .i64 0),(.int .u8 0),(.int .u8 0),(.int .u8 0),(.int .u8 0),(.int .u8 0),(.int .u8 0),(.int .u8 0),(.int .u8 0),(.int .u8 0),(.int .u8 0),(.int .u8 0),(.int .u8 0),(.int .u8 0),(.int .u8 0),(.int .u8 0),(.int .u8 0),(.int .u8 0),(.int .u8 0),(.int .u8 0),(.int .u8 0),(.int .u64 0),(.int .u64 0),(.int .u64 0),(.int .u64 0)]),
 ⟨none,.store 47 (.t 8) (.t 14),none⟩,
 oo 9 (.val (.t 15))] [])
 (.seq (.seq (.ops 2 false [
 oo 16 (.val (.t 9)),
 oo 17 (.bin .neq (.t 16) (.c (.int .i64 0)))] [])
 (.cond (.t 17) (.seq (.ops 3 false [
 oo 18 (.build [(.int .i64 0),(.int .i64 0),(.int .u8 0),(.int .u8 0),(.int .u8 0),(.int .u8 0),(.int .u8 0),(.int .u8 0),(.int .u8 0),(.int .u8 0),(.int .u8 0),(.int .u8 0),(.int .u8 0),(.int .u8 0),(.int .u8 0),(.int .u8 0),(.int .u8 0),(.int .u8 0),(.int .u8 0),(.int .u8 0),(.int .u8 0),(.int .u8 0),(.int .i64 0),(.int .u8 0),(.int .u8 0),(.int .u8 0),(.int .u8 0),(.int .u8 0),(.int .u8 0),(.int .u8 0),(.int .u8 0),(.int .u8 0),(.int .u8 0),(.int .u8 0),(.int .u8 0),(.int .u8 0),(.int .u8 0),(.int .u8 0),(.int .u8 0),(.int .u8 0),(.int .u8 0),(.int .u8 0),(.int .u8 0),(.int .u64 0),(.int .u64 0),(.int .u64 0),(.int .u64 0)] []),
 oo 19 (.val (.t 9)),
 ⟨none,.store 47 (.t 6) (.t 18),none⟩,
 oo 7 (.val (.t 19))] [])
 (.ret))
 (.skip)))
 (.seq (.seq (.ops 4 false [
 oo 20 (.fieldA 2 (.t 8)),
 oo 21 (.loadN 20 (.t 20)),
 oo 22 (.loadN 20 (.t 5)),
 oo 23 (.eqn true 35 (.t 21) (.t 22))] [])
 (.cond (.t 23) (.seq (.ops 5 false [
 oo 24 (.build [(.int .i64 0),(.int .i64 0),(.int .u8 0),(.int .u8 0),(.int .u8 0),(.int .u8 0),(.int .u8 0),(.int .u8 0),(.int .u8 0),(.int .u8 0),(.int .u8 0),(.int .u8 0),(.int .u8 0),(.int .u8 0),(.int .u8 0),(.int .u8 0),(.int .u8 0),(.int .u8 0),(.int .u8 0),(.int .u8 0),(.int .u8 0),(.int .u8 0),(.int .i64 0),(.int .u8 0),(.int .u8 0),(.int .u8 0),(.int .u8 0),(.int .u8 0),(.int .u8 0),(.int .u8 0),(.int .u8 0),(.int .u8 0),(.int .u8 0),(.int .u8 0),(.int .u8 0),(.int .u8 0),(.int .u8 0),(.int .u8 0),(.int .u8 0),(.int .u8 0),(.int .u8 0),(.int .u8 0),(.int .u8 0),(.int .u64 0),(.int .u64 0),(.int .u64 0),(.int .u64 0)] []),
 ⟨none,.store 47 (.t 6) (.t 24),none⟩,
 oo 7 (.val (.c (.int .i64 91)))] [])
 (.ret))
 (.skip)))
 (.seq (.ops 6 false [
 oo 25 (.val (.t 0)),
 oo 26 (.val (.t 1)),
 oo 27 (.call 89 [.t 26]),
 oo 28 (.call 88 [(.t 25),(.t 27),(.c (.slice none 0 0))]),
 oo 9 (.val (.t 28))] [])
 (.seq (.seq (.ops 7 false [
 oo 29 (.val (.t 9)),
 oo 30 (.bin .neq (.t 29) (.c (.int .i64 0)))] [])
 (.cond (.t 30) (.seq (.ops 8 false [
 oo 31 (.build [(.int .i64 0),(.int .i64 0),(.int .u8 0),(.int .u8 0),(.int .u8 0),(.int .u8 0),(.int .u8 0),(.int .u8 0),(.int .u8 0),(.int .u8 0),(.int .u8 0),(.int .u8 0),(.int .u8 0),(.int .u8 0),(.int .u8 0),(.int .u8 0),(.int .u8 0),(.int .u8 0),(.int .u8 0),(.int .u8 0),(.int .u8 0),(.int .u8 0),(.int .i64 0),(.int .u8 0),(.int .u8 0),(.int .u8 0),(.int .u8 0),(.int .u8 0),(.int .u8 0),(.int .u8 0),(.int .u8 0),(.int .u8 0),(.int .u8 0),(.int .u8 0),(.int .u8 0),(.int .u8 0),(.int .u8 0),(.int .u8 0),(.int .u8 0),(.int .u8 0),(.int .u8 0),(.int .u8 0),(.int .u8 0),(.int .u64 0),(.int .u64 0),(.int .u64 0),(.int .u64 0)] []),
 oo 32 (.val (.t 9)),
 ⟨none,.store 47 (.t 6) (.t 31),none⟩,
 oo 7 (.val (.t 32))] [])
 (.ret))
 (.skip)))
 (.seq (.ops 9 false [
 oo 33 (.loadN 47 (.t 8)),
 ⟨none,.store 47 (.t 6) (.t 33),none⟩,
 oo 7 (.val (.c (.int .i64 0)))] [])
 (.ret)))))))
def rs42 : List RR := [.cell 6 (some 47), .tmp 7]
theorem fun42 : FunR Tryz.prog 42 rc42 rs42 34 := ⟨Tryz.f42, Tryz.func42, by kernel_rfl, by kernel_rfl, by kernel_rfl⟩
/-- causeway/causewayref08.Register -/
def rc43 : RC :=
 .seq (.ops 0 false [
 oo 4 (.val (.c (.int .i64 0)))] [])
 (.seq (.ops 1 false [
 oo 8 (.val (.t 0)),
 oo 9 (.val (.t 1)),
 oo 10 (.call 73 [.t 8,.t 9]),
 oo 7 (.val (.t 10)),
 oo 11 (.extract 0 (.t 7)),
 oo 12 (.extract 1 (.t 7)),
 oo 5 (.alloc 61 [(.bool false),(.bool false),(.int .u64 0),(.int .u64 0),(.int .u64 0),(.int .u64 0)]),
 ⟨none,.store 6 (.t 5) (.t 11),none⟩,
 oo 6 (.val (.t 12))] [])
 (.seq (.seq (.ops 2 false [
 oo 13 (.val (.t 6)),
 oo 14 (.bin .neq (.t 13) (.c (.int .i64 0)))] [])
 (.cond (.t 14) (.seq (.ops 3 false [
 oo 15 (.val (.t 6)),
 oo 4 (.val (.t 15))] [])
 (.ret))
 (.skip)))
 (.seq (.seq (.ops 4 false [
 oo 16 (.fieldA 0 (.t 5)),
 oo 17 (.load (.t 16))] [])
 (.cond (.t 17) (.seq (.ops 5 false [
 oo 4 (.val (.c (.int .i64 82)))] [])
 (.ret))
 (.skip)))
 (.seq (.ops 6 false [
 oo 18 (.val (.t 0)),
 oo 19 (.val (.t 1)),
 oo 20 (.build [(.int .u64 0),(.int .u64 0),(.int .u64 0),(.int .u64 0)] []),
 oo 21 (.call 95 [(.t 18),(.t 19),(.c (.bool false)),(.t 20)]),
 oo 4 (.val (.t 21))] [])
 (.ret)))))
def rs43 : List RR := [.tmp 4]
theorem fun43 : FunR Tryz.prog 43 rc43 rs43 22 := ⟨Tryz.f43, Tryz.func43, by kernel_rfl, by kernel_rfl, by kernel_rfl⟩
/-- causeway/causewayref08.Pause -/
def rc44 : RC :=
 .seq (.ops 0 false [
 oo 4 (.val (.c (.int .i64 0)))] [])
 (.seq (.ops 1 false [
 oo 8 (.val (.t 0)),
 oo 9 (.val (.t 1)),
 oo 10 (.call 96 [(.t 8),(.t 9),(.c (.bool true))]),
 oo 7 (.val (.t 10)),
 oo 11 (.extract 0 (.t 7)),
 oo 12 (.extract 1 (.t 7)),
 oo 5 (.alloc 61 [(.bool false),(.bool false),(.int .u64 0),(.int .u64 0),(.int .u64 0),(.int .u64 0)]),
 ⟨none,.store 6 (.t 5) (.t 11),none⟩,
 oo 6 (.val (.t 12))] [])
 (.seq (.seq (.ops 2 false [
 oo 13 (.val (.t 6)),
 oo 14 (.bin .neq (.t 13) (.c (.int .i64 0)))] [])
 (.cond (.t 14) (.seq (.ops 3 false [
 oo 15 (.val (.t 6)),
 oo 4 (.val (.t 15))] [])
 (.ret))
 (.skip)))
 (.seq (.ops 4 false [
 oo 16 (.val (.t 0)),
 oo 17 (.val (.t 1)),
 oo 18 (.fieldA 2 (.t 5)),
 oo 19 (.loadN 4 (.t 18)),
 oo 20 (.call 95 [(.t 16),(.t 17),(.c (.bool true)),(.t 19)]),
 oo 4 (.val (.t 20))] [])
 (.ret))))
def rs44 : List RR := [.tmp 4]
theorem fun44 : FunR Tryz.prog 44 rc44 rs44 21 := ⟨Tryz.f44, Tryz.func44, by kernel_rfl, by kernel_rfl, by kernel_rfl⟩
/-- causeway/causewayref08.Resume -/
def rc45 : RC :=
 .seq (.ops 0 false [
 oo 4 (.val (.c (.int .i64 0)))] [])
 (.seq (.ops 1 false [
 oo 8 (.val (.t 0)),
 oo 9 (.val (.t 1)),
 oo 10 (.call 96 [(.t 8),(.t 9),(.c (.bool false))]),
 oo 7 (.val (.t 10)),
 oo 11 (.extract 0 (.t 7)),
 oo 12 (.extract 1 (.t 7)),
 oo 5 (.alloc 61 [(.bool false),(.bool false),(.int .u64 0),(.int .u64 0),(.int .u64 0),(.int .u64 0)]),
 ⟨none,.store 6 (.t 5) (.t 11),none⟩,
 oo 6 (.val (.t 12))] [])
 (.seq (.seq (.ops 2 false [
 oo 13 (.val (.t 6)),
 oo 14 (.bin .neq (.t 13) (.c (.int .i64 0)))] [])
 (.cond (.t 14) (.seq (.ops 3 false [
 oo 15 (.val (.t 6)),
 oo 4 (.val (.t 15))] [])
 (.ret))
 (.skip)))
 (.seq (.seq (.ops 4 false [
 oo 16 (.fieldA 1 (.t 5)),
 oo 17 (.load (.t 16)),
 oo 18 (.not (.t 17))] [])
 (.cond (.t 18) (.seq (.ops 5 false [
 oo 4 (.val (.c (.int .i64 84)))] [])
 (.ret))
 (.skip)))
 (.seq (.ops 6 false [
 oo 19 (.val (.t 0)),
 oo 20 (.val (.t 1)),
 oo 21 (.fieldA 2 (.t 5)),
 oo 22 (.loadN 4 (.t 21)),
 oo 23 (.call 95 [(.t 19),(.t 20),(.c (.bool false)),(.t 22)]),
 oo 4 (.val (.t 23))] [])
 (.ret)))))
def rs45 : List RR := [.tmp 4]
theorem fun45 : FunR Tryz.prog 45 rc45 rs45 24 := ⟨Tryz.f45, Tryz.func45, by kernel_rfl, by kernel_rfl, by kernel_rfl⟩
/-- (*causeway/causewayref07.State).Mark -/
def rc46 : RC :=
 .seq (.ops 0 false [
 oo 2 (.val (.c (.int .i64 0)))] [])
 (.seq (.ops 1 true [
 oo 3 (.val (.t 0)),
 oo 4 (.val (.t 0)),
 oo 5 (.nilCheck (.t 4)),
 oo 6 (.fieldA 5 (.t 5)),
 oo 7 (.load (.t 6)),
 oo 8 (.val (.t 0)),
 oo 9 (.nilCheck (.t 8)),
 oo 10 (.fieldA 4 (.t 9)),
 oo 11 (.load (.t 10)),
 oo 12 (.len (.t 11)),
 oo 13 (.buildS 3 1 [(.int .i64 0)] [(0,1,(.t 12))]),
 oo 14 (.blt .append #[73,73] 73 [.t 7,.t 13]),
 oo 15 (.nilCheck (.t 3)),
 oo 16 (.fieldA 5 (.t 15)),
 ⟨none,.store 1 (.t 16) (.t 14),none⟩] [([],[]),([],[]),([1],[1]),([2],[2]),([3],[3]),([],[]),([5],[5]),([6],[6]),([7],[7]),([8],[8]),([9],[9]),([4,10],[4,10]),([0,0,1,2,3,4,5,6,7,8,9,10,11],[0]),([12,0,1,2,3,4,5,6,7,8,9,10,11],[12]),([13,11,11,0,1,2,3,4,5,6,7,8,9,10,11],[11,13])])
 (.seq (.ops 2 false [
 oo 17 (.val (.t 0)),
 oo 18 (.nilCheck (.t 17)),
 oo 19 (.fieldA 5 (.t 18)),
 oo 20 (.load (.t 19)),
 oo 21 (.len (.t 20)),
 oo 22 (.bin .sub (.t 21) (.c (.int .i64 1))),
 oo 2 (.val (.t 22))] [])
 (.ret)))
def rs46 : List RR := [.tmp 2]
theorem fun46 : FunR Tryz.prog 46 rc46 rs46 23 := ⟨Tryz.f46, Tryz.func46, by kernel_rfl, by kernel_rfl, by kernel_rfl⟩
/-- (*causeway/causewayref07.State).Back -/
def rc47 : RC :=
 .seq (.ops 0 false [
 oo 4 (.val (.c (.int .i64 0)))] [])
 (.seq (.seq (.ops 1 false [
 oo 5 (.val (.t 1)),
 oo 6 (.bin .lss (.t 5) (.c (.int .i64 0))),
 oo 7 (.val (.t 6)),
 ⟨some 8,.val (.t 1),some (7,false)⟩,
 ⟨some 9,.val (.t 0),some (7,false)⟩,
 ⟨some 10,.nilCheck (.t 9),some (7,false)⟩,
 ⟨some 11,.fieldA 5 (.t 10),some (7,false)⟩,
 ⟨some 12,.load (.t 11),some (7,false)⟩,
 ⟨some 13,.len (.t 12),some (7,false)⟩,
 ⟨some 14,.bin .geq (.t 8) (.t 13),some (7,false)⟩,
 oo 15 (.pick (.t 7) (.c (.bool true)) (.t 14))] [])
 (.cond (.t 15) (.seq (.ops 2 false [
 oo 4 (.val (.c (.int .i64 72)))] [])
 (.ret))
 (.skip)))
 (.seq (.ops 3 true [
 oo 16 (.val (.t 0)),
 oo 17 (.val (.t 0)),
 oo 18 (.nilCheck (.t 17)),
 oo 19 (.fieldA 4 (.t 18)),
 oo 20 (.load (.t 19)),
 oo 21 (.val (.t 0)),
 oo 22 (.nilCheck (.t 21)),
 oo 23 (.fieldA 5 (.t 22)),
 oo 24 (.load (.t 23)),
 oo 25 (.val (.t 1)),
 oo 26 (.indexS 1 (.t 24) (.t 25)),
 oo 27 (.load (.t 26)),
 oo 28 (.slice 2 (.t 20) none (some (.t 27)) none),
 oo 29 (.nilCheck (.t 16)),
 oo 30 (.fieldA 4 (.t 29)),
 ⟨none,.store 1 (.t 30) (.t 28),none⟩] [([],[]),([],[]),([1],[1]),([2],[2]),([3],[3]),([],[]),([5],[5]),([6],[6]),([7],[7]),([],[]),([8,9],[8,9]),([10],[10]),([4,11],[4,11]),([0,0,1,2,3,4,5,6,7,8,9,10,11,12],[0]),([13,0,1,2,3,4,5,6,7,8,9,10,11,12],[13]),([14,12,0,1,2,3,4,5,6,7,8,9,10,11,12],[12,14])])
 (.seq (.ops 4 false [
 oo 31 (.val (.t 0)),
 oo 32 (.val (.t 0)),
 oo 33 (.nilCheck (.t 32)),
 oo 34 (.fieldA 5 (.t 33)),
 oo 35 (.load (.t 34)),
 oo 36 (.val (.t 1)),
 oo 37 (.bin .add (.t 36) (.c (.int .i64 1))),
 oo 38 (.slice 1 (.t 35) none (some (.t 37)) none),
 oo 39 (.nilCheck (.t 31)),
 oo 40 (.fieldA 5 (.t 39)),
 ⟨none,.store 1 (.t 40) (.t 38),none⟩] [])
 (.seq (.ops 5 false [
 oo 4 (.val (.c (.int .i64 0)))] [])
 (.ret)))))
def rs47 : List RR := [.tmp 4]
theorem fun47 : FunR Tryz.prog 47 rc47 rs47 41 := ⟨Tryz.f47, Tryz.func47, by kernel_rfl, by kernel_rfl, by kernel_rfl⟩
/-- (*causeway/store.State).value -/
def rc50 : RC :=
 .seq (.ops 0 false [
 oo 4 (.val (.c (.slice none 0 0)))] [])
 (.seq (.seq (.ops 1 false [
 oo 8 (.val (.t 0)),
 oo 9 (.nilCheck (.t 8)),
 oo 10 (.fieldA 2 (.t 9)),
 oo 11 (.load (.t 10)),
 oo 12 (.val (.t 1)),
 oo 13 (.look 71 (.t 11) (.t 12) true),
 oo 7 (.val (.t 13)),
 oo 14 (.extract 0 (.t 7)),
 oo 15 (.extract 1 (.t 7)),
 oo 5 (.val (.t 14)),
 oo 6 (.val (.t 15))] [])
 (.seq (.ops 2 false [
 oo 16 (.val (.t 6))] [])
 (.cond (.t 16) (.seq (.ops 3 false [
 oo 17 (.val (.t 5)),
 oo 4 (.val (.t 17))] [])
 (.ret))
 (.skip))))
 (.seq (.ops 4 false [
 oo 18 (.val (.t 0)),
 oo 19 (.nilCheck (.t 18)),
 oo 20 (.fieldA 1 (.t 19)),
 oo 21 (.load (.t 20)),
 oo 22 (.val (.t 1)),
 oo 23 (.look 71 (.t 21) (.t 22) false),
 oo 4 (.val (.t 23))] [])
 (.ret)))
def rs50 : List RR := [.tmp 4]
theorem fun50 : FunR Tryz.prog 50 rc50 rs50 24 := ⟨Tryz.f50, Tryz.func50, by kernel_rfl, by kernel_rfl, by kernel_rfl⟩
/-- bytes.Equal -/
def rc51 : RC :=
 .seq (.ops 0 false [
 oo 4 (.val (.c (.bool false)))] [])
 (.seq (.ops 1 false [
 oo 5 (.val (.t 0)),
 oo 6 (.cvt 97 9 (.t 5)),
 oo 7 (.val (.t 1)),
 oo 8 (.cvt 97 9 (.t 7)),
 oo 9 (.eqp .str false (.t 6) (.t 8)),
 oo 4 (.val (.t 9))] [])
 (.ret))
def rs51 : List RR := [.tmp 4]
theorem fun51 : FunR Tryz.prog 51 rc51 rs51 10 := ⟨Tryz.f51, Tryz.func51, by kernel_rfl, by kernel_rfl, by kernel_rfl⟩
/-- slices.Clone[[]byte,byte] -/
def rc52 : RC :=
 .seq (.ops 0 false [
 oo 2 (.val (.c (.slice none 0 0)))] [])
 (.seq (.seq (.ops 1 false [
 oo 3 (.val (.t 0)),
 oo 4 (.eqp .slc false (.t 3) (.c (.slice none 0 0)))] [])
 (.cond (.t 4) (.seq (.ops 2 false [
 oo 2 (.val (.c (.slice none 0 0)))] [])
 (.ret))
 (.skip)))
 (.seq (.ops 3 false [
 oo 5 (.buildS 5 0 [] []),
 oo 6 (.val (.t 0)),
 oo 7 (.blt .append #[97,97] 97 [.t 5,.t 6]),
 oo 2 (.val (.t 7))] [])
 (.ret)))
def rs52 : List RR := [.tmp 2]
theorem fun52 : FunR Tryz.prog 52 rc52 rs52 8 := ⟨Tryz.f52, Tryz.func52, by kernel_rfl, by kernel_rfl, by kernel_rfl⟩
/-- (*causeway/causewayref07.State).now -/
def rc53 : RC :=
 .seq (.ops 0 false [
 oo 4 (.val (.c (.slice none 0 0)))] [])
 (.seq (.seq (.ops 1 false [
 oo 8 (.val (.t 0)),
 oo 9 (.nilCheck (.t 8)),
 oo 10 (.fieldA 4 (.t 9)),
 oo 11 (.load (.t 10)),
 oo 12 (.len (.t 11)),
 oo 13 (.bin .sub (.t 12) (.c (.int .i64 1))),
 oo 5 (.val (.t 13))] [])
 (.block 0 (.loop (.seq (.seq (.ops 2 false [
 oo 14 (.val (.t 5)),
 oo 15 (.bin .geq (.t 14) (.c (.int .i64 0)))] [])
 (.cond (.t 15) (.skip)
 (.exit 0)))
 (.seq (.block 1 (.seq (.ops 4 false [
 oo 18 (.val (.t 0)),
 oo 19 (.nilCheck (.t 18)),
 oo 20 (.fieldA 4 (.t 19)),
 oo 21 (.load (.t 20)),
 oo 22 (.val (.t 5)),
 oo 23 (.indexS 2 (.t 21) (.t 22)),
 oo 24 (.fieldA 0 (.t 23)),
 oo 25 (.load (.t 24)),
 oo 26 (.val (.t 1)),
 oo 27 (.eqp .str false (.t 25) (.t 26))] [])
 (.cond (.t 27) (.seq (.ops 5 false [
 oo 28 (.val (.t 0)),
 oo 29 (.nilCheck (.t 28)),
 oo 30 (.fieldA 4 (.t 29)),
 oo 31 (.load (.t 30)),
 oo 32 (.val (.t 5)),
 oo 33 (.indexS 2 (.t 31) (.t 32)),
 oo 34 (.fieldA 1 (.t 33)),
 oo 35 (.load (.t 34)),
 oo 4 (.val (.t 35))] [])
 (.ret))
 (.skip))))
 (.ops 3 false [
 oo 16 (.val (.t 5)),
 oo 17 (.bin .sub (.t 16) (.c (.int .i64 1))),
 oo 5 (.val (.t 17))] []))))))
 (.seq (.ops 6 false [
 oo 37 (.val (.t 0)),
 oo 38 (.nilCheck (.t 37)),
 oo 39 (.fieldA 3 (.t 38)),
 oo 40 (.load (.t 39)),
 oo 41 (.val (.t 1)),
 oo 42 (.call 100 [.t 40,.t 41]),
 oo 36 (.val (.t 42)),
 oo 43 (.extract 0 (.t 36)),
 oo 44 (.extract 1 (.t 36)),
 oo 6 (.val (.t 43)),
 oo 7 (.val (.t 44))] [])
 (.seq (.ops 7 false [
 oo 45 (.val (.t 6)),
 oo 4 (.val (.t 45))] [])
 (.ret))))
def rs53 : List RR := [.tmp 4]
theorem fun53 : FunR Tryz.prog 53 rc53 rs53 46 := ⟨Tryz.f53, Tryz.func53, by kernel_rfl, by kernel_rfl, by kernel_rfl⟩
/-- causeway/causewayref07.twin -/
def rc54 : RC :=
 .seq (.ops 0 false [
 oo 2 (.val (.c (.slice none 0 0)))] [])
 (.seq (.ops 1 false [
 oo 4 (.val (.t 0)),
 oo 5 (.len (.t 4)),
 oo 6 (.mkS 97 (.t 5) (.t 5)),
 oo 3 (.val (.t 6))] [])
 (.seq (.ops 2 false [
 oo 7 (.val (.t 3)),
 oo 8 (.val (.t 0)),
 oo 9 (.blt .copy #[97,97] 3 [.t 7,.t 8])] [])
 (.seq (.ops 3 false [
 oo 10 (.val (.t 3)),
 oo 2 (.val (.t 10))] [])
 (.ret))))
def rs54 : List RR := [.tmp 2]
theorem fun54 : FunR Tryz.prog 54 rc54 rs54 11 := ⟨Tryz.f54, Tryz.func54, by kernel_rfl, by kernel_rfl, by kernel_rfl⟩
/-- causeway/store.NewTable -/
def rc55 : RC :=
 .seq (.ops 0 false [
 oo 0 (.val (.c (.pointer none)))] [])
 (.seq (.ops 1 false [
 oo 1 (.mkMap 71),
 oo 2 (.call 101 []),
 oo 3 (.mkMap 145),
 oo 4 (.build [(.map none),(.pointer none),(.map none)] [(0,1,(.t 1)),(1,1,(.t 2)),(2,1,(.t 3))]),
 oo 5 (.box 147 (.t 4)),
 oo 0 (.val (.t 5))] [])
 (.ret))
def rs55 : List RR := [.tmp 0]
theorem fun55 : FunR Tryz.prog 55 rc55 rs55 6 := ⟨Tryz.f55, Tryz.func55, by kernel_rfl, by kernel_rfl, by kernel_rfl⟩
/-- causeway/ledger.Mint -/
def rc58 : RC :=
 .seq (.ops 0 false [
 oo 6 (.box 35 (.t 2)),
 oo 7 (.box 38 (.t 3)),
 oo 8 (.val (.c (.int .i64 0)))] [])
 (.seq (.ops 1 false [
 oo 15 (.val (.t 0)),
 oo 16 (.val (.t 1)),
 oo 17 (.call 85 [.t 15,.t 16]),
 oo 14 (.val (.t 17)),
 oo 18 (.extract 0 (.t 14)),
 oo 19 (.extract 1 (.t 14)),
 oo 9 (.alloc 61 [(.bool false),(.bool false),(.int .u64 0),(.int .u64 0),(.int .u64 0),(.int .u64 0)]),
 ⟨none,.store 6 (.t 9) (.t 18),none⟩,
 oo 10 (.val (.t 19))] [])
 (.seq (.seq (.ops 2 false [
 oo 20 (.val (.t 10)),
 oo 21 (.bin .neq (.t 20) (.c (.int .i64 0)))] [])
 (.cond (.t 21) (.seq (.ops 3 false [
 oo 22 (.val (.t 10)),
 oo 8 (.val (.t 22))] [])
 (.ret))
 (.skip)))
 (.seq (.seq (.ops 4 false [
 oo 24 (.fieldA 2 (.t 9)),
 oo 25 (.loadN 4 (.t 24)),
 oo 26 (.loadN 4 (.t 7)),
 oo 27 (.call 105 [.t 25,.t 26]),
 oo 23 (.val (.t 27)),
 oo 28 (.extract 0 (.t 23)),
 oo 29 (.extract 1 (.t 23)),
 oo 30 (.fieldA 2 (.t 9)),
 ⟨none,.store 4 (.t 30) (.t 28),none⟩,
 oo 10 (.val (.t 29))] [])
 (.seq (.ops 5 false [
 oo 31 (.val (.t 10)),
 oo 32 (.bin .neq (.t 31) (.c (.int .i64 0)))] [])
 (.cond (.t 32) (.seq (.ops 6 false [
 oo 8 (.val (.c (.int .i64 87)))] [])
 (.ret))
 (.skip))))
 (.seq (.ops 7 false [
 oo 33 (.val (.t 1)),
 oo 34 (.loadN 20 (.t 6)),
 oo 35 (.call 106 [.t 33,.t 34]),
 oo 11 (.val (.t 35))] [])
 (.seq (.ops 8 false [
 oo 37 (.val (.t 0)),
 oo 38 (.val (.t 11)),
 oo 39 (.call 107 [.t 37,.t 38]),
 oo 36 (.val (.t 39)),
 oo 40 (.extract 0 (.t 36)),
 oo 41 (.extract 1 (.t 36)),
 oo 12 (.alloc 38 [(.int .u64 0),(.int .u64 0),(.int .u64 0),(.int .u64 0)]),
 ⟨none,.store 4 (.t 12) (.t 40),none⟩,
 oo 10 (.val (.t 41))] [])
 (.seq (.seq (.ops 9 false [
 oo 42 (.val (.t 10)),
 oo 43 (.bin .neq (.t 42) (.c (.int .i64 0)))] [])
 (.cond (.t 43) (.seq (.ops 10 false [
 oo 44 (.val (.t 10)),
 oo 8 (.val (.t 44))] [])
 (.ret))
 (.skip)))
 (.seq (.seq (.ops 11 false [
 oo 46 (.loadN 4 (.t 12)),
 oo 47 (.loadN 4 (.t 7)),
 oo 48 (.call 105 [.t 46,.t 47]),
 oo 45 (.val (.t 48)),
 oo 49 (.extract 0 (.t 45)),
 oo 50 (.extract 1 (.t 45)),
 ⟨none,.store 4 (.t 12) (.t 49),none⟩,
 oo 10 (.val (.t 50))] [])
 (.seq (.ops 12 false [
 oo 51 (.val (.t 10)),
 oo 52 (.bin .neq (.t 51) (.c (.int .i64 0)))] [])
 (.cond (.t 52) (.seq (.ops 13 false [
 oo 8 (.val (.c (.int .i64 75)))] [])
 (.ret))
 (.skip))))
 (.seq (.seq (.ops 14 false [
 oo 53 (.loadN 4 (.t 7)),
 oo 54 (.call 108 [.t 53])] [])
 (.cond (.t 54) (.seq (.ops 15 false [
 oo 8 (.val (.c (.int .i64 0)))] [])
 (.ret))
 (.skip)))
 (.seq (.seq (.ops 16 false [
 oo 55 (.val (.t 0)),
 oo 56 (.val (.t 1)),
 oo 57 (.loadN 6 (.t 9)),
 oo 58 (.call 84 [.t 55,.t 56,.t 57]),
 oo 13 (.val (.t 58))] [])
 (.seq (.ops 17 false [
 oo 59 (.val (.t 13)),
 oo 60 (.bin .neq (.t 59) (.c (.int .i64 0)))] [])
 (.cond (.t 60) (.seq (.ops 18 false [
 oo 61 (.val (.t 13)),
 oo 8 (.val (.t 61))] [])
 (.ret))
 (.skip))))
 (.seq (.ops 19 false [
 oo 62 (.val (.t 0)),
 oo 63 (.val (.t 11)),
 oo 64 (.loadN 4 (.t 12)),
 oo 65 (.call 109 [.t 62,.t 63,.t 64]),
 oo 8 (.val (.t 65))] [])
 (.ret)))))))))))
def rs58 : List RR := [.tmp 8]
theorem fun58 : FunR Tryz.prog 58 rc58 rs58 66 := ⟨Tryz.f58, Tryz.func58, by kernel_rfl, by kernel_rfl, by kernel_rfl⟩
/-- causeway/ledger.Token -/
def rc61 : RC :=
 .seq (.ops 0 false [
 oo 4 (.alloc 61 [(.bool false),(.bool false),(.int .u64 0),(.int .u64 0),(.int .u64 0),(.int .u64 0)]),
 oo 5 (.val (.c (.int .i64 0)))] [])
 (.seq (.seq (.ops 1 false [
 oo 10 (.val (.t 0)),
 oo 11 (.val (.t 1)),
 oo 12 (.call 112 [.t 10,.t 11]),
 oo 6 (.val (.t 12))] [])
 (.seq (.ops 2 false [
 oo 13 (.val (.t 6)),
 oo 14 (.bin .neq (.t 13) (.c (.int .i64 0)))] [])
 (.cond (.t 14) (.seq (.ops 3 false [
 oo 15 (.build [(.bool false),(.bool false),(.int .u64 0),(.int .u64 0),(.int .u64 0),(.int .u64 0)] []),
 oo 16 (.val (.t 6)),
 ⟨none,.store 6 (.t 4) (.t 15),none⟩,
 oo 5 (.val (.t 16))] [])
 (.ret))
 (.skip))))
 (.seq (.ops 4 false [
 oo 18 (.val (.t 0)),
 oo 19 (.val (.t 1)),
 oo 20 (.call 113 [.t 19]),
 oo 21 (.call 81 [.t 18,.t 20]),
 oo 17 (.val (.t 21)),
 oo 22 (.extract 0 (.t 17)),
 oo 23 (.extract 1 (.t 17)),
 oo 7 (.val (.t 22)),
 oo 8 (.val (.t 23))] [])
 (.seq (.seq (.ops 5 false [
 oo 24 (.val (.t 8)),
 oo 25 (.bin .neq (.t 24) (.c (.int .i64 0))),
 oo 26 (.val (.t 25)),
 ⟨some 27,.val (.t 7),some (26,false)⟩,
 ⟨some 28,.len (.t 27),some (26,false)⟩,
 ⟨some 29,.bin .eql (.t 28) (.c (.int .i64 0)),some (26,false)⟩,
 oo 30 (.pick (.t 26) (.c (.bool true)) (.t 29))] [])
 (.cond (.t 30) (.seq (.ops 6 false [
 oo 31 (.build [(.bool false),(.bool false),(.int .u64 0),(.int .u64 0),(.int .u64 0),(.int .u64 0)] []),
 oo 32 (.val (.t 8)),
 ⟨none,.store 6 (.t 4) (.t 31),none⟩,
 oo 5 (.val (.t 32))] [])
 (.ret))
 (.skip)))
 (.seq (.ops 7 false [
 oo 34 (.val (.t 7)),
 oo 35 (.slice 1 (.t 34) (some (.c (.int .i64 1))) none none),
 oo 36 (.call 114 [.t 35]),
 oo 33 (.val (.t 36)),
 oo 37 (.extract 0 (.t 33)),
 oo 38 (.extract 1 (.t 33)),
 oo 9 (.alloc 38 [(.int .u64 0),(.int .u64 0),(.int .u64 0),(.int .u64 0)]),
 ⟨none,.store 4 (.t 9) (.t 37),none⟩,
 oo 8 (.val (.t 38))] [])
 (.seq (.seq (.ops 8 false [
 oo 39 (.val (.t 8)),
 oo 40 (.bin .neq (.t 39) (.c (.int .i64 0))),
 oo 41 (.val (.t 40)),
 ⟨some 42,.val (.t 7),some (41,false)⟩,
 ⟨some 43,.indexS 1 (.t 42) (.c (.int .i64 0)),some (41,false)⟩,
 ⟨some 44,.load (.t 43),some (41,false)⟩,
 ⟨some 45,.bin .neq (.t 44) (.c (.int .u8 1)),some (41,false)⟩,
 ⟨some 46,.val (.t 45),some (41,false)⟩,
 ⟨some 47,.val (.t 7),some (46,true)⟩,
 ⟨some 48,.indexS 1 (.t 47) (.c (.int .i64 0)),some (46,true)⟩,
 ⟨some 49,.load (.t 48),some (46,true)⟩,
 ⟨some 50,.bin .neq (.t 49) (.c (.int .u8 3)),some (46,true)⟩,
 ⟨some 51,.pick (.t 46) (.t 50) (.c (.bool false)),some (41,false)⟩,
 oo 52 (.pick (.t 41) (.c (.bool true)) (.t 51))] [])
 (.cond (.t 52) (.seq (.ops 9 false [
 oo 53 (.build [(.bool false),(.bool false),(.int .u64 0),(.int .u64 0),(.int .u64 0),(.int .u64 0)] []),
 ⟨none,.store 6 (.t 4) (.t 53),none⟩,
 oo 5 (.val (.c (.int .i64 75)))] [])
 (.ret))
 (.skip)))
 (.seq (.ops 10 true [
 oo 54 (.val (.t 7)),
 oo 55 (.indexS 1 (.t 54) (.c (.int .i64 0))),
 oo 56 (.load (.t 55)),
 oo 57 (.bin .eql (.t 56) (.c (.int .u8 3))),
 oo 58 (.loadN 4 (.t 9)),
 oo 59 (.build [(.bool false),(.bool false),(.int .u64 0),(.int .u64 0),(.int .u64 0),(.int .u64 0)] [(0,1,(.c (.bool true))),(1,1,(.t 57)),(2,4,(.t 58))]),
 ⟨none,.store 6 (.t 4) (.t 59),none⟩,
 oo 5 (.val (.c (.int .i64 0)))] [([],[]),([0],[0]),([1],[1]),([2],[2]),([],[]),([3,4],[3,4]),([5,0,1,2,3,4,5],[5]),([6,0,1,2,3,4,5,6],[])])
 (.ret)))))))
def rs61 : List RR := [.cell 4 (some 6), .tmp 5]
theorem fun61 : FunR Tryz.prog 61 rc61 rs61 60 := ⟨Tryz.f61, Tryz.func61, by kernel_rfl, by kernel_rfl, by kernel_rfl⟩
/-- causeway/causewayref07.May -/
def rc62 : RC :=
 .seq (.ops 0 false [
 oo 4 (.val (.c (.int .i64 0)))] [])
 (.seq (.seq (.ops 1 false [
 oo 5 (.val (.t 0)),
 oo 6 (.lenT (.t 5)),
 oo 7 (.bin .lss (.t 6) (.c (.int .i64 1))),
 oo 8 (.val (.t 7)),
 ⟨some 9,.val (.t 0),some (8,false)⟩,
 ⟨some 10,.lenT (.t 9),some (8,false)⟩,
 ⟨some 11,.bin .gtr (.t 10) (.c (.int .i64 128)),some (8,false)⟩,
 oo 12 (.pick (.t 8) (.c (.bool true)) (.t 11))] [])
 (.cond (.t 12) (.seq (.ops 2 false [
 oo 4 (.val (.c (.int .i64 70)))] [])
 (.ret))
 (.skip)))
 (.seq (.seq (.ops 3 false [
 oo 13 (.val (.t 1)),
 oo 14 (.len (.t 13)),
 oo 15 (.bin .gtr (.t 14) (.c (.int .i64 4096)))] [])
 (.cond (.t 15) (.seq (.ops 4 false [
 oo 4 (.val (.c (.int .i64 71)))] [])
 (.ret))
 (.skip)))
 (.seq (.ops 5 false [
 oo 4 (.val (.c (.int .i64 0)))] [])
 (.ret))))
def rs62 : List RR := [.tmp 4]
theorem fun62 : FunR Tryz.prog 62 rc62 rs62 16 := ⟨Tryz.f62, Tryz.func62, by kernel_rfl, by kernel_rfl, by kernel_rfl⟩
/-- causeway/causewayref08.Mint -/
def rc68 : RC :=
 .seq (.ops 0 false [
 oo 6 (.box 35 (.t 2)),
 oo 7 (.box 38 (.t 3)),
 oo 8 (.val (.c (.int .i64 0)))] [])
 (.seq (.ops 1 false [
 oo 15 (.val (.t 0)),
 oo 16 (.val (.t 1)),
 oo 17 (.call 96 [(.t 15),(.t 16),(.c (.bool true))]),
 oo 14 (.val (.t 17)),
 oo 18 (.extract 0 (.t 14)),
 oo 19 (.extract 1 (.t 14)),
 oo 9 (.alloc 61 [(.bool false),(.bool false),(.int .u64 0),(.int .u64 0),(.int .u64 0),(.int .u64 0)]),
 ⟨none,.store 6 (.t 9) (.t 18),none⟩,
 oo 10 (.val (.t 19))] [])
 (.seq (.seq (.ops 2 false [
 oo 20 (.val (.t 10)),
 oo 21 (.bin .neq (.t 20) (.c (.int .i64 0)))] [])
 (.cond (.t 21) (.seq (.ops 3 false [
 oo 22 (.val (.t 10)),
 oo 8 (.val (.t 22))] [])
 (.ret))
 (.skip)))
 (.seq (.ops 4 false [
 oo 24 (.fieldA 2 (.t 9)),
 oo 25 (.loadN 4 (.t 24)),
 oo 26 (.loadN 4 (.t 7)),
 oo 27 (.call 117 [.t 25,.t 26]),
 oo 23 (.val (.t 27)),
 oo 28 (.extract 0 (.t 23)),
 oo 29 (.extract 1 (.t 23)),
 oo 11 (.alloc 38 [(.int .u64 0),(.int .u64 0),(.int .u64 0),(.int .u64 0)]),
 ⟨none,.store 4 (.t 11) (.t 28),none⟩,
 oo 10 (.val (.t 29))] [])
 (.seq (.seq (.ops 5 false [
 oo 30 (.val (.t 10)),
 oo 31 (.bin .neq (.t 30) (.c (.int .i64 0)))] [])
 (.cond (.t 31) (.seq (.ops 6 false [
 oo 8 (.val (.c (.int .i64 87)))] [])
 (.ret))
 (.skip)))
 (.seq (.ops 7 false [
 oo 33 (.val (.t 0)),
 oo 34 (.val (.t 1)),
 oo 35 (.loadN 20 (.t 6)),
 oo 36 (.call 119 [.t 34,.t 35]),
 oo 37 (.call 118 [.t 33,.t 36]),
 oo 32 (.val (.t 37)),
 oo 38 (.extract 0 (.t 32)),
 oo 39 (.extract 1 (.t 32)),
 oo 12 (.alloc 38 [(.int .u64 0),(.int .u64 0),(.int .u64 0),(.int .u64 0)]),
 ⟨none,.store 4 (.t 12) (.t 38),none⟩,
 oo 10 (.val (.t 39))] [])
 (.seq (.seq (.ops 8 false [
 oo 40 (.val (.t 10)),
 oo 41 (.bin .neq (.t 40) (.c (.int .i64 0)))] [])
 (.cond (.t 41) (.seq (.ops 9 false [
 oo 42 (.val (.t 10)),
 oo 8 (.val (.t 42))] [])
 (.ret))
 (.skip)))
 (.seq (.ops 10 false [
 oo 44 (.loadN 4 (.t 12)),
 oo 45 (.loadN 4 (.t 7)),
 oo 46 (.call 117 [.t 44,.t 45]),
 oo 43 (.val (.t 46)),
 oo 47 (.extract 0 (.t 43)),
 oo 48 (.extract 1 (.t 43)),
 oo 13 (.alloc 38 [(.int .u64 0),(.int .u64 0),(.int .u64 0),(.int .u64 0)]),
 ⟨none,.store 4 (.t 13) (.t 47),none⟩,
 oo 10 (.val (.t 48))] [])
 (.seq (.seq (.ops 11 false [
 oo 49 (.val (.t 10)),
 oo 50 (.bin .neq (.t 49) (.c (.int .i64 0)))] [])
 (.cond (.t 50) (.seq (.ops 12 false [
 oo 8 (.val (.c (.int .i64 75)))] [])
 (.ret))
 (.skip)))
 (.seq (.seq (.ops 13 false [
 oo 51 (.loadN 4 (.t 7)),
 oo 52 (.call 120 [.t 51])] [])
 (.cond (.t 52) (.seq (.ops 14 false [
 oo 8 (.val (.c (.int .i64 0)))] [])
 (.ret))
 (.skip)))
 (.seq (.ops 15 false [
 oo 53 (.val (.t 0)),
 oo 54 (.val (.t 1)),
 oo 55 (.loadN 4 (.t 11)),
 oo 56 (.call 95 [(.t 53),(.t 54),(.c (.bool false)),(.t 55)]),
 oo 10 (.val (.t 56))] [])
 (.seq (.seq (.ops 16 false [
 oo 57 (.val (.t 10)),
 oo 58 (.bin .neq (.t 57) (.c (.int .i64 0)))] [])
 (.cond (.t 58) (.seq (.ops 17 false [
 oo 59 (.val (.t 10)),
 oo 8 (.val (.t 59))] [])
 (.ret))
 (.skip)))
 (.seq (.ops 18 true [
 oo 60 (.val (.t 0)),
 oo 61 (.val (.t 1)),
 oo 62 (.loadN 20 (.t 6)),
 oo 63 (.call 119 [.t 61,.t 62]),
 oo 64 (.loadN 4 (.t 13)),
 oo 65 (.call 121 [.t 60,.t 63,.t 64]),
 oo 8 (.val (.t 65))] [([],[]),([],[]),([],[]),([1,2],[1,2]),([],[]),([0,3,4,3],[0,3,4]),([5,5,0,1,2,3,4,5],[5])])
 (.ret)))))))))))))
def rs68 : List RR := [.tmp 8]
theorem fun68 : FunR Tryz.prog 68 rc68 rs68 66 := ⟨Tryz.f68, Tryz.func68, by kernel_rfl, by kernel_rfl, by kernel_rfl⟩
/-- causeway/causewayref08.Token -/
def rc73 : RC :=
 .seq (.ops 0 false [
 oo 4 (.alloc 61 [(.bool false),(.bool false),(.int .u64 0),(.int .u64 0),(.int .u64 0),(.int .u64 0)]),
 oo 5 (.val (.c (.int .i64 0)))] [])
 (.seq (.ops 1 false [
 oo 10 (.val (.t 0)),
 oo 11 (.val (.t 1)),
 oo 12 (.call 125 [.t 10,.t 11]),
 oo 6 (.val (.t 12))] [])
 (.seq (.seq (.ops 2 false [
 oo 13 (.val (.t 6)),
 oo 14 (.bin .neq (.t 13) (.c (.int .i64 0)))] [])
 (.cond (.t 14) (.seq (.ops 3 false [
 oo 15 (.build [(.bool false),(.bool false),(.int .u64 0),(.int .u64 0),(.int .u64 0),(.int .u64 0)] []),
 oo 16 (.val (.t 6)),
 ⟨none,.store 6 (.t 4) (.t 15),none⟩,
 oo 5 (.val (.t 16))] [])
 (.ret))
 (.skip)))
 (.seq (.ops 4 false [
 oo 18 (.val (.t 0)),
 oo 19 (.val (.t 1)),
 oo 20 (.call 126 [.t 19]),
 oo 21 (.call 92 [.t 18,.t 20]),
 oo 17 (.val (.t 21)),
 oo 22 (.extract 0 (.t 17)),
 oo 23 (.extract 1 (.t 17)),
 oo 7 (.val (.t 22)),
 oo 6 (.val (.t 23))] [])
 (.seq (.seq (.ops 5 false [
 oo 24 (.val (.t 6)),
 oo 25 (.bin .neq (.t 24) (.c (.int .i64 0)))] [])
 (.cond (.t 25) (.seq (.ops 6 false [
 oo 26 (.build [(.bool false),(.bool false),(.int .u64 0),(.int .u64 0),(.int .u64 0),(.int .u64 0)] []),
 oo 27 (.val (.t 6)),
 ⟨none,.store 6 (.t 4) (.t 26),none⟩,
 oo 5 (.val (.t 27))] [])
 (.ret))
 (.skip)))
 (.seq (.seq (.ops 7 false [
 oo 28 (.val (.t 7)),
 oo 29 (.len (.t 28)),
 oo 30 (.bin .eql (.t 29) (.c (.int .i64 0)))] [])
 (.cond (.t 30) (.seq (.ops 8 false [
 oo 31 (.build [(.bool false),(.bool false),(.int .u64 0),(.int .u64 0),(.int .u64 0),(.int .u64 0)] []),
 ⟨none,.store 6 (.t 4) (.t 31),none⟩,
 oo 5 (.val (.c (.int .i64 0)))] [])
 (.ret))
 (.skip)))
 (.seq (.seq (.ops 9 false [
 oo 32 (.val (.t 7)),
 oo 33 (.len (.t 32)),
 oo 34 (.bin .neq (.t 33) (.c (.int .i64 33))),
 oo 35 (.val (.t 34)),
 ⟨some 36,.val (.t 7),some (35,false)⟩,
 ⟨some 37,.indexS 1 (.t 36) (.c (.int .i64 0)),some (35,false)⟩,
 ⟨some 38,.load (.t 37),some (35,false)⟩,
 ⟨some 39,.bin .neq (.t 38) (.c (.int .u8 1)),some (35,false)⟩,
 ⟨some 40,.val (.t 39),some (35,false)⟩,
 ⟨some 41,.val (.t 7),some (40,true)⟩,
 ⟨some 42,.indexS 1 (.t 41) (.c (.int .i64 0)),some (40,true)⟩,
 ⟨some 43,.load (.t 42),some (40,true)⟩,
 ⟨some 44,.bin .neq (.t 43) (.c (.int .u8 3)),some (40,true)⟩,
 ⟨some 45,.pick (.t 40) (.t 44) (.c (.bool false)),some (35,false)⟩,
 oo 46 (.pick (.t 35) (.c (.bool true)) (.t 45))] [])
 (.cond (.t 46) (.seq (.ops 10 false [
 oo 47 (.build [(.bool false),(.bool false),(.int .u64 0),(.int .u64 0),(.int .u64 0),(.int .u64 0)] []),
 ⟨none,.store 6 (.t 4) (.t 47),none⟩,
 oo 5 (.val (.c (.int .i64 75)))] [])
 (.ret))
 (.skip)))
 (.seq (.ops 11 false [
 oo 49 (.val (.t 7)),
 oo 50 (.slice 1 (.t 49) (some (.c (.int .i64 1))) none none),
 oo 51 (.call 94 [.t 50]),
 oo 48 (.val (.t 51)),
 oo 52 (.extract 0 (.t 48)),
 oo 53 (.extract 1 (.t 48)),
 oo 8 (.alloc 38 [(.int .u64 0),(.int .u64 0),(.int .u64 0),(.int .u64 0)]),
 ⟨none,.store 4 (.t 8) (.t 52),none⟩,
 oo 9 (.val (.t 53))] [])
 (.seq (.ops 12 true [
 oo 54 (.val (.t 7)),
 oo 55 (.indexS 1 (.t 54) (.c (.int .i64 0))),
 oo 56 (.load (.t 55)),
 oo 57 (.bin .eql (.t 56) (.c (.int .u8 3))),
 oo 58 (.loadN 4 (.t 8)),
 oo 59 (.build [(.bool false),(.bool false),(.int .u64 0),(.int .u64 0),(.int .u64 0),(.int .u64 0)] [(0,1,(.c (.bool true))),(1,1,(.t 57)),(2,4,(.t 58))]),
 ⟨none,.store 6 (.t 4) (.t 59),none⟩,
 oo 5 (.val (.c (.int .i64 0)))] [([],[]),([0],[0]),([1],[1]),([2],[2]),([],[]),([3,4],[3,4]),([5,0,1,2,3,4,5],[5]),([6,0,1,2,3,4,5,6],[])])
 (.ret)))))))))
def rs73 : List RR := [.cell 4 (some 6), .tmp 5]
theorem fun73 : FunR Tryz.prog 73 rc73 rs73 60 := ⟨Tryz.f73, Tryz.func73, by kernel_rfl, by kernel_rfl, by kernel_rfl⟩
/-- causeway/ticket.may -/
def rc76 : RC :=
 .seq (.ops 0 false [
 oo 1 (.box 40 (.t 0)),
 oo 2 (.val (.c (.bool false)))] [])
 (.seq (.ops 1 false [
 oo 3 (.fieldA 1 (.t 1)),
 oo 4 (.load (.t 3)),
 oo 5 (.bin .geq (.t 4) (.c (.int .i64 0))),
 oo 6 (.val (.t 5)),
 ⟨some 7,.fieldA 1 (.t 1),some (6,true)⟩,
 ⟨some 8,.load (.t 7),some (6,true)⟩,
 ⟨some 9,.bin .lss (.t 8) (.c (.int .i64 1099511627776)),some (6,true)⟩,
 oo 10 (.pick (.t 6) (.t 9) (.c (.bool false))),
 oo 11 (.val (.t 10)),
 ⟨some 12,.fieldA 22 (.t 1),some (11,true)⟩,
 ⟨some 13,.load (.t 12),some (11,true)⟩,
 ⟨some 14,.bin .geq (.t 13) (.c (.int .i64 0)),some (11,true)⟩,
 oo 15 (.pick (.t 11) (.t 14) (.c (.bool false))),
 oo 16 (.val (.t 15)),
 ⟨some 17,.fieldA 22 (.t 1),some (16,true)⟩,
 ⟨some 18,.load (.t 17),some (16,true)⟩,
 ⟨some 19,.bin .lss (.t 18) (.c (.int .i64 64)),some (16,true)⟩,
 oo 20 (.pick (.t 16) (.t 19) (.c (.bool false))),
 oo 21 (.val (.t 20)),
 ⟨some 22,.fieldA 43 (.t 1),some (21,true)⟩,
 ⟨some 23,.loadN 4 (.t 22),some (21,true)⟩,
 ⟨some 24,.call 108 [.t 23],some (21,true)⟩,
 ⟨some 25,.not (.t 24),some (21,true)⟩,
 oo 26 (.pick (.t 21) (.t 25) (.c (.bool false))),
 oo 2 (.val (.t 26))] [])
 (.ret))
def rs76 : List RR := [.tmp 2]
theorem fun76 : FunR Tryz.prog 76 rc76 rs76 27 := ⟨Tryz.f76, Tryz.func76, by kernel_rfl, by kernel_rfl, by kernel_rfl⟩
/-- (*causeway/store.State).Put -/
def rc77 : RC :=
 .seq (.ops 0 false [
 oo 6 (.val (.c (.int .i64 0)))] [])
 (.seq (.seq (.ops 1 false [
 oo 11 (.val (.t 1)),
 oo 12 (.val (.t 2)),
 oo 13 (.call 102 [.t 11,.t 12]),
 oo 7 (.val (.t 13))] [])
 (.seq (.ops 2 false [
 oo 14 (.val (.t 7)),
 oo 15 (.bin .neq (.t 14) (.c (.int .i64 0)))] [])
 (.cond (.t 15) (.seq (.ops 3 false [
 oo 16 (.val (.t 7)),
 oo 6 (.val (.t 16))] [])
 (.ret))
 (.skip))))
 (.seq (.seq (.ops 4 false [
 oo 17 (.val (.t 0)),
 oo 18 (.val (.t 1)),
 oo 19 (.call 127 [.t 17,.t 18]),
 oo 8 (.val (.t 19))] [])
 (.seq (.ops 5 false [
 oo 20 (.val (.t 8)),
 oo 21 (.bin .neq (.t 20) (.c (.int .i64 0)))] [])
 (.cond (.t 21) (.seq (.ops 6 false [
 oo 22 (.val (.t 8)),
 oo 6 (.val (.t 22))] [])
 (.ret))
 (.skip))))
 (.seq (.ops 7 false [
 oo 24 (.val (.t 0)),
 oo 25 (.nilCheck (.t 24)),
 oo 26 (.fieldA 2 (.t 25)),
 oo 27 (.load (.t 26)),
 oo 28 (.val (.t 1)),
 oo 29 (.look 71 (.t 27) (.t 28) true),
 oo 23 (.val (.t 29)),
 oo 30 (.extract 0 (.t 23)),
 oo 31 (.extract 1 (.t 23)),
 oo 9 (.val (.t 30)),
 oo 10 (.val (.t 31))] [])
 (.seq (.ops 8 false [
 oo 32 (.val (.t 0)),
 oo 33 (.val (.t 0)),
 oo 34 (.nilCheck (.t 33)),
 oo 35 (.fieldA 3 (.t 34)),
 oo 36 (.load (.t 35)),
 oo 37 (.val (.t 1)),
 oo 38 (.val (.t 9)),
 oo 39 (.val (.t 10)),
 oo 40 (.build [(.string ⟨#[]⟩),(.slice none 0 0),(.bool false)] [(0,1,(.t 37)),(1,1,(.t 38)),(2,1,(.t 39))]),
 oo 41 (.buildS 135 1 [(.string ⟨#[]⟩),(.slice none 0 0),(.bool false)] [(0,3,(.t 40))]),
 oo 42 (.blt .append #[72,72] 72 [.t 36,.t 41]),
 oo 43 (.nilCheck (.t 32)),
 oo 44 (.fieldA 3 (.t 43)),
 ⟨none,.store 1 (.t 44) (.t 42),none⟩] [])
 (.seq (.ops 9 true [
 oo 45 (.val (.t 0)),
 oo 46 (.nilCheck (.t 45)),
 oo 47 (.fieldA 2 (.t 46)),
 oo 48 (.load (.t 47)),
 oo 49 (.val (.t 1)),
 oo 50 (.val (.t 2)),
 oo 51 (.call 52 [.t 50]),
 ⟨none,.upd 71 (.t 48) (.t 49) (.t 51),none⟩] [([],[]),([0],[0]),([1],[1]),([2],[2]),([],[]),([],[]),([5],[5]),([3,4,6,6,0,1,2,3,4,5,6],[3,4,6])])
 (.seq (.ops 10 false [
 oo 6 (.val (.c (.int .i64 0)))] [])
 (.ret)))))))
def rs77 : List RR := [.tmp 6]
theorem fun77 : FunR Tryz.prog 77 rc77 rs77 52 := ⟨Tryz.f77, Tryz.func77, by kernel_rfl, by kernel_rfl, by kernel_rfl⟩
/-- causeway/ticket.key -/
def rc78 : RC :=
 .seq (.ops 0 false [
 oo 2 (.val (.c (.string ⟨#[]⟩)))] [])
 (.seq (.ops 1 false [
 oo 3 (.val (.t 0)),
 oo 4 (.call 80 [.t 3]),
 oo 5 (.cvt 97 9 (.t 4)),
 oo 6 (.sbin .add (.c (.string ⟨#[107]⟩)) (.t 5)),
 oo 2 (.val (.t 6))] [])
 (.ret))
def rs78 : List RR := [.tmp 2]
theorem fun78 : FunR Tryz.prog 78 rc78 rs78 7 := ⟨Tryz.f78, Tryz.func78, by kernel_rfl, by kernel_rfl, by kernel_rfl⟩
/-- causeway/ticket.value -/
def rc79 : RC :=
 .seq (.ops 0 false [
 oo 1 (.box 40 (.t 0)),
 oo 2 (.val (.c (.slice none 0 0)))] [])
 (.seq (.ops 1 true [
 oo 4 (.fieldA 1 (.t 1)),
 oo 5 (.load (.t 4)),
 oo 6 (.call 80 [.t 5]),
 oo 7 (.fieldA 2 (.t 1)),
 oo 8 (.sliceA 20 1 (.t 7) none none),
 oo 9 (.blt .append #[97,97] 97 [.t 6,.t 8]),
 oo 3 (.val (.t 9))] [([],[]),([0],[0]),([1],[1]),([],[]),([3],[3]),([2,4,2],[2,4]),([5,5,0,1,2,3,4,5],[5])])
 (.seq (.ops 2 true [
 oo 10 (.val (.t 3)),
 oo 11 (.fieldA 22 (.t 1)),
 oo 12 (.load (.t 11)),
 oo 13 (.conv .u8 (.t 12)),
 oo 14 (.buildS 5 1 [(.int .u8 0)] [(0,1,(.t 13))]),
 oo 15 (.blt .append #[97,97] 97 [.t 10,.t 14]),
 oo 16 (.fieldA 23 (.t 1)),
 oo 17 (.sliceA 20 1 (.t 16) none none),
 oo 18 (.blt .append #[97,97] 97 [.t 15,.t 17]),
 oo 3 (.val (.t 18))] [([],[]),([],[]),([1],[1]),([2],[2]),([3],[3]),([0,4],[0,4]),([],[]),([6],[6]),([5,7,5],[5,7]),([8,8,0,1,2,3,4,5,6,7,8],[0,8])])
 (.seq (.ops 3 false [
 oo 19 (.val (.t 3)),
 oo 20 (.fieldA 43 (.t 1)),
 oo 21 (.loadN 4 (.t 20)),
 oo 22 (.call 128 [.t 21]),
 oo 23 (.blt .append #[97,97] 97 [.t 19,.t 22]),
 oo 2 (.val (.t 23))] [])
 (.ret))))
def rs79 : List RR := [.tmp 2]
theorem fun79 : FunR Tryz.prog 79 rc79 rs79 24 := ⟨Tryz.f79, Tryz.func79, by kernel_rfl, by kernel_rfl, by kernel_rfl⟩
/-- causeway/ticket.eight -/
def rc80 : RC :=
 .seq (.ops 0 false [
 oo 2 (.val (.c (.slice none 0 0)))] [])
 (.seq (.ops 1 false [
 oo 3 (.alloc 164 (List.replicate 8 (.int .u8 0)))] [])
 (.seq (.seq (.ops 2 false [
 oo 5 (.val (.c (.int .i64 0)))] [])
 (.block 0 (.loop (.seq (.ops 3 false [
 oo 6 (.bin .lss (.t 5) (.c (.int .i64 8)))] [])
 (.seq (.cond (.t 6) (.skip)
 (.exit 0))
 (.seq (.block 1 (.seq (.ops 4 false [
 oo 7 (.val (.t 5)),
 oo 4 (.val (.t 7))] [])
 (.ops 5 false [
 oo 8 (.val (.t 4)),
 oo 9 (.val (.t 0)),
 oo 10 (.val (.t 4)),
 oo 11 (.bin .mul (.c (.int .i64 8)) (.t 10)),
 oo 12 (.bin .sub (.c (.int .i64 56)) (.t 11)),
 oo 13 (.bin .shr (.t 9) (.t 12)),
 oo 14 (.conv .u8 (.t 13)),
 oo 15 (.indexA 8 1 (.t 3) (.t 8)),
 ⟨none,.store 1 (.t 15) (.t 14),none⟩] [])))
 (.ops 6 false [
 oo 16 (.bin .add (.t 5) (.c (.int .i64 1))),
 oo 5 (.val (.t 16))] [])))))))
 (.seq (.ops 7 false [
 oo 17 (.sliceA 8 1 (.t 3) none none),
 oo 2 (.val (.t 17))] [])
 (.ret))))
def rs80 : List RR := [.tmp 2]
theorem fun80 : FunR Tryz.prog 80 rc80 rs80 18 := ⟨Tryz.f80, Tryz.func80, by kernel_rfl, by kernel_rfl, by kernel_rfl⟩
/-- (*causeway/store.State).Get -/
def rc81 : RC :=
 .seq (.ops 0 false [
 oo 4 (.val (.c (.slice none 0 0))),
 oo 5 (.val (.c (.int .i64 0)))] [])
 (.seq (.seq (.ops 1 false [
 oo 8 (.val (.t 1)),
 oo 9 (.call 102 [(.t 8),(.c (.slice none 0 0))]),
 oo 6 (.val (.t 9))] [])
 (.seq (.ops 2 false [
 oo 10 (.val (.t 6)),
 oo 11 (.bin .neq (.t 10) (.c (.int .i64 0)))] [])
 (.cond (.t 11) (.seq (.ops 3 false [
 oo 12 (.val (.t 6)),
 oo 4 (.val (.c (.slice none 0 0))),
 oo 5 (.val (.t 12))] [])
 (.ret))
 (.skip))))
 (.seq (.seq (.ops 4 false [
 oo 13 (.val (.t 0)),
 oo 14 (.val (.t 1)),
 oo 15 (.call 127 [.t 13,.t 14]),
 oo 7 (.val (.t 15))] [])
 (.seq (.ops 5 false [
 oo 16 (.val (.t 7)),
 oo 17 (.bin .neq (.t 16) (.c (.int .i64 0)))] [])
 (.cond (.t 17) (.seq (.ops 6 false [
 oo 18 (.val (.t 7)),
 oo 4 (.val (.c (.slice none 0 0))),
 oo 5 (.val (.t 18))] [])
 (.ret))
 (.skip))))
 (.seq (.ops 7 false [
 oo 19 (.val (.t 0)),
 oo 20 (.val (.t 1)),
 oo 21 (.call 50 [.t 19,.t 20]),
 oo 22 (.call 52 [.t 21]),
 oo 4 (.val (.t 22)),
 oo 5 (.val (.c (.int .i64 0)))] [])
 (.ret))))
def rs81 : List RR := [.tmp 4, .tmp 5]
theorem fun81 : FunR Tryz.prog 81 rc81 rs81 23 := ⟨Tryz.f81, Tryz.func81, by kernel_rfl, by kernel_rfl, by kernel_rfl⟩
/-- causeway/ticket.ticketOf -/
def rc82 : RC :=
 .seq (.ops 0 false [
 oo 3 (.box 97 (.t 1)),
 oo 4 (.alloc 40 [(.int .i64 0),(.int .i64 0),(.int .u8 0),(.int .u8 0),(.int .u8 0),(.int .u8 0),(.int .u8 0),(.int .u8 0),(.int .u8 0),(.int .u8 0),(.int .u8 0),(.int .u8 0),(.int .u8 0),(.int .u8 0),(.int .u8 0),(.int .u8 0),(.int .u8 0),(.int .u8 0),(.int .u8 0),(.int .u8 0),(.int .u8 0),(.int .u8 0),(.int .i64 0),(.int .u8 0),(.int .u8 0),(.int .u8 0),(.int .u8 0),(.int .u8 0),(.int .u8 0),(.int .u8 0),(.int .u8 0),(.int .u8 0),(.int .u8 0),(.int .u8 0),(.int .u8 0),(.int .u8 0),(.int .u8 0),(.int .u8 0),(.int .u8 0),(.int .u8 0),(.int .u8 0),(.int .u8 0),(.int .u8 0),(.int .u64 0),(.int .u64 0),(.int .u64 0),(.int .u64 0)]),
 oo 5 (.val (.c (.bool false)))] [])
 (.seq (.seq (.ops 1 false [
 oo 10 (.load (.t 3)),
 oo 11 (.len (.t 10)),
 oo 12 (.bin .neq (.t 11) (.c (.int .i64 81)))] [])
 (.cond (.t 12) (.seq (.ops 2 false [
 oo 13 (.build [(.int .i64 0),(.int .i64 0),(.int .u8 0),(.int .u8 0),(.int .u8 0),(.int .u8 0),(.int .u8 0),(.int .u8 0),(.int .u8 0),(.int .u8 0),(.int .u8 0),(.int .u8 0),(.int .u8 0),(.int .u8 0),(.int .u8 0),(.int .u8 0),(.int .u8 0),(.int .u8 0),(.int .u8 0),(.int .u8 0),(.int .u8 0),(.int .u8 0),(.int .i64 0),(.int .u8 0),(.int .u8 0),(.int .u8 0),(.int .u8 0),(.int .u8 0),(.int .u8 0),(.int .u8 0),(.int .u8 0),(.int .u8 0),(.int .u8 0),(.int .u8 0),(.int .u8 0),(.int .u8 0),(.int .u8 0),(.int .u8 0),(.int .u8 0),(.int .u8 0),(.int .u8 0),(.int .u8 0),(.int .u8 0),(.int .u64 0),(.int .u64 0),(.int .u64 0),(.int .u64 0)] []),
 ⟨none,.store 47 (.t 4) (.t 13),none⟩,
 oo 5 (.val (.c (.bool false)))] [])
 (.ret))
 (.skip)))
 (.seq (.ops 3 false [
 oo 14 (.func 129 [.t 3]),
 oo 6 (.val (.t 14))] [])
 (.seq (.ops 4 false [
 oo 15 (.val (.t 0)),
 oo 16 (.val (.t 6)),
 oo 17 (.callv (.t 16) [(.c (.int .i64 8))]),
 oo 18 (.call 83 [.t 17]),
 oo 19 (.build [(.int .i64 0),(.int .i64 0),(.int .u8 0),(.int .u8 0),(.int .u8 0),(.int .u8 0),(.int .u8 0),(.int .u8 0),(.int .u8 0),(.int .u8 0),(.int .u8 0),(.int .u8 0),(.int .u8 0),(.int .u8 0),(.int .u8 0),(.int .u8 0),(.int .u8 0),(.int .u8 0),(.int .u8 0),(.int .u8 0),(.int .u8 0),(.int .u8 0),(.int .i64 0),(.int .u8 0),(.int .u8 0),(.int .u8 0),(.int .u8 0),(.int .u8 0),(.int .u8 0),(.int .u8 0),(.int .u8 0),(.int .u8 0),(.int .u8 0),(.int .u8 0),(.int .u8 0),(.int .u8 0),(.int .u8 0),(.int .u8 0),(.int .u8 0),(.int .u8 0),(.int .u8 0),(.int .u8 0),(.int .u8 0),(.int .u64 0),(.int .u64 0),(.int .u64 0),(.int .u64 0)] [(0,1,(.t 15)),(1,1,(.t 18))]),
 oo 7 (.alloc 40 [(.int .i64 0),(.int .i64 0),(.int .u8 0),(.int .u8 0),(.int .u8 0),(.int .u8 0),(.int .u8 0),(.int .u8 0),(.int .u8 0),(.int .u8 0),(.int .u8 0),(.int .u8 0),(.int .u8 0),(.int .u8 0),(.int .u8 0),(.int .u8 0),(.int .u8 0),(.int .u8 0),(.int .u8 0),(.int .u8 0),(.int .u8 0),(.int .u8 0),(.int .i64 0),(.int .u8 0),(.int .u8 0),(.int .u8 0),(.int .u8 0),(.int .u8 0),(.int .u8 0),(.int .u8 0),(.int .u8 0),(.int .u8 0),(.int .u8 0),(.int .u8 0),(.int .u8 0),(.int .u8 0),(.int .u8 0),(.int .u8 0),(.int .u8 0),(.int .u8 0),(.int .u8 0),(.int .u8 0),(.int .u8 0),(.int .u64 0),(.int .u64 0),(.int .u64 0),(.int .u64 0)]),
 ⟨none,.store 47 (.t 7) (.t 19),none⟩] [])
 (.seq (.ops 5 false [
 oo 20 (.val (.t 6)),
 oo 21 (.callv (.t 20) [(.c (.int .i64 20))]),
 oo 22 (.arrp 35 (.t 21)),
 oo 23 (.loadN 20 (.t 22)),
 oo 24 (.fieldA 2 (.t 7)),
 ⟨none,.store 20 (.t 24) (.t 23),none⟩] [])
 (.seq (.ops 6 false [
 oo 25 (.val (.t 6)),
 oo 26 (.callv (.t 25) [(.c (.int .i64 1))]),
 oo 27 (.call 83 [.t 26]),
 oo 28 (.fieldA 22 (.t 7)),
 ⟨none,.store 1 (.t 28) (.t 27),none⟩] [])
 (.seq (.ops 7 false [
 oo 29 (.val (.t 6)),
 oo 30 (.callv (.t 29) [(.c (.int .i64 20))]),
 oo 31 (.arrp 35 (.t 30)),
 oo 32 (.loadN 20 (.t 31)),
 oo 33 (.fieldA 23 (.t 7)),
 ⟨none,.store 20 (.t 33) (.t 32),none⟩] [])
 (.seq (.ops 8 false [
 oo 35 (.val (.t 6)),
 oo 36 (.callv (.t 35) [(.c (.int .i64 32))]),
 oo 37 (.call 114 [.t 36]),
 oo 34 (.val (.t 37)),
 oo 38 (.extract 0 (.t 34)),
 oo 39 (.extract 1 (.t 34)),
 oo 8 (.alloc 38 [(.int .u64 0),(.int .u64 0),(.int .u64 0),(.int .u64 0)]),
 ⟨none,.store 4 (.t 8) (.t 38),none⟩,
 oo 9 (.val (.t 39))] [])
 (.seq (.ops 9 false [
 oo 40 (.loadN 4 (.t 8)),
 oo 41 (.fieldA 43 (.t 7)),
 ⟨none,.store 4 (.t 41) (.t 40),none⟩] [])
 (.seq (.ops 10 true [
 oo 42 (.loadN 47 (.t 7)),
 oo 43 (.val (.t 9)),
 oo 44 (.bin .eql (.t 43) (.c (.int .i64 0))),
 oo 45 (.val (.t 44)),
 ⟨some 46,.loadN 47 (.t 7),some (45,true)⟩,
 ⟨some 47,.call 76 [.t 46],some (45,true)⟩,
 oo 48 (.pick (.t 45) (.t 47) (.c (.bool false))),
 ⟨none,.store 47 (.t 4) (.t 42),none⟩,
 oo 5 (.val (.t 48))] [([],[]),([],[]),([1],[1]),([2],[2]),([3],[3]),([4,3,3],[3,4]),([3,5],[3,5]),([0,5,0],[0]),([6,7,0,1,2,3,4,5,6,7],[6])])
 (.ret))))))))))
def rs82 : List RR := [.cell 4 (some 47), .tmp 5]
theorem fun82 : FunR Tryz.prog 82 rc82 rs82 49 := ⟨Tryz.f82, Tryz.func82, by kernel_rfl, by kernel_rfl, by kernel_rfl⟩
/-- causeway/ticket.number -/
def rc83 : RC :=
 .seq (.ops 0 false [
 oo 2 (.val (.c (.int .i64 0)))] [])
 (.seq (.ops 1 false [
 oo 3 (.val (.c (.int .i64 0)))] [])
 (.seq (.seq (.ops 2 false [
 oo 6 (.val (.t 0)),
 oo 7 (.len (.t 6)),
 oo 8 (.val (.c (.int .i64 0)))] [])
 (.block 0 (.loop (.seq (.ops 3 false [
 oo 9 (.bin .lss (.t 8) (.t 7))] [])
 (.seq (.cond (.t 9) (.skip)
 (.exit 0))
 (.seq (.block 1 (.seq (.ops 4 false [
 oo 10 (.indexS 1 (.t 6) (.t 8)),
 oo 11 (.load (.t 10)),
 oo 5 (.val (.t 11))] [])
 (.ops 5 false [
 oo 12 (.val (.t 3)),
 oo 13 (.bin .shl (.t 12) (.c (.int .u64 8))),
 oo 14 (.val (.t 5)),
 oo 15 (.conv .i64 (.t 14)),
 oo 16 (.bin .or (.t 13) (.t 15)),
 oo 3 (.val (.t 16))] [])))
 (.ops 6 false [
 oo 17 (.bin .add (.t 8) (.c (.int .i64 1))),
 oo 8 (.val (.t 17))] [])))))))
 (.seq (.ops 7 false [
 oo 18 (.val (.t 3)),
 oo 2 (.val (.t 18))] [])
 (.ret))))
def rs83 : List RR := [.tmp 2]
theorem fun83 : FunR Tryz.prog 83 rc83 rs83 19 := ⟨Tryz.f83, Tryz.func83, by kernel_rfl, by kernel_rfl, by kernel_rfl⟩
/-- causeway/ledger.layToken -/
def rc84 : RC :=
 .seq (.ops 0 false [
 oo 5 (.box 61 (.t 2)),
 oo 6 (.val (.c (.int .i64 0)))] [])
 (.seq (.ops 1 false [
 oo 7 (.val (.c (.int .u8 1)))] [])
 (.seq (.seq (.ops 2 false [
 oo 8 (.fieldA 1 (.t 5)),
 oo 9 (.load (.t 8))] [])
 (.cond (.t 9) (.ops 3 false [
 oo 7 (.val (.c (.int .u8 3)))] [])
 (.skip)))
 (.seq (.ops 4 true [
 oo 10 (.val (.t 0)),
 oo 11 (.val (.t 1)),
 oo 12 (.call 113 [.t 11]),
 oo 13 (.val (.t 7)),
 oo 14 (.buildS 5 1 [(.int .u8 0)] [(0,1,(.t 13))]),
 oo 15 (.fieldA 2 (.t 5)),
 oo 16 (.loadN 4 (.t 15)),
 oo 17 (.call 128 [.t 16]),
 oo 18 (.blt .append #[97,97] 97 [.t 14,.t 17]),
 oo 19 (.call 77 [.t 10,.t 12,.t 18]),
 oo 6 (.val (.t 19))] [([],[]),([],[]),([1],[1]),([],[]),([3],[3]),([],[]),([5],[5]),([6,2],[6]),([4,7,7],[4,7]),([0,2,8,8],[0,2,8]),([9,9,0,1,2,3,4,5,6,7,8,9],[9])])
 (.ret))))
def rs84 : List RR := [.tmp 6]
theorem fun84 : FunR Tryz.prog 84 rc84 rs84 20 := ⟨Tryz.f84, Tryz.func84, by kernel_rfl, by kernel_rfl, by kernel_rfl⟩
/-- causeway/ledger.running -/
def rc85 : RC :=
 .seq (.ops 0 false [
 oo 4 (.alloc 61 [(.bool false),(.bool false),(.int .u64 0),(.int .u64 0),(.int .u64 0),(.int .u64 0)]),
 oo 5 (.val (.c (.int .i64 0)))] [])
 (.seq (.ops 1 false [
 oo 9 (.val (.t 0)),
 oo 10 (.val (.t 1)),
 oo 11 (.call 86 [.t 9,.t 10]),
 oo 8 (.val (.t 11)),
 oo 12 (.extract 0 (.t 8)),
 oo 13 (.extract 1 (.t 8)),
 oo 6 (.alloc 61 [(.bool false),(.bool false),(.int .u64 0),(.int .u64 0),(.int .u64 0),(.int .u64 0)]),
 ⟨none,.store 6 (.t 6) (.t 12),none⟩,
 oo 7 (.val (.t 13))] [])
 (.seq (.seq (.ops 2 false [
 oo 14 (.val (.t 7)),
 oo 15 (.bin .eql (.t 14) (.c (.int .i64 0))),
 oo 16 (.val (.t 15)),
 ⟨some 17,.fieldA 1 (.t 6),some (16,true)⟩,
 ⟨some 18,.load (.t 17),some (16,true)⟩,
 oo 19 (.pick (.t 16) (.t 18) (.c (.bool false)))] [])
 (.cond (.t 19) (.seq (.ops 3 false [
 oo 20 (.build [(.bool false),(.bool false),(.int .u64 0),(.int .u64 0),(.int .u64 0),(.int .u64 0)] []),
 ⟨none,.store 6 (.t 4) (.t 20),none⟩,
 oo 5 (.val (.c (.int .i64 83)))] [])
 (.ret))
 (.skip)))
 (.seq (.ops 4 false [
 oo 21 (.loadN 6 (.t 6)),
 oo 22 (.val (.t 7)),
 ⟨none,.store 6 (.t 4) (.t 21),none⟩,
 oo 5 (.val (.t 22))] [])
 (.ret))))
def rs85 : List RR := [.cell 4 (some 6), .tmp 5]
theorem fun85 : FunR Tryz.prog 85 rc85 rs85 23 := ⟨Tryz.f85, Tryz.func85, by kernel_rfl, by kernel_rfl, by kernel_rfl⟩
/-- causeway/ledger.there -/
def rc86 : RC :=
 .seq (.ops 0 false [
 oo 4 (.alloc 61 [(.bool false),(.bool false),(.int .u64 0),(.int .u64 0),(.int .u64 0),(.int .u64 0)]),
 oo 5 (.val (.c (.int .i64 0)))] [])
 (.seq (.ops 1 false [
 oo 9 (.val (.t 0)),
 oo 10 (.val (.t 1)),
 oo 11 (.call 61 [.t 9,.t 10]),
 oo 8 (.val (.t 11)),
 oo 12 (.extract 0 (.t 8)),
 oo 13 (.extract 1 (.t 8)),
 oo 6 (.alloc 61 [(.bool false),(.bool false),(.int .u64 0),(.int .u64 0),(.int .u64 0),(.int .u64 0)]),
 ⟨none,.store 6 (.t 6) (.t 12),none⟩,
 oo 7 (.val (.t 13))] [])
 (.seq (.block 0 (.seq (.ops 2 false [
 oo 15 (.val (.t 7)),
 oo 16 (.bin .neq (.t 15) (.c (.int .i64 0))),
 oo 14 (.val (.t 16))] [])
 (.cond (.t 14) (.seq (.ops 3 false [
 oo 17 (.build [(.bool false),(.bool false),(.int .u64 0),(.int .u64 0),(.int .u64 0),(.int .u64 0)] []),
 oo 18 (.val (.t 7)),
 ⟨none,.store 6 (.t 4) (.t 17),none⟩,
 oo 5 (.val (.t 18))] [])
 (.ret))
 (.seq (.ops 4 false [
 oo 20 (.loadN 6 (.t 6)),
 oo 21 (.build [(.bool false),(.bool false),(.int .u64 0),(.int .u64 0),(.int .u64 0),(.int .u64 0)] []),
 oo 22 (.eqn false 61 (.t 20) (.t 21)),
 oo 19 (.val (.t 22))] [])
 (.cond (.t 19) (.seq (.ops 5 false [
 oo 23 (.loadN 6 (.t 6)),
 ⟨none,.store 6 (.t 4) (.t 23),none⟩,
 oo 5 (.val (.c (.int .i64 81)))] [])
 (.ret))
 (.skip))))))
 (.seq (.ops 6 false [
 oo 24 (.loadN 6 (.t 6)),
 ⟨none,.store 6 (.t 4) (.t 24),none⟩,
 oo 5 (.val (.c (.int .i64 0)))] [])
 (.ret))))
def rs86 : List RR := [.cell 4 (some 6), .tmp 5]
theorem fun86 : FunR Tryz.prog 86 rc86 rs86 25 := ⟨Tryz.f86, Tryz.func86, by kernel_rfl, by kernel_rfl, by kernel_rfl⟩
/-- causeway/causewayref09.fits -/
def rc87 : RC :=
 .seq (.ops 0 false [
 oo 1 (.box 40 (.t 0)),
 oo 2 (.val (.c (.bool false)))] [])
 (.seq (.ops 1 false [
 oo 3 (.fieldA 1 (.t 1)),
 oo 4 (.load (.t 3)),
 oo 5 (.bin .geq (.t 4) (.c (.int .i64 0))),
 oo 6 (.val (.t 5)),
 ⟨some 7,.fieldA 1 (.t 1),some (6,true)⟩,
 ⟨some 8,.load (.t 7),some (6,true)⟩,
 ⟨some 9,.bin .lss (.t 8) (.c (.int .i64 1099511627776)),some (6,true)⟩,
 oo 10 (.pick (.t 6) (.t 9) (.c (.bool false))),
 oo 11 (.val (.t 10)),
 ⟨some 12,.fieldA 22 (.t 1),some (11,true)⟩,
 ⟨some 13,.load (.t 12),some (11,true)⟩,
 ⟨some 14,.bin .geq (.t 13) (.c (.int .i64 0)),some (11,true)⟩,
 oo 15 (.pick (.t 11) (.t 14) (.c (.bool false))),
 oo 16 (.val (.t 15)),
 ⟨some 17,.fieldA 22 (.t 1),some (16,true)⟩,
 ⟨some 18,.load (.t 17),some (16,true)⟩,
 ⟨some 19,.bin .lss (.t 18) (.c (.int .i64 64)),some (16,true)⟩,
 oo 20 (.pick (.t 16) (.t 19) (.c (.bool false))),
 oo 21 (.val (.t 20)),
 ⟨some 22,.fieldA 43 (.t 1),some (21,true)⟩,
 ⟨some 23,.loadN 4 (.t 22),some (21,true)⟩,
 ⟨some 24,.build [(.int .u64 0),(.int .u64 0),(.int .u64 0),(.int .u64 0)] [],some (21,true)⟩,
 ⟨some 25,.eqn true 38 (.t 23) (.t 24),some (21,true)⟩,
 oo 26 (.pick (.t 21) (.t 25) (.c (.bool false))),
 oo 2 (.val (.t 26))] [])
 (.ret))
def rs87 : List RR := [.tmp 2]
theorem fun87 : FunR Tryz.prog 87 rc87 rs87 27 := ⟨Tryz.f87, Tryz.func87, by kernel_rfl, by kernel_rfl, by kernel_rfl⟩
/-- (*causeway/causewayref07.State).Put -/
def rc88 : RC :=
 .seq (.ops 0 false [
 oo 6 (.val (.c (.int .i64 0)))] [])
 (.seq (.ops 1 false [
 oo 8 (.val (.t 1)),
 oo 9 (.val (.t 2)),
 oo 10 (.call 62 [.t 8,.t 9]),
 oo 7 (.val (.t 10))] [])
 (.seq (.seq (.ops 2 false [
 oo 11 (.val (.t 7)),
 oo 12 (.bin .neq (.t 11) (.c (.int .i64 0)))] [])
 (.cond (.t 12) (.seq (.ops 3 false [
 oo 13 (.val (.t 7)),
 oo 6 (.val (.t 13))] [])
 (.ret))
 (.skip)))
 (.seq (.ops 4 false [
 oo 14 (.val (.t 0)),
 oo 15 (.val (.t 1)),
 oo 16 (.call 130 [.t 14,.t 15]),
 oo 7 (.val (.t 16))] [])
 (.seq (.seq (.ops 5 false [
 oo 17 (.val (.t 7)),
 oo 18 (.bin .neq (.t 17) (.c (.int .i64 0)))] [])
 (.cond (.t 18) (.seq (.ops 6 false [
 oo 19 (.val (.t 7)),
 oo 6 (.val (.t 19))] [])
 (.ret))
 (.skip)))
 (.seq (.ops 7 true [
 oo 20 (.val (.t 0)),
 oo 21 (.val (.t 0)),
 oo 22 (.nilCheck (.t 21)),
 oo 23 (.fieldA 4 (.t 22)),
 oo 24 (.load (.t 23)),
 oo 25 (.val (.t 1)),
 oo 26 (.val (.t 2)),
 oo 27 (.call 54 [.t 26]),
 oo 28 (.build [(.string ⟨#[]⟩),(.slice none 0 0)] [(0,1,(.t 25)),(1,1,(.t 27))]),
 oo 29 (.buildS 99 1 [(.string ⟨#[]⟩),(.slice none 0 0)] [(0,2,(.t 28))]),
 oo 30 (.blt .append #[22,22] 22 [.t 24,.t 29]),
 oo 31 (.nilCheck (.t 20)),
 oo 32 (.fieldA 4 (.t 31)),
 ⟨none,.store 1 (.t 32) (.t 30),none⟩] [([],[]),([],[]),([1],[1]),([2],[2]),([3],[3]),([],[]),([],[]),([6],[6]),([5,7],[5,7]),([8],[8]),([4,9,7],[4,9]),([0,0,1,2,3,4,5,6,7,8,9,10],[0]),([11,0,1,2,3,4,5,6,7,8,9,10],[11]),([12,10,10,0,1,2,3,4,5,6,7,8,9,10],[10,12])])
 (.seq (.ops 8 false [
 oo 6 (.val (.c (.int .i64 0)))] [])
 (.ret)))))))
def rs88 : List RR := [.tmp 6]
theorem fun88 : FunR Tryz.prog 88 rc88 rs88 33 := ⟨Tryz.f88, Tryz.func88, by kernel_rfl, by kernel_rfl, by kernel_rfl⟩
/-- causeway/causewayref09.Key -/
def rc89 : RC :=
 .seq (.ops 0 false [
 oo 2 (.val (.c (.string ⟨#[]⟩)))] [])
 (.seq (.ops 1 false [
 oo 3 (.val (.t 0)),
 oo 4 (.call 91 [.t 3]),
 oo 5 (.cvt 97 9 (.t 4)),
 oo 6 (.sbin .add (.c (.string ⟨#[107]⟩)) (.t 5)),
 oo 2 (.val (.t 6))] [])
 (.ret))
def rs89 : List RR := [.tmp 2]
theorem fun89 : FunR Tryz.prog 89 rc89 rs89 7 := ⟨Tryz.f89, Tryz.func89, by kernel_rfl, by kernel_rfl, by kernel_rfl⟩
/-- causeway/causewayref09.Value -/
def rc90 : RC :=
 .seq (.ops 0 false [
 oo 1 (.box 40 (.t 0)),
 oo 2 (.val (.c (.slice none 0 0)))] [])
 (.seq (.ops 1 false [
 oo 5 (.fieldA 1 (.t 1)),
 oo 6 (.load (.t 5)),
 oo 7 (.call 91 [.t 6]),
 oo 3 (.val (.t 7))] [])
 (.seq (.ops 2 false [
 oo 8 (.val (.t 3)),
 oo 9 (.fieldA 2 (.t 1)),
 oo 10 (.sliceA 20 1 (.t 9) none none),
 oo 11 (.blt .append #[97,97] 97 [.t 8,.t 10]),
 oo 3 (.val (.t 11))] [])
 (.seq (.ops 3 false [
 oo 12 (.val (.t 3)),
 oo 13 (.fieldA 22 (.t 1)),
 oo 14 (.load (.t 13)),
 oo 15 (.conv .u8 (.t 14)),
 oo 16 (.buildS 5 1 [(.int .u8 0)] [(0,1,(.t 15))]),
 oo 17 (.blt .append #[97,97] 97 [.t 12,.t 16]),
 oo 3 (.val (.t 17))] [])
 (.seq (.ops 4 false [
 oo 18 (.val (.t 3)),
 oo 19 (.fieldA 23 (.t 1)),
 oo 20 (.sliceA 20 1 (.t 19) none none),
 oo 21 (.blt .append #[97,97] 97 [.t 18,.t 20]),
 oo 3 (.val (.t 21))] [])
 (.seq (.ops 5 false [
 oo 22 (.fieldA 43 (.t 1)),
 oo 23 (.loadN 4 (.t 22)),
 oo 24 (.call 131 [.t 23]),
 oo 4 (.val (.t 24))] [])
 (.seq (.ops 6 false [
 oo 25 (.val (.t 3)),
 oo 26 (.val (.t 4)),
 oo 27 (.blt .append #[97,97] 97 [.t 25,.t 26]),
 oo 3 (.val (.t 27))] [])
 (.seq (.ops 7 false [
 oo 28 (.val (.t 3)),
 oo 2 (.val (.t 28))] [])
 (.ret))))))))
def rs90 : List RR := [.tmp 2]
theorem fun90 : FunR Tryz.prog 90 rc90 rs90 29 := ⟨Tryz.f90, Tryz.func90, by kernel_rfl, by kernel_rfl, by kernel_rfl⟩
/-- causeway/causewayref09.eight -/
def rc91 : RC :=
 .seq (.ops 0 false [
 oo 2 (.val (.c (.slice none 0 0)))] [])
 (.seq (.ops 1 false [
 oo 6 (.mkS 97 (.c (.int .i64 8)) (.c (.int .i64 8))),
 oo 3 (.val (.t 6))] [])
 (.seq (.ops 2 false [
 oo 7 (.val (.t 0)),
 oo 4 (.val (.t 7))] [])
 (.seq (.seq (.ops 3 false [
 oo 5 (.val (.c (.int .i64 7)))] [])
 (.block 0 (.loop (.seq (.seq (.ops 4 false [
 oo 8 (.val (.t 5)),
 oo 9 (.bin .geq (.t 8) (.c (.int .i64 0)))] [])
 (.cond (.t 9) (.skip)
 (.exit 0)))
 (.seq (.block 1 (.seq (.ops 6 false [
 oo 12 (.val (.t 3)),
 oo 13 (.val (.t 5)),
 oo 14 (.val (.t 4)),
 oo 15 (.bin .rem (.t 14) (.c (.int .i64 256))),
 oo 16 (.conv .u8 (.t 15)),
 oo 17 (.indexS 1 (.t 12) (.t 13)),
 ⟨none,.store 1 (.t 17) (.t 16),none⟩] [])
 (.ops 7 false [
 oo 18 (.val (.t 4)),
 oo 19 (.bin .quo (.t 18) (.c (.int .i64 256))),
 oo 4 (.val (.t 19))] [])))
 (.ops 5 false [
 oo 10 (.val (.t 5)),
 oo 11 (.bin .sub (.t 10) (.c (.int .i64 1))),
 oo 5 (.val (.t 11))] []))))))
 (.seq (.ops 8 false [
 oo 20 (.val (.t 3)),
 oo 2 (.val (.t 20))] [])
 (.ret)))))
def rs91 : List RR := [.tmp 2]
theorem fun91 : FunR Tryz.prog 91 rc91 rs91 21 := ⟨Tryz.f91, Tryz.func91, by kernel_rfl, by kernel_rfl, by kernel_rfl⟩
/-- (*causeway/causewayref07.State).Get -/
def rc92 : RC :=
 .seq (.ops 0 false [
 oo 4 (.val (.c (.slice none 0 0))),
 oo 5 (.val (.c (.int .i64 0)))] [])
 (.seq (.ops 1 false [
 oo 7 (.val (.t 1)),
 oo 8 (.call 62 [(.t 7),(.c (.slice none 0 0))]),
 oo 6 (.val (.t 8))] [])
 (.seq (.seq (.ops 2 false [
 oo 9 (.val (.t 6)),
 oo 10 (.bin .neq (.t 9) (.c (.int .i64 0)))] [])
 (.cond (.t 10) (.seq (.ops 3 false [
 oo 11 (.val (.t 6)),
 oo 4 (.val (.c (.slice none 0 0))),
 oo 5 (.val (.t 11))] [])
 (.ret))
 (.skip)))
 (.seq (.ops 4 false [
 oo 12 (.val (.t 0)),
 oo 13 (.val (.t 1)),
 oo 14 (.call 130 [.t 12,.t 13]),
 oo 6 (.val (.t 14))] [])
 (.seq (.seq (.ops 5 false [
 oo 15 (.val (.t 6)),
 oo 16 (.bin .neq (.t 15) (.c (.int .i64 0)))] [])
 (.cond (.t 16) (.seq (.ops 6 false [
 oo 17 (.val (.t 6)),
 oo 4 (.val (.c (.slice none 0 0))),
 oo 5 (.val (.t 17))] [])
 (.ret))
 (.skip)))
 (.seq (.ops 7 false [
 oo 18 (.val (.t 0)),
 oo 19 (.val (.t 1)),
 oo 20 (.call 53 [.t 18,.t 19]),
 oo 21 (.call 54 [.t 20]),
 oo 4 (.val (.t 21)),
 oo 5 (.val (.c (.int .i64 0)))] [])
 (.ret))))))
def rs92 : List RR := [.tmp 4, .tmp 5]
theorem fun92 : FunR Tryz.prog 92 rc92 rs92 22 := ⟨Tryz.f92, Tryz.func92, by kernel_rfl, by kernel_rfl, by kernel_rfl⟩
/-- causeway/causewayref09.number -/
def rc93 : RC :=
 .seq (.ops 0 false [
 oo 2 (.val (.c (.int .i64 0)))] [])
 (.seq (.seq (.ops 1 false [
 oo 5 (.val (.t 0)),
 oo 6 (.indexS 1 (.t 5) (.c (.int .i64 0))),
 oo 7 (.load (.t 6)),
 oo 8 (.bin .gtr (.t 7) (.c (.int .u8 63)))] [])
 (.cond (.t 8) (.seq (.ops 2 false [
 oo 2 (.val (.c (.int .i64 (-1))))] [])
 (.ret))
 (.skip)))
 (.seq (.ops 3 false [
 oo 3 (.val (.c (.int .i64 0)))] [])
 (.seq (.seq (.ops 4 false [
 oo 4 (.val (.c (.int .i64 0)))] [])
 (.block 0 (.loop (.seq (.seq (.ops 5 false [
 oo 9 (.val (.t 4)),
 oo 10 (.bin .lss (.t 9) (.c (.int .i64 8)))] [])
 (.cond (.t 10) (.skip)
 (.exit 0)))
 (.seq (.block 1 (.ops 7 false [
 oo 13 (.val (.t 3)),
 oo 14 (.bin .mul (.c (.int .i64 256)) (.t 13)),
 oo 15 (.val (.t 0)),
 oo 16 (.val (.t 4)),
 oo 17 (.indexS 1 (.t 15) (.t 16)),
 oo 18 (.load (.t 17)),
 oo 19 (.conv .i64 (.t 18)),
 oo 20 (.bin .add (.t 14) (.t 19)),
 oo 3 (.val (.t 20))] []))
 (.ops 6 false [
 oo 11 (.val (.t 4)),
 oo 12 (.bin .add (.t 11) (.c (.int .i64 1))),
 oo 4 (.val (.t 12))] []))))))
 (.seq (.ops 8 false [
 oo 21 (.val (.t 3)),
 oo 2 (.val (.t 21))] [])
 (.ret)))))
def rs93 : List RR := [.tmp 2]
theorem fun93 : FunR Tryz.prog 93 rc93 rs93 22 := ⟨Tryz.f93, Tryz.func93, by kernel_rfl, by kernel_rfl, by kernel_rfl⟩
/-- causeway/causewayref02.Read -/
def rc94 : RC :=
 .seq (.ops 0 false [
 oo 2 (.alloc 38 [(.int .u64 0),(.int .u64 0),(.int .u64 0),(.int .u64 0)]),
 oo 3 (.val (.c (.int .i64 0)))] [])
 (.seq (.ops 1 false [
 oo 4 (.alloc 38 [(.int .u64 0),(.int .u64 0),(.int .u64 0),(.int .u64 0)])] [])
 (.seq (.seq (.ops 2 false [
 oo 6 (.val (.t 0)),
 oo 7 (.len (.t 6)),
 oo 8 (.bin .neq (.t 7) (.c (.int .i64 32)))] [])
 (.cond (.t 8) (.seq (.ops 3 false [
 oo 9 (.loadN 4 (.t 4)),
 ⟨none,.store 4 (.t 2) (.t 9),none⟩,
 oo 3 (.val (.c (.int .i64 20)))] [])
 (.ret))
 (.skip)))
 (.seq (.seq (.ops 4 false [
 oo 5 (.val (.c (.int .i64 0)))] [])
 (.block 0 (.loop (.seq (.seq (.ops 5 false [
 oo 10 (.val (.t 5)),
 oo 11 (.bin .lss (.t 10) (.c (.int .i64 32)))] [])
 (.cond (.t 11) (.skip)
 (.exit 0)))
 (.seq (.block 1 (.ops 7 true [
 oo 14 (.val (.t 5)),
 oo 15 (.bin .quo (.t 14) (.c (.int .i64 8))),
 oo 16 (.val (.t 5)),
 oo 17 (.bin .quo (.t 16) (.c (.int .i64 8))),
 oo 18 (.indexA 4 1 (.t 4) (.t 17)),
 oo 19 (.load (.t 18)),
 oo 20 (.val (.t 0)),
 oo 21 (.val (.t 5)),
 oo 22 (.bin .sub (.c (.int .i64 31)) (.t 21)),
 oo 23 (.indexS 1 (.t 20) (.t 22)),
 oo 24 (.load (.t 23)),
 oo 25 (.conv .u64 (.t 24)),
 oo 26 (.val (.t 5)),
 oo 27 (.bin .rem (.t 26) (.c (.int .i64 8))),
 oo 28 (.bin .mul (.c (.int .i64 8)) (.t 27)),
 oo 29 (.bin .shl (.t 25) (.t 28)),
 oo 30 (.bin .or (.t 19) (.t 29)),
 oo 31 (.indexA 4 1 (.t 4) (.t 15)),
 ⟨none,.store 1 (.t 31) (.t 30),none⟩] [([],[]),([0],[0]),([],[]),([2],[2]),([3],[3]),([4],[4]),([],[]),([],[]),([7],[7]),([6,8],[6,8]),([9],[9]),([10],[10]),([],[]),([12],[12]),([13],[13]),([11,14],[11,14]),([5,15],[5,15]),([1,0,1,2,3,4,5,6,7,8,9,10,11,12,13,14,15,16],[1]),([17,16,0,1,2,3,4,5,6,7,8,9,10,11,12,13,14,15,16],[16,17])]))
 (.ops 6 false [
 oo 12 (.val (.t 5)),
 oo 13 (.bin .add (.t 12) (.c (.int .i64 1))),
 oo 5 (.val (.t 13))] []))))))
 (.seq (.ops 8 false [
 oo 32 (.loadN 4 (.t 4)),
 ⟨none,.store 4 (.t 2) (.t 32),none⟩,
 oo 3 (.val (.c (.int .i64 0)))] [])
 (.ret)))))
def rs94 : List RR := [.cell 2 (some 4), .tmp 3]
theorem fun94 : FunR Tryz.prog 94 rc94 rs94 33 := ⟨Tryz.f94, Tryz.func94, by kernel_rfl, by kernel_rfl, by kernel_rfl⟩
/-- causeway/causewayref08.layToken -/
def rc95 : RC :=
 .seq (.ops 0 false [
 oo 7 (.box 38 (.t 3)),
 oo 8 (.val (.c (.int .i64 0)))] [])
 (.seq (.ops 1 false [
 oo 10 (.buildS 5 1 [(.int .u8 0)] [(0,1,(.c (.int .u8 1)))]),
 oo 9 (.val (.t 10))] [])
 (.seq (.seq (.ops 2 false [
 oo 11 (.val (.t 2))] [])
 (.cond (.t 11) (.ops 3 false [
 oo 12 (.val (.t 9)),
 oo 13 (.indexS 1 (.t 12) (.c (.int .i64 0))),
 ⟨none,.store 1 (.t 13) (.c (.int .u8 3)),none⟩] [])
 (.skip)))
 (.seq (.ops 4 true [
 oo 14 (.val (.t 0)),
 oo 15 (.val (.t 1)),
 oo 16 (.call 126 [.t 15]),
 oo 17 (.val (.t 9)),
 oo 18 (.loadN 4 (.t 7)),
 oo 19 (.call 131 [.t 18]),
 oo 20 (.blt .append #[97,97] 97 [.t 17,.t 19]),
 oo 21 (.call 88 [.t 14,.t 16,.t 20]),
 oo 8 (.val (.t 21))] [([],[]),([],[]),([1],[1]),([],[]),([],[]),([4,2],[4]),([3,5,5],[3,5]),([0,2,6,6],[0,2,6]),([7,7,0,1,2,3,4,5,6,7],[7])])
 (.ret))))
def rs95 : List RR := [.tmp 8]
theorem fun95 : FunR Tryz.prog 95 rc95 rs95 22 := ⟨Tryz.f95, Tryz.func95, by kernel_rfl, by kernel_rfl, by kernel_rfl⟩
/-- causeway/causewayref08.there -/
def rc96 : RC :=
 .seq (.ops 0 false [
 oo 6 (.alloc 61 [(.bool false),(.bool false),(.int .u64 0),(.int .u64 0),(.int .u64 0),(.int .u64 0)]),
 oo 7 (.val (.c (.int .i64 0)))] [])
 (.seq (.ops 1 false [
 oo 11 (.val (.t 0)),
 oo 12 (.val (.t 1)),
 oo 13 (.call 73 [.t 11,.t 12]),
 oo 10 (.val (.t 13)),
 oo 14 (.extract 0 (.t 10)),
 oo 15 (.extract 1 (.t 10)),
 oo 8 (.alloc 61 [(.bool false),(.bool false),(.int .u64 0),(.int .u64 0),(.int .u64 0),(.int .u64 0)]),
 ⟨none,.store 6 (.t 8) (.t 14),none⟩,
 oo 9 (.val (.t 15))] [])
 (.seq (.seq (.ops 2 false [
 oo 16 (.val (.t 9)),
 oo 17 (.bin .neq (.t 16) (.c (.int .i64 0)))] [])
 (.cond (.t 17) (.seq (.ops 3 false [
 oo 18 (.loadN 6 (.t 8)),
 oo 19 (.val (.t 9)),
 ⟨none,.store 6 (.t 6) (.t 18),none⟩,
 oo 7 (.val (.t 19))] [])
 (.ret))
 (.skip)))
 (.seq (.seq (.ops 4 false [
 oo 20 (.fieldA 0 (.t 8)),
 oo 21 (.load (.t 20)),
 oo 22 (.not (.t 21))] [])
 (.cond (.t 22) (.seq (.ops 5 false [
 oo 23 (.loadN 6 (.t 8)),
 ⟨none,.store 6 (.t 6) (.t 23),none⟩,
 oo 7 (.val (.c (.int .i64 81)))] [])
 (.ret))
 (.skip)))
 (.seq (.seq (.ops 6 false [
 oo 24 (.val (.t 2)),
 oo 25 (.val (.t 24)),
 ⟨some 26,.fieldA 1 (.t 8),some (25,true)⟩,
 ⟨some 27,.load (.t 26),some (25,true)⟩,
 oo 28 (.pick (.t 25) (.t 27) (.c (.bool false)))] [])
 (.cond (.t 28) (.seq (.ops 7 false [
 oo 29 (.loadN 6 (.t 8)),
 ⟨none,.store 6 (.t 6) (.t 29),none⟩,
 oo 7 (.val (.c (.int .i64 83)))] [])
 (.ret))
 (.skip)))
 (.seq (.ops 8 false [
 oo 30 (.loadN 6 (.t 8)),
 ⟨none,.store 6 (.t 6) (.t 30),none⟩,
 oo 7 (.val (.c (.int .i64 0)))] [])
 (.ret))))))
def rs96 : List RR := [.cell 6 (some 6), .tmp 7]
theorem fun96 : FunR Tryz.prog 96 rc96 rs96 31 := ⟨Tryz.f96, Tryz.func96, by kernel_rfl, by kernel_rfl, by kernel_rfl⟩
/-- causeway/causewayref07.at -/
def rc100 : RC :=
 .seq (.ops 0 false [
 oo 4 (.val (.c (.slice none 0 0))),
 oo 5 (.val (.c (.bool false)))] [])
 (.seq (.seq (.ops 1 false [
 oo 6 (.val (.c (.int .i64 0)))] [])
 (.block 0 (.loop (.seq (.seq (.ops 2 false [
 oo 7 (.val (.t 6)),
 oo 8 (.val (.t 0)),
 oo 9 (.len (.t 8)),
 oo 10 (.bin .lss (.t 7) (.t 9))] [])
 (.cond (.t 10) (.skip)
 (.exit 0)))
 (.seq (.block 1 (.seq (.ops 4 false [
 oo 13 (.val (.t 0)),
 oo 14 (.val (.t 6)),
 oo 15 (.indexS 2 (.t 13) (.t 14)),
 oo 16 (.fieldA 0 (.t 15)),
 oo 17 (.load (.t 16)),
 oo 18 (.val (.t 1)),
 oo 19 (.eqp .str false (.t 17) (.t 18))] [])
 (.cond (.t 19) (.seq (.ops 5 false [
 oo 20 (.val (.t 0)),
 oo 21 (.val (.t 6)),
 oo 22 (.indexS 2 (.t 20) (.t 21)),
 oo 23 (.fieldA 1 (.t 22)),
 oo 24 (.load (.t 23)),
 oo 4 (.val (.t 24)),
 oo 5 (.val (.c (.bool true)))] [])
 (.ret))
 (.skip))))
 (.ops 3 false [
 oo 11 (.val (.t 6)),
 oo 12 (.bin .add (.t 11) (.c (.int .i64 1))),
 oo 6 (.val (.t 12))] []))))))
 (.seq (.ops 6 false [
 oo 4 (.val (.c (.slice none 0 0))),
 oo 5 (.val (.c (.bool false)))] [])
 (.ret)))
def rs100 : List RR := [.tmp 4, .tmp 5]
theorem fun100 : FunR Tryz.prog 100 rc100 rs100 25 := ⟨Tryz.f100, Tryz.func100, by kernel_rfl, by kernel_rfl, by kernel_rfl⟩
/-- causeway/sparse.New -/
def rc101 : RC :=
 .seq (.ops 0 false [
 oo 0 (.val (.c (.pointer none)))] [])
 (.seq (.ops 1 false [
 oo 1 (.build [(.pointer none),(.int .i64 0)] []),
 oo 2 (.box 171 (.t 1)),
 oo 0 (.val (.t 2))] [])
 (.ret))
def rs101 : List RR := [.tmp 0]
theorem fun101 : FunR Tryz.prog 101 rc101 rs101 3 := ⟨Tryz.f101, Tryz.func101, by kernel_rfl, by kernel_rfl, by kernel_rfl⟩
/-- causeway/store.may -/
def rc102 : RC :=
 .seq (.ops 0 false [
 oo 4 (.val (.c (.int .i64 0)))] [])
 (.seq (.block 0 (.seq (.ops 1 false [
 oo 6 (.val (.t 0)),
 oo 7 (.eqp .str false (.t 6) (.c (.string ⟨#[]⟩))),
 oo 8 (.val (.t 7)),
 ⟨some 9,.val (.t 0),some (8,false)⟩,
 ⟨some 10,.lenT (.t 9),some (8,false)⟩,
 ⟨some 11,.bin .gtr (.t 10) (.c (.int .i64 128)),some (8,false)⟩,
 oo 12 (.pick (.t 8) (.c (.bool true)) (.t 11)),
 oo 5 (.val (.t 12))] [])
 (.cond (.t 5) (.seq (.ops 2 false [
 oo 4 (.val (.c (.int .i64 70)))] [])
 (.ret))
 (.seq (.ops 3 false [
 oo 14 (.val (.t 1)),
 oo 15 (.len (.t 14)),
 oo 16 (.bin .gtr (.t 15) (.c (.int .i64 4096))),
 oo 13 (.val (.t 16))] [])
 (.cond (.t 13) (.seq (.ops 4 false [
 oo 4 (.val (.c (.int .i64 71)))] [])
 (.ret))
 (.skip))))))
 (.seq (.ops 5 false [
 oo 4 (.val (.c (.int .i64 0)))] [])
 (.ret)))
def rs102 : List RR := [.tmp 4]
theorem fun102 : FunR Tryz.prog 102 rc102 rs102 17 := ⟨Tryz.f102, Tryz.func102, by kernel_rfl, by kernel_rfl, by kernel_rfl⟩
/-- causeway/causewayref07.with -/
def rc104 : RC :=
 .seq (.ops 0 false [
 oo 6 (.val (.c (.slice none 0 0)))] [])
 (.seq (.ops 1 false [
 oo 7 (.val (.c (.slice none 0 0)))] [])
 (.seq (.ops 2 false [
 oo 8 (.val (.c (.bool false)))] [])
 (.seq (.seq (.ops 3 false [
 oo 9 (.val (.c (.int .i64 0)))] [])
 (.block 0 (.loop (.seq (.seq (.ops 4 false [
 oo 10 (.val (.t 9)),
 oo 11 (.val (.t 0)),
 oo 12 (.len (.t 11)),
 oo 13 (.bin .lss (.t 10) (.t 12))] [])
 (.cond (.t 13) (.skip)
 (.exit 0)))
 (.seq (.block 1 (.seq (.seq (.ops 6 false [
 oo 16 (.val (.t 8)),
 oo 17 (.not (.t 16)),
 oo 18 (.val (.t 17)),
 ⟨some 19,.val (.t 0),some (18,true)⟩,
 ⟨some 20,.val (.t 9),some (18,true)⟩,
 ⟨some 21,.indexS 2 (.t 19) (.t 20),some (18,true)⟩,
 ⟨some 22,.fieldA 0 (.t 21),some (18,true)⟩,
 ⟨some 23,.load (.t 22),some (18,true)⟩,
 ⟨some 24,.val (.t 1),some (18,true)⟩,
 ⟨some 25,.sbin .geq (.t 23) (.t 24),some (18,true)⟩,
 oo 26 (.pick (.t 18) (.t 25) (.c (.bool false)))] [])
 (.cond (.t 26) (.seq (.ops 7 false [
 oo 8 (.val (.c (.bool true)))] [])
 (.ops 8 false [
 oo 27 (.val (.t 7)),
 oo 28 (.val (.t 1)),
 oo 29 (.val (.t 2)),
 oo 30 (.call 54 [.t 29]),
 oo 31 (.build [(.string ⟨#[]⟩),(.slice none 0 0)] [(0,1,(.t 28)),(1,1,(.t 30))]),
 oo 32 (.buildS 99 1 [(.string ⟨#[]⟩),(.slice none 0 0)] [(0,2,(.t 31))]),
 oo 33 (.blt .append #[22,22] 22 [.t 27,.t 32]),
 oo 7 (.val (.t 33))] []))
 (.skip)))
 (.seq (.ops 9 false [
 oo 34 (.val (.t 0)),
 oo 35 (.val (.t 9)),
 oo 36 (.indexS 2 (.t 34) (.t 35)),
 oo 37 (.fieldA 0 (.t 36)),
 oo 38 (.load (.t 37)),
 oo 39 (.val (.t 1)),
 oo 40 (.eqp .str true (.t 38) (.t 39))] [])
 (.cond (.t 40) (.ops 10 false [
 oo 41 (.val (.t 7)),
 oo 42 (.val (.t 0)),
 oo 43 (.val (.t 9)),
 oo 44 (.indexS 2 (.t 42) (.t 43)),
 oo 45 (.loadN 2 (.t 44)),
 oo 46 (.buildS 99 1 [(.string ⟨#[]⟩),(.slice none 0 0)] [(0,2,(.t 45))]),
 oo 47 (.blt .append #[22,22] 22 [.t 41,.t 46]),
 oo 7 (.val (.t 47))] [])
 (.skip)))))
 (.ops 5 false [
 oo 14 (.val (.t 9)),
 oo 15 (.bin .add (.t 14) (.c (.int .i64 1))),
 oo 9 (.val (.t 15))] []))))))
 (.seq (.seq (.ops 11 false [
 oo 48 (.val (.t 8)),
 oo 49 (.not (.t 48))] [])
 (.cond (.t 49) (.ops 12 false [
 oo 50 (.val (.t 7)),
 oo 51 (.val (.t 1)),
 oo 52 (.val (.t 2)),
 oo 53 (.call 54 [.t 52]),
 oo 54 (.build [(.string ⟨#[]⟩),(.slice none 0 0)] [(0,1,(.t 51)),(1,1,(.t 53))]),
 oo 55 (.buildS 99 1 [(.string ⟨#[]⟩),(.slice none 0 0)] [(0,2,(.t 54))]),
 oo 56 (.blt .append #[22,22] 22 [.t 50,.t 55]),
 oo 7 (.val (.t 56))] [])
 (.skip)))
 (.seq (.ops 13 false [
 oo 57 (.val (.t 7)),
 oo 6 (.val (.t 57))] [])
 (.ret))))))
def rs104 : List RR := [.tmp 6]
theorem fun104 : FunR Tryz.prog 104 rc104 rs104 58 := ⟨Tryz.f104, Tryz.func104, by kernel_rfl, by kernel_rfl, by kernel_rfl⟩
/-- causeway/wide.Add -/
def rc105 : RC :=
 .seq (.ops 0 false [
 oo 2 (.box 38 (.t 0)),
 oo 3 (.box 38 (.t 1)),
 oo 4 (.alloc 38 [(.int .u64 0),(.int .u64 0),(.int .u64 0),(.int .u64 0)]),
 oo 5 (.val (.c (.int .i64 0)))] [])
 (.seq (.ops 1 false [
 oo 6 (.alloc 38 [(.int .u64 0),(.int .u64 0),(.int .u64 0),(.int .u64 0)])] [])
 (.seq (.ops 2 false [
 oo 7 (.val (.c (.int .u64 0)))] [])
 (.seq (.seq (.ops 3 false [
 oo 9 (.val (.c (.int .i64 0)))] [])
 (.block 0 (.loop (.seq (.ops 4 false [
 oo 10 (.bin .lss (.t 9) (.c (.int .i64 4)))] [])
 (.seq (.cond (.t 10) (.skip)
 (.exit 0))
 (.seq (.block 1 (.seq (.ops 5 false [
 oo 11 (.val (.t 9)),
 oo 8 (.val (.t 11))] [])
 (.ops 6 true [
 oo 13 (.val (.t 8)),
 oo 14 (.val (.t 8)),
 oo 15 (.indexA 4 1 (.t 2) (.t 14)),
 oo 16 (.load (.t 15)),
 oo 17 (.val (.t 8)),
 oo 18 (.indexA 4 1 (.t 3) (.t 17)),
 oo 19 (.load (.t 18)),
 oo 20 (.val (.t 7)),
 oo 21 (.ext 141 [.t 16,.t 19,.t 20]),
 oo 12 (.val (.t 21)),
 oo 22 (.extract 0 (.t 12)),
 oo 23 (.extract 1 (.t 12)),
 oo 24 (.indexA 4 1 (.t 6) (.t 13)),
 ⟨none,.store 1 (.t 24) (.t 22),none⟩,
 oo 7 (.val (.t 23))] [([],[]),([],[]),([1],[1]),([2],[2]),([],[]),([4],[4]),([5],[5]),([],[]),([3,6,7],[3,6,7]),([8],[8]),([9],[9]),([9],[9]),([0,0,1,2,3,4,5,6,7,8,9,10],[0]),([12,10,8,0,1,2,3,4,5,6,7,8,9,10],[10,12]),([11,13,0,1,2,3,4,5,6,7,8,9,10,11,12,13],[7,11])])))
 (.ops 7 false [
 oo 25 (.bin .add (.t 9) (.c (.int .i64 1))),
 oo 9 (.val (.t 25))] [])))))))
 (.seq (.seq (.ops 8 false [
 oo 26 (.val (.t 7)),
 oo 27 (.bin .gtr (.t 26) (.c (.int .u64 0)))] [])
 (.cond (.t 27) (.seq (.ops 9 false [
 oo 28 (.build [(.int .u64 0),(.int .u64 0),(.int .u64 0),(.int .u64 0)] []),
 ⟨none,.store 4 (.t 4) (.t 28),none⟩,
 oo 5 (.val (.c (.int .i64 22)))] [])
 (.ret))
 (.skip)))
 (.seq (.ops 10 false [
 oo 29 (.loadN 4 (.t 6)),
 ⟨none,.store 4 (.t 4) (.t 29),none⟩,
 oo 5 (.val (.c (.int .i64 0)))] [])
 (.ret))))))
def rs105 : List RR := [.cell 4 (some 4), .tmp 5]
theorem fun105 : FunR Tryz.prog 105 rc105 rs105 30 := ⟨Tryz.f105, Tryz.func105, by kernel_rfl, by kernel_rfl, by kernel_rfl⟩
/-- causeway/ledger.balanceKey -/
def rc106 : RC :=
 .seq (.ops 0 false [
 oo 3 (.box 35 (.t 1)),
 oo 4 (.val (.c (.string ⟨#[]⟩)))] [])
 (.seq (.ops 1 false [
 oo 5 (.val (.t 0)),
 oo 6 (.conv .u8 (.t 5)),
 oo 7 (.buildS 5 2 [(.int .u8 0),(.int .u8 0)] [(0,1,(.c (.int .u8 98))),(1,1,(.t 6))]),
 oo 8 (.sliceA 20 1 (.t 3) none none),
 oo 9 (.blt .append #[97,97] 97 [.t 7,.t 8]),
 oo 10 (.cvt 97 9 (.t 9)),
 oo 4 (.val (.t 10))] [])
 (.ret))
def rs106 : List RR := [.tmp 4]
theorem fun106 : FunR Tryz.prog 106 rc106 rs106 11 := ⟨Tryz.f106, Tryz.func106, by kernel_rfl, by kernel_rfl, by kernel_rfl⟩
/-- causeway/ledger.amount -/
def rc107 : RC :=
 .seq (.ops 0 false [
 oo 4 (.alloc 38 [(.int .u64 0),(.int .u64 0),(.int .u64 0),(.int .u64 0)]),
 oo 5 (.val (.c (.int .i64 0)))] [])
 (.seq (.ops 1 false [
 oo 10 (.val (.t 0)),
 oo 11 (.val (.t 1)),
 oo 12 (.call 81 [.t 10,.t 11]),
 oo 9 (.val (.t 12)),
 oo 13 (.extract 0 (.t 9)),
 oo 14 (.extract 1 (.t 9)),
 oo 6 (.val (.t 13)),
 oo 7 (.val (.t 14))] [])
 (.seq (.seq (.ops 2 false [
 oo 15 (.val (.t 7)),
 oo 16 (.bin .neq (.t 15) (.c (.int .i64 0))),
 oo 17 (.val (.t 16)),
 ⟨some 18,.val (.t 6),some (17,false)⟩,
 ⟨some 19,.len (.t 18),some (17,false)⟩,
 ⟨some 20,.bin .eql (.t 19) (.c (.int .i64 0)),some (17,false)⟩,
 oo 21 (.pick (.t 17) (.c (.bool true)) (.t 20))] [])
 (.cond (.t 21) (.seq (.ops 3 false [
 oo 22 (.build [(.int .u64 0),(.int .u64 0),(.int .u64 0),(.int .u64 0)] []),
 oo 23 (.val (.t 7)),
 ⟨none,.store 4 (.t 4) (.t 22),none⟩,
 oo 5 (.val (.t 23))] [])
 (.ret))
 (.skip)))
 (.seq (.ops 4 false [
 oo 25 (.val (.t 6)),
 oo 26 (.call 114 [.t 25]),
 oo 24 (.val (.t 26)),
 oo 27 (.extract 0 (.t 24)),
 oo 28 (.extract 1 (.t 24)),
 oo 8 (.alloc 38 [(.int .u64 0),(.int .u64 0),(.int .u64 0),(.int .u64 0)]),
 ⟨none,.store 4 (.t 8) (.t 27),none⟩,
 oo 7 (.val (.t 28))] [])
 (.seq (.seq (.ops 5 false [
 oo 29 (.val (.t 7)),
 oo 30 (.bin .neq (.t 29) (.c (.int .i64 0))),
 oo 31 (.val (.t 30)),
 ⟨some 32,.loadN 4 (.t 8),some (31,false)⟩,
 ⟨some 33,.call 108 [.t 32],some (31,false)⟩,
 oo 34 (.pick (.t 31) (.c (.bool true)) (.t 33))] [])
 (.cond (.t 34) (.seq (.ops 6 false [
 oo 35 (.build [(.int .u64 0),(.int .u64 0),(.int .u64 0),(.int .u64 0)] []),
 ⟨none,.store 4 (.t 4) (.t 35),none⟩,
 oo 5 (.val (.c (.int .i64 75)))] [])
 (.ret))
 (.skip)))
 (.seq (.ops 7 false [
 oo 36 (.loadN 4 (.t 8)),
 ⟨none,.store 4 (.t 4) (.t 36),none⟩,
 oo 5 (.val (.c (.int .i64 0)))] [])
 (.ret))))))
def rs107 : List RR := [.cell 4 (some 4), .tmp 5]
theorem fun107 : FunR Tryz.prog 107 rc107 rs107 37 := ⟨Tryz.f107, Tryz.func107, by kernel_rfl, by kernel_rfl, by kernel_rfl⟩
/-- causeway/wide.IsZero -/
def rc108 : RC :=
 .seq (.ops 0 false [
 oo 1 (.box 38 (.t 0)),
 oo 2 (.val (.c (.bool false)))] [])
 (.seq (.ops 1 false [
 oo 3 (.loadN 4 (.t 1)),
 oo 4 (.build [(.int .u64 0),(.int .u64 0),(.int .u64 0),(.int .u64 0)] []),
 oo 5 (.eqn false 38 (.t 3) (.t 4)),
 oo 2 (.val (.t 5))] [])
 (.ret))
def rs108 : List RR := [.tmp 2]
theorem fun108 : FunR Tryz.prog 108 rc108 rs108 6 := ⟨Tryz.f108, Tryz.func108, by kernel_rfl, by kernel_rfl, by kernel_rfl⟩
/-- causeway/ledger.lay -/
def rc109 : RC :=
 .seq (.ops 0 false [
 oo 5 (.box 38 (.t 2)),
 oo 6 (.val (.c (.int .i64 0)))] [])
 (.seq (.seq (.ops 1 false [
 oo 7 (.loadN 4 (.t 5)),
 oo 8 (.call 108 [.t 7])] [])
 (.cond (.t 8) (.seq (.ops 2 false [
 oo 9 (.val (.t 0)),
 oo 10 (.val (.t 1)),
 oo 11 (.call 77 [(.t 9),(.t 10),(.c (.slice none 0 0))]),
 oo 6 (.val (.t 11))] [])
 (.ret))
 (.skip)))
 (.seq (.ops 3 false [
 oo 12 (.val (.t 0)),
 oo 13 (.val (.t 1)),
 oo 14 (.loadN 4 (.t 5)),
 oo 15 (.call 128 [.t 14]),
 oo 16 (.call 77 [.t 12,.t 13,.t 15]),
 oo 6 (.val (.t 16))] [])
 (.ret)))
def rs109 : List RR := [.tmp 6]
theorem fun109 : FunR Tryz.prog 109 rc109 rs109 17 := ⟨Tryz.f109, Tryz.func109, by kernel_rfl, by kernel_rfl, by kernel_rfl⟩
/-- causeway/ledger.begun -/
def rc112 : RC :=
 .seq (.ops 0 false [
 oo 4 (.val (.c (.int .i64 0)))] [])
 (.seq (.block 0 (.seq (.ops 1 false [
 oo 6 (.val (.t 0)),
 oo 7 (.eqp .ptr false (.t 6) (.c (.pointer none))),
 oo 5 (.val (.t 7))] [])
 (.cond (.t 5) (.seq (.ops 2 false [
 oo 4 (.val (.c (.int .i64 1)))] [])
 (.ret))
 (.seq (.ops 3 false [
 oo 9 (.val (.t 1)),
 oo 10 (.bin .lss (.t 9) (.c (.int .i64 0))),
 oo 11 (.val (.t 10)),
 ⟨some 12,.val (.t 1),some (11,false)⟩,
 ⟨some 13,.bin .geq (.t 12) (.c (.int .i64 64)),some (11,false)⟩,
 oo 14 (.pick (.t 11) (.c (.bool true)) (.t 13)),
 oo 8 (.val (.t 14))] [])
 (.cond (.t 8) (.seq (.ops 4 false [
 oo 4 (.val (.c (.int .i64 80)))] [])
 (.ret))
 (.skip))))))
 (.seq (.ops 5 false [
 oo 4 (.val (.c (.int .i64 0)))] [])
 (.ret)))
def rs112 : List RR := [.tmp 4]
theorem fun112 : FunR Tryz.prog 112 rc112 rs112 15 := ⟨Tryz.f112, Tryz.func112, by kernel_rfl, by kernel_rfl, by kernel_rfl⟩
/-- causeway/ledger.tokenKey -/
def rc113 : RC :=
 .seq (.ops 0 false [
 oo 2 (.val (.c (.string ⟨#[]⟩)))] [])
 (.seq (.ops 1 false [
 oo 3 (.val (.t 0)),
 oo 4 (.conv .u8 (.t 3)),
 oo 5 (.buildS 5 2 [(.int .u8 0),(.int .u8 0)] [(0,1,(.c (.int .u8 116))),(1,1,(.t 4))]),
 oo 6 (.cvt 97 9 (.t 5)),
 oo 2 (.val (.t 6))] [])
 (.ret))
def rs113 : List RR := [.tmp 2]
theorem fun113 : FunR Tryz.prog 113 rc113 rs113 7 := ⟨Tryz.f113, Tryz.func113, by kernel_rfl, by kernel_rfl, by kernel_rfl⟩
/-- causeway/wide.Read -/
def rc114 : RC :=
 .seq (.ops 0 false [
 oo 2 (.alloc 38 [(.int .u64 0),(.int .u64 0),(.int .u64 0),(.int .u64 0)]),
 oo 3 (.val (.c (.int .i64 0)))] [])
 (.seq (.ops 1 false [
 oo 4 (.alloc 38 [(.int .u64 0),(.int .u64 0),(.int .u64 0),(.int .u64 0)])] [])
 (.seq (.seq (.ops 2 false [
 oo 7 (.val (.t 0)),
 oo 8 (.len (.t 7)),
 oo 9 (.bin .neq (.t 8) (.c (.int .i64 32)))] [])
 (.cond (.t 9) (.seq (.ops 3 false [
 oo 10 (.loadN 4 (.t 4)),
 ⟨none,.store 4 (.t 2) (.t 10),none⟩,
 oo 3 (.val (.c (.int .i64 20)))] [])
 (.ret))
 (.skip)))
 (.seq (.seq (.ops 4 false [
 oo 11 (.val (.t 0)),
 oo 12 (.len (.t 11)),
 oo 13 (.val (.c (.int .i64 0)))] [])
 (.block 0 (.loop (.seq (.ops 5 false [
 oo 14 (.bin .lss (.t 13) (.t 12))] [])
 (.seq (.cond (.t 14) (.skip)
 (.exit 0))
 (.seq (.block 1 (.seq (.ops 6 false [
 oo 15 (.val (.t 13)),
 oo 16 (.indexS 1 (.t 11) (.t 13)),
 oo 17 (.load (.t 16)),
 oo 5 (.val (.t 15)),
 oo 6 (.val (.t 17))] [])
 (.ops 7 false [
 oo 18 (.val (.t 5)),
 oo 19 (.bin .quo (.t 18) (.c (.int .i64 8))),
 oo 20 (.bin .sub (.c (.int .i64 3)) (.t 19)),
 oo 21 (.val (.t 5)),
 oo 22 (.bin .quo (.t 21) (.c (.int .i64 8))),
 oo 23 (.bin .sub (.c (.int .i64 3)) (.t 22)),
 oo 24 (.indexA 4 1 (.t 4) (.t 23)),
 oo 25 (.load (.t 24)),
 oo 26 (.bin .shl (.t 25) (.c (.int .u64 8))),
 oo 27 (.val (.t 6)),
 oo 28 (.conv .u64 (.t 27)),
 oo 29 (.bin .or (.t 26) (.t 28)),
 oo 30 (.indexA 4 1 (.t 4) (.t 20)),
 ⟨none,.store 1 (.t 30) (.t 29),none⟩] [])))
 (.ops 8 false [
 oo 31 (.bin .add (.t 13) (.c (.int .i64 1))),
 oo 13 (.val (.t 31))] [])))))))
 (.seq (.ops 9 false [
 oo 32 (.loadN 4 (.t 4)),
 ⟨none,.store 4 (.t 2) (.t 32),none⟩,
 oo 3 (.val (.c (.int .i64 0)))] [])
 (.ret)))))
def rs114 : List RR := [.cell 2 (some 4), .tmp 3]
theorem fun114 : FunR Tryz.prog 114 rc114 rs114 33 := ⟨Tryz.f114, Tryz.func114, by kernel_rfl, by kernel_rfl, by kernel_rfl⟩
/-- causeway/causewayref02.Add -/
def rc117 : RC :=
 .seq (.ops 0 false [
 oo 2 (.box 38 (.t 0)),
 oo 3 (.box 38 (.t 1)),
 oo 4 (.alloc 38 [(.int .u64 0),(.int .u64 0),(.int .u64 0),(.int .u64 0)]),
 oo 5 (.val (.c (.int .i64 0)))] [])
 (.seq (.ops 1 true [
 oo 6 (.loadN 4 (.t 2)),
 oo 7 (.call 145 [.t 6]),
 oo 8 (.loadN 4 (.t 3)),
 oo 9 (.call 145 [.t 8]),
 oo 10 (.call 144 [.t 7,.t 9]),
 oo 11 (.call 143 [.t 10]),
 oo 12 (.extract 0 (.t 11)),
 oo 13 (.extract 1 (.t 11)),
 ⟨none,.store 4 (.t 4) (.t 12),none⟩,
 oo 5 (.val (.t 13))] [([],[]),([0],[0]),([],[]),([2,1],[2]),([1,3,3],[1,3]),([4,4],[4]),([5],[5]),([5],[5]),([6,5,0,1,2,3,4,5,6,7],[6]),([7,8,0,1,2,3,4,5,6,7,8],[7])])
 (.ret))
def rs117 : List RR := [.cell 4 (some 4), .tmp 5]
theorem fun117 : FunR Tryz.prog 117 rc117 rs117 14 := ⟨Tryz.f117, Tryz.func117, by kernel_rfl, by kernel_rfl, by kernel_rfl⟩
/-- causeway/causewayref08.asked -/
def rc118 : RC :=
 .seq (.ops 0 false [
 oo 4 (.alloc 38 [(.int .u64 0),(.int .u64 0),(.int .u64 0),(.int .u64 0)]),
 oo 5 (.val (.c (.int .i64 0)))] [])
 (.seq (.ops 1 false [
 oo 10 (.val (.t 0)),
 oo 11 (.val (.t 1)),
 oo 12 (.call 92 [.t 10,.t 11]),
 oo 9 (.val (.t 12)),
 oo 13 (.extract 0 (.t 9)),
 oo 14 (.extract 1 (.t 9)),
 oo 6 (.val (.t 13)),
 oo 7 (.val (.t 14))] [])
 (.seq (.seq (.ops 2 false [
 oo 15 (.val (.t 7)),
 oo 16 (.bin .neq (.t 15) (.c (.int .i64 0)))] [])
 (.cond (.t 16) (.seq (.ops 3 false [
 oo 17 (.build [(.int .u64 0),(.int .u64 0),(.int .u64 0),(.int .u64 0)] []),
 oo 18 (.val (.t 7)),
 ⟨none,.store 4 (.t 4) (.t 17),none⟩,
 oo 5 (.val (.t 18))] [])
 (.ret))
 (.skip)))
 (.seq (.seq (.ops 4 false [
 oo 19 (.val (.t 6)),
 oo 20 (.len (.t 19)),
 oo 21 (.bin .eql (.t 20) (.c (.int .i64 0)))] [])
 (.cond (.t 21) (.seq (.ops 5 false [
 oo 22 (.build [(.int .u64 0),(.int .u64 0),(.int .u64 0),(.int .u64 0)] []),
 ⟨none,.store 4 (.t 4) (.t 22),none⟩,
 oo 5 (.val (.c (.int .i64 0)))] [])
 (.ret))
 (.skip)))
 (.seq (.ops 6 false [
 oo 24 (.val (.t 6)),
 oo 25 (.call 94 [.t 24]),
 oo 23 (.val (.t 25)),
 oo 26 (.extract 0 (.t 23)),
 oo 27 (.extract 1 (.t 23)),
 oo 8 (.alloc 38 [(.int .u64 0),(.int .u64 0),(.int .u64 0),(.int .u64 0)]),
 ⟨none,.store 4 (.t 8) (.t 26),none⟩,
 oo 7 (.val (.t 27))] [])
 (.seq (.seq (.ops 7 false [
 oo 28 (.val (.t 7)),
 oo 29 (.bin .neq (.t 28) (.c (.int .i64 0))),
 oo 30 (.val (.t 29)),
 ⟨some 31,.loadN 4 (.t 8),some (30,false)⟩,
 ⟨some 32,.call 120 [.t 31],some (30,false)⟩,
 oo 33 (.pick (.t 30) (.c (.bool true)) (.t 32))] [])
 (.cond (.t 33) (.seq (.ops 8 false [
 oo 34 (.build [(.int .u64 0),(.int .u64 0),(.int .u64 0),(.int .u64 0)] []),
 ⟨none,.store 4 (.t 4) (.t 34),none⟩,
 oo 5 (.val (.c (.int .i64 75)))] [])
 (.ret))
 (.skip)))
 (.seq (.ops 9 false [
 oo 35 (.loadN 4 (.t 8)),
 ⟨none,.store 4 (.t 4) (.t 35),none⟩,
 oo 5 (.val (.c (.int .i64 0)))] [])
 (.ret)))))))
def rs118 : List RR := [.cell 4 (some 4), .tmp 5]
theorem fun118 : FunR Tryz.prog 118 rc118 rs118 36 := ⟨Tryz.f118, Tryz.func118, by kernel_rfl, by kernel_rfl, by kernel_rfl⟩
/-- causeway/causewayref08.BalanceKey -/
def rc119 : RC :=
 .seq (.ops 0 false [
 oo 3 (.box 35 (.t 1)),
 oo 4 (.val (.c (.string ⟨#[]⟩)))] [])
 (.seq (.ops 1 true [
 oo 5 (.val (.t 0)),
 oo 6 (.conv .u8 (.t 5)),
 oo 7 (.buildS 5 1 [(.int .u8 0)] [(0,1,(.t 6))]),
 oo 8 (.cvt 97 9 (.t 7)),
 oo 9 (.sbin .add (.c (.string ⟨#[98]⟩)) (.t 8)),
 oo 10 (.sliceA 20 1 (.t 3) none none),
 oo 11 (.cvt 97 9 (.t 10)),
 oo 12 (.sbin .add (.t 9) (.t 11)),
 oo 4 (.val (.t 12))] [([],[]),([0],[0]),([1],[1]),([2],[2]),([3],[3]),([],[]),([5],[5]),([4,6],[4,6]),([7,0,1,2,3,4,5,6,7],[7])])
 (.ret))
def rs119 : List RR := [.tmp 4]
theorem fun119 : FunR Tryz.prog 119 rc119 rs119 13 := ⟨Tryz.f119, Tryz.func119, by kernel_rfl, by kernel_rfl, by kernel_rfl⟩
/-- causeway/causewayref02.IsZero -/
def rc120 : RC :=
 .seq (.ops 0 false [
 oo 1 (.box 38 (.t 0)),
 oo 2 (.val (.c (.bool false)))] [])
 (.seq (.ops 1 false [
 oo 3 (.loadN 4 (.t 1)),
 oo 4 (.build [(.int .u64 0),(.int .u64 0),(.int .u64 0),(.int .u64 0)] []),
 oo 5 (.eqn false 38 (.t 3) (.t 4)),
 oo 2 (.val (.t 5))] [])
 (.ret))
def rs120 : List RR := [.tmp 2]
theorem fun120 : FunR Tryz.prog 120 rc120 rs120 6 := ⟨Tryz.f120, Tryz.func120, by kernel_rfl, by kernel_rfl, by kernel_rfl⟩
/-- causeway/causewayref08.lay -/
def rc121 : RC :=
 .seq (.ops 0 false [
 oo 5 (.box 38 (.t 2)),
 oo 6 (.val (.c (.int .i64 0)))] [])
 (.seq (.seq (.ops 1 false [
 oo 7 (.loadN 4 (.t 5)),
 oo 8 (.call 120 [.t 7])] [])
 (.cond (.t 8) (.seq (.ops 2 false [
 oo 9 (.val (.t 0)),
 oo 10 (.val (.t 1)),
 oo 11 (.call 88 [(.t 9),(.t 10),(.c (.slice none 0 0))]),
 oo 6 (.val (.t 11))] [])
 (.ret))
 (.skip)))
 (.seq (.ops 3 false [
 oo 12 (.val (.t 0)),
 oo 13 (.val (.t 1)),
 oo 14 (.loadN 4 (.t 5)),
 oo 15 (.call 131 [.t 14]),
 oo 16 (.call 88 [.t 12,.t 13,.t 15]),
 oo 6 (.val (.t 16))] [])
 (.ret)))
def rs121 : List RR := [.tmp 6]
theorem fun121 : FunR Tryz.prog 121 rc121 rs121 17 := ⟨Tryz.f121, Tryz.func121, by kernel_rfl, by kernel_rfl, by kernel_rfl⟩
/-- causeway/causewayref08.first -/
def rc125 : RC :=
 .seq (.ops 0 false [
 oo 4 (.val (.c (.int .i64 0)))] [])
 (.seq (.seq (.ops 1 false [
 oo 5 (.val (.t 0)),
 oo 6 (.eqp .ptr false (.t 5) (.c (.pointer none)))] [])
 (.cond (.t 6) (.seq (.ops 2 false [
 oo 4 (.val (.c (.int .i64 1)))] [])
 (.ret))
 (.skip)))
 (.seq (.seq (.ops 3 false [
 oo 7 (.val (.t 1)),
 oo 8 (.bin .lss (.t 7) (.c (.int .i64 0))),
 oo 9 (.val (.t 8)),
 ⟨some 10,.val (.t 1),some (9,false)⟩,
 ⟨some 11,.bin .geq (.t 10) (.c (.int .i64 64)),some (9,false)⟩,
 oo 12 (.pick (.t 9) (.c (.bool true)) (.t 11))] [])
 (.cond (.t 12) (.seq (.ops 4 false [
 oo 4 (.val (.c (.int .i64 80)))] [])
 (.ret))
 (.skip)))
 (.seq (.ops 5 false [
 oo 4 (.val (.c (.int .i64 0)))] [])
 (.ret))))
def rs125 : List RR := [.tmp 4]
theorem fun125 : FunR Tryz.prog 125 rc125 rs125 13 := ⟨Tryz.f125, Tryz.func125, by kernel_rfl, by kernel_rfl, by kernel_rfl⟩
/-- causeway/causewayref08.TokenKey -/
def rc126 : RC :=
 .seq (.ops 0 false [
 oo 2 (.val (.c (.string ⟨#[]⟩)))] [])
 (.seq (.ops 1 false [
 oo 3 (.val (.t 0)),
 oo 4 (.conv .u8 (.t 3)),
 oo 5 (.buildS 5 1 [(.int .u8 0)] [(0,1,(.t 4))]),
 oo 6 (.cvt 97 9 (.t 5)),
 oo 7 (.sbin .add (.c (.string ⟨#[116]⟩)) (.t 6)),
 oo 2 (.val (.t 7))] [])
 (.ret))
def rs126 : List RR := [.tmp 2]
theorem fun126 : FunR Tryz.prog 126 rc126 rs126 8 := ⟨Tryz.f126, Tryz.func126, by kernel_rfl, by kernel_rfl, by kernel_rfl⟩
/-- (*causeway/store.State).ask -/
def rc127 : RC :=
 .seq (.ops 0 false [
 oo 4 (.val (.c (.int .i64 0)))] [])
 (.seq (.seq (.ops 1 false [
 oo 10 (.val (.t 0)),
 oo 11 (.nilCheck (.t 10)),
 oo 12 (.fieldA 1 (.t 11)),
 oo 13 (.load (.t 12)),
 oo 14 (.val (.t 1)),
 oo 15 (.look 71 (.t 13) (.t 14) true),
 oo 9 (.val (.t 15)),
 oo 16 (.extract 0 (.t 9)),
 oo 17 (.extract 1 (.t 9)),
 oo 5 (.val (.t 16)),
 oo 6 (.val (.t 17))] [])
 (.seq (.ops 2 false [
 oo 18 (.val (.t 6))] [])
 (.cond (.t 18) (.seq (.ops 3 false [
 oo 4 (.val (.c (.int .i64 0)))] [])
 (.ret))
 (.skip))))
 (.seq (.ops 4 false [
 oo 20 (.val (.t 0)),
 oo 21 (.nilCheck (.t 20)),
 oo 22 (.fieldA 0 (.t 21)),
 oo 23 (.load (.t 22)),
 oo 24 (.val (.t 1)),
 oo 25 (.inv (.t 23) "Find" [.t 24]),
 oo 19 (.val (.t 25)),
 oo 26 (.extract 0 (.t 19)),
 oo 27 (.extract 1 (.t 19)),
 oo 7 (.val (.t 26)),
 oo 8 (.val (.t 27))] [])
 (.seq (.seq (.ops 5 false [
 oo 28 (.val (.t 8)),
 oo 29 (.bin .neq (.t 28) (.c (.int .i64 0)))] [])
 (.cond (.t 29) (.seq (.ops 6 false [
 oo 30 (.val (.t 8)),
 oo 4 (.val (.t 30))] [])
 (.ret))
 (.skip)))
 (.seq (.seq (.ops 7 false [
 oo 31 (.val (.t 7)),
 oo 32 (.len (.t 31)),
 oo 33 (.bin .gtr (.t 32) (.c (.int .i64 4096)))] [])
 (.cond (.t 33) (.seq (.ops 8 false [
 oo 4 (.val (.c (.int .i64 71)))] [])
 (.ret))
 (.skip)))
 (.seq (.ops 9 true [
 oo 34 (.val (.t 0)),
 oo 35 (.nilCheck (.t 34)),
 oo 36 (.fieldA 1 (.t 35)),
 oo 37 (.load (.t 36)),
 oo 38 (.val (.t 1)),
 oo 39 (.val (.t 7)),
 oo 40 (.call 52 [.t 39]),
 ⟨none,.upd 71 (.t 37) (.t 38) (.t 40),none⟩] [([],[]),([0],[0]),([1],[1]),([2],[2]),([],[]),([],[]),([5],[5]),([3,4,6,6,0,1,2,3,4,5,6],[3,4,6])])
 (.seq (.ops 10 false [
 oo 4 (.val (.c (.int .i64 0)))] [])
 (.ret)))))))
def rs127 : List RR := [.tmp 4]
theorem fun127 : FunR Tryz.prog 127 rc127 rs127 41 := ⟨Tryz.f127, Tryz.func127, by kernel_rfl, by kernel_rfl, by kernel_rfl⟩
/-- causeway/wide.Bytes -/
def rc128 : RC :=
 .seq (.ops 0 false [
 oo 1 (.box 38 (.t 0)),
 oo 2 (.val (.c (.slice none 0 0)))] [])
 (.seq (.ops 1 false [
 oo 6 (.mkS 97 (.c (.int .i64 0)) (.c (.int .i64 32))),
 oo 3 (.val (.t 6))] [])
 (.seq (.seq (.ops 2 false [
 oo 4 (.val (.c (.int .i64 3)))] [])
 (.block 0 (.loop (.seq (.seq (.ops 3 false [
 oo 7 (.val (.t 4)),
 oo 8 (.bin .geq (.t 7) (.c (.int .i64 0)))] [])
 (.cond (.t 8) (.skip)
 (.exit 0)))
 (.seq (.block 1 (.seq (.ops 5 false [
 oo 5 (.val (.c (.int .i64 56)))] [])
 (.block 2 (.loop (.seq (.seq (.ops 6 false [
 oo 11 (.val (.t 5)),
 oo 12 (.bin .geq (.t 11) (.c (.int .i64 0)))] [])
 (.cond (.t 12) (.skip)
 (.exit 2)))
 (.seq (.block 3 (.ops 8 false [
 oo 15 (.val (.t 3)),
 oo 16 (.val (.t 4)),
 oo 17 (.indexA 4 1 (.t 1) (.t 16)),
 oo 18 (.load (.t 17)),
 oo 19 (.val (.t 5)),
 oo 20 (.bin .shr (.t 18) (.t 19)),
 oo 21 (.conv .u8 (.t 20)),
 oo 22 (.buildS 5 1 [(.int .u8 0)] [(0,1,(.t 21))]),
 oo 23 (.blt .append #[97,97] 97 [.t 15,.t 22]),
 oo 3 (.val (.t 23))] []))
 (.ops 7 false [
 oo 13 (.val (.t 5)),
 oo 14 (.bin .sub (.t 13) (.c (.int .i64 8))),
 oo 5 (.val (.t 14))] [])))))))
 (.ops 4 false [
 oo 9 (.val (.t 4)),
 oo 10 (.bin .sub (.t 9) (.c (.int .i64 1))),
 oo 4 (.val (.t 10))] []))))))
 (.seq (.ops 9 false [
 oo 24 (.val (.t 3)),
 oo 2 (.val (.t 24))] [])
 (.ret))))
def rs128 : List RR := [.tmp 2]
theorem fun128 : FunR Tryz.prog 128 rc128 rs128 25 := ⟨Tryz.f128, Tryz.func128, by kernel_rfl, by kernel_rfl, by kernel_rfl⟩
/-- causeway/ticket.ticketOf$1 -/
def rc129 : RC :=
 .seq (.ops 0 false [
 oo 3 (.val (.c (.slice none 0 0)))] [])
 (.seq (.ops 1 false [
 oo 5 (.load (.t 1)),
 oo 6 (.val (.t 0)),
 oo 7 (.slice 1 (.t 5) none (some (.t 6)) none),
 oo 4 (.val (.t 7))] [])
 (.seq (.ops 2 false [
 oo 8 (.load (.t 1)),
 oo 9 (.val (.t 0)),
 oo 10 (.slice 1 (.t 8) (some (.t 9)) none none),
 ⟨none,.store 1 (.t 1) (.t 10),none⟩] [])
 (.seq (.ops 3 false [
 oo 11 (.val (.t 4)),
 oo 3 (.val (.t 11))] [])
 (.ret))))
def rs129 : List RR := [.tmp 3]
theorem fun129 : FunR Tryz.prog 129 rc129 rs129 12 := ⟨Tryz.f129, Tryz.func129, by kernel_rfl, by kernel_rfl, by kernel_rfl⟩
/-- (*causeway/causewayref07.State).ask -/
def rc130 : RC :=
 .seq (.ops 0 false [
 oo 4 (.val (.c (.int .i64 0)))] [])
 (.seq (.ops 1 false [
 oo 6 (.val (.t 0)),
 oo 7 (.val (.t 1)),
 oo 8 (.call 148 [.t 6,.t 7]),
 oo 5 (.val (.t 8))] [])
 (.seq (.seq (.ops 2 false [
 oo 9 (.val (.t 5)),
 oo 10 (.bin .neq (.t 9) (.c (.int .i64 0))),
 oo 11 (.val (.t 10)),
 ⟨some 12,.val (.t 0),some (11,true)⟩,
 ⟨some 13,.nilCheck (.t 12),some (11,true)⟩,
 ⟨some 14,.fieldA 6 (.t 13),some (11,true)⟩,
 ⟨some 15,.load (.t 14),some (11,true)⟩,
 ⟨some 16,.bin .eql (.t 15) (.c (.int .i64 0)),some (11,true)⟩,
 oo 17 (.pick (.t 11) (.t 16) (.c (.bool false)))] [])
 (.cond (.t 17) (.ops 3 false [
 oo 18 (.val (.t 0)),
 oo 19 (.val (.t 5)),
 oo 20 (.nilCheck (.t 18)),
 oo 21 (.fieldA 6 (.t 20)),
 ⟨none,.store 1 (.t 21) (.t 19),none⟩] [])
 (.skip)))
 (.seq (.ops 4 false [
 oo 22 (.val (.t 5)),
 oo 4 (.val (.t 22))] [])
 (.ret))))
def rs130 : List RR := [.tmp 4]
theorem fun130 : FunR Tryz.prog 130 rc130 rs130 23 := ⟨Tryz.f130, Tryz.func130, by kernel_rfl, by kernel_rfl, by kernel_rfl⟩
/-- causeway/causewayref02.Bytes -/
def rc131 : RC :=
 .seq (.ops 0 false [
 oo 1 (.box 38 (.t 0)),
 oo 2 (.val (.c (.slice none 0 0)))] [])
 (.seq (.ops 1 false [
 oo 5 (.mkS 97 (.c (.int .i64 32)) (.c (.int .i64 32))),
 oo 3 (.val (.t 5))] [])
 (.seq (.seq (.ops 2 false [
 oo 4 (.val (.c (.int .i64 0)))] [])
 (.block 0 (.loop (.seq (.seq (.ops 3 false [
 oo 6 (.val (.t 4)),
 oo 7 (.bin .lss (.t 6) (.c (.int .i64 32)))] [])
 (.cond (.t 7) (.skip)
 (.exit 0)))
 (.seq (.block 1 (.ops 5 false [
 oo 10 (.val (.t 3)),
 oo 11 (.val (.t 4)),
 oo 12 (.bin .sub (.c (.int .i64 31)) (.t 11)),
 oo 13 (.val (.t 4)),
 oo 14 (.bin .quo (.t 13) (.c (.int .i64 8))),
 oo 15 (.indexA 4 1 (.t 1) (.t 14)),
 oo 16 (.load (.t 15)),
 oo 17 (.val (.t 4)),
 oo 18 (.bin .rem (.t 17) (.c (.int .i64 8))),
 oo 19 (.bin .mul (.c (.int .i64 8)) (.t 18)),
 oo 20 (.bin .shr (.t 16) (.t 19)),
 oo 21 (.conv .u8 (.t 20)),
 oo 22 (.indexS 1 (.t 10) (.t 12)),
 ⟨none,.store 1 (.t 22) (.t 21),none⟩] []))
 (.ops 4 false [
 oo 8 (.val (.t 4)),
 oo 9 (.bin .add (.t 8) (.c (.int .i64 1))),
 oo 4 (.val (.t 9))] []))))))
 (.seq (.ops 6 false [
 oo 23 (.val (.t 3)),
 oo 2 (.val (.t 23))] [])
 (.ret))))
def rs131 : List RR := [.tmp 2]
theorem fun131 : FunR Tryz.prog 131 rc131 rs131 24 := ⟨Tryz.f131, Tryz.func131, by kernel_rfl, by kernel_rfl, by kernel_rfl⟩
/-- causeway/causewayref02.answered -/
def rc143 : RC :=
 .seq (.ops 0 false [
 oo 2 (.alloc 38 [(.int .u64 0),(.int .u64 0),(.int .u64 0),(.int .u64 0)]),
 oo 3 (.val (.c (.int .i64 0)))] [])
 (.seq (.ops 1 false [
 oo 7 (.val (.t 0)),
 oo 8 (.call 166 [.t 7]),
 oo 6 (.val (.t 8)),
 oo 9 (.extract 0 (.t 6)),
 oo 10 (.extract 1 (.t 6)),
 oo 4 (.alloc 38 [(.int .u64 0),(.int .u64 0),(.int .u64 0),(.int .u64 0)]),
 ⟨none,.store 4 (.t 4) (.t 9),none⟩,
 oo 5 (.val (.t 10))] [])
 (.seq (.seq (.ops 2 false [
 oo 11 (.val (.t 5)),
 oo 12 (.not (.t 11))] [])
 (.cond (.t 12) (.seq (.ops 3 false [
 oo 13 (.build [(.int .u64 0),(.int .u64 0),(.int .u64 0),(.int .u64 0)] []),
 ⟨none,.store 4 (.t 2) (.t 13),none⟩,
 oo 3 (.val (.c (.int .i64 22)))] [])
 (.ret))
 (.skip)))
 (.seq (.ops 4 false [
 oo 14 (.loadN 4 (.t 4)),
 ⟨none,.store 4 (.t 2) (.t 14),none⟩,
 oo 3 (.val (.c (.int .i64 0)))] [])
 (.ret))))
def rs143 : List RR := [.cell 2 (some 4), .tmp 3]
theorem fun143 : FunR Tryz.prog 143 rc143 rs143 15 := ⟨Tryz.f143, Tryz.func143, by kernel_rfl, by kernel_rfl, by kernel_rfl⟩
/-- causeway/causewayref02.plus -/
def rc144 : RC :=
 .seq (.ops 0 false [
 oo 4 (.val (.c (.slice none 0 0)))] [])
 (.seq (.ops 1 false [
 oo 5 (.val (.c (.slice none 0 0)))] [])
 (.seq (.ops 2 false [
 oo 6 (.val (.c (.int .i64 0)))] [])
 (.seq (.seq (.ops 3 false [
 oo 7 (.val (.c (.int .i64 0)))] [])
 (.block 0 (.loop (.seq (.seq (.ops 4 false [
 oo 9 (.val (.t 7)),
 oo 10 (.val (.t 0)),
 oo 11 (.len (.t 10)),
 oo 12 (.bin .lss (.t 9) (.t 11)),
 oo 13 (.val (.t 12)),
 ⟨some 14,.val (.t 7),some (13,false)⟩,
 ⟨some 15,.val (.t 1),some (13,false)⟩,
 ⟨some 16,.len (.t 15),some (13,false)⟩,
 ⟨some 17,.bin .lss (.t 14) (.t 16),some (13,false)⟩,
 oo 18 (.pick (.t 13) (.c (.bool true)) (.t 17)),
 oo 19 (.val (.t 18)),
 ⟨some 20,.val (.t 6),some (19,false)⟩,
 ⟨some 21,.bin .gtr (.t 20) (.c (.int .i64 0)),some (19,false)⟩,
 oo 22 (.pick (.t 19) (.c (.bool true)) (.t 21))] [])
 (.cond (.t 22) (.skip)
 (.exit 0)))
 (.seq (.block 1 (.seq (.ops 6 false [
 oo 25 (.val (.t 6)),
 oo 8 (.val (.t 25))] [])
 (.seq (.seq (.ops 7 false [
 oo 26 (.val (.t 7)),
 oo 27 (.val (.t 0)),
 oo 28 (.len (.t 27)),
 oo 29 (.bin .lss (.t 26) (.t 28))] [])
 (.cond (.t 29) (.ops 8 false [
 oo 30 (.val (.t 8)),
 oo 31 (.val (.t 0)),
 oo 32 (.val (.t 7)),
 oo 33 (.indexS 1 (.t 31) (.t 32)),
 oo 34 (.load (.t 33)),
 oo 35 (.bin .add (.t 30) (.t 34)),
 oo 8 (.val (.t 35))] [])
 (.skip)))
 (.seq (.seq (.ops 9 false [
 oo 36 (.val (.t 7)),
 oo 37 (.val (.t 1)),
 oo 38 (.len (.t 37)),
 oo 39 (.bin .lss (.t 36) (.t 38))] [])
 (.cond (.t 39) (.ops 10 false [
 oo 40 (.val (.t 8)),
 oo 41 (.val (.t 1)),
 oo 42 (.val (.t 7)),
 oo 43 (.indexS 1 (.t 41) (.t 42)),
 oo 44 (.load (.t 43)),
 oo 45 (.bin .add (.t 40) (.t 44)),
 oo 8 (.val (.t 45))] [])
 (.skip)))
 (.seq (.ops 11 false [
 oo 46 (.val (.t 5)),
 oo 47 (.val (.t 8)),
 oo 48 (.bin .rem (.t 47) (.c (.int .i64 2))),
 oo 49 (.buildS 3 1 [(.int .i64 0)] [(0,1,(.t 48))]),
 oo 50 (.blt .append #[73,73] 73 [.t 46,.t 49]),
 oo 5 (.val (.t 50))] [])
 (.ops 12 false [
 oo 51 (.val (.t 8)),
 oo 52 (.bin .quo (.t 51) (.c (.int .i64 2))),
 oo 6 (.val (.t 52))] []))))))
 (.ops 5 false [
 oo 23 (.val (.t 7)),
 oo 24 (.bin .add (.t 23) (.c (.int .i64 1))),
 oo 7 (.val (.t 24))] []))))))
 (.seq (.ops 13 false [
 oo 53 (.val (.t 5)),
 oo 54 (.call 167 [.t 53]),
 oo 4 (.val (.t 54))] [])
 (.ret)))))
def rs144 : List RR := [.tmp 4]
theorem fun144 : FunR Tryz.prog 144 rc144 rs144 55 := ⟨Tryz.f144, Tryz.func144, by kernel_rfl, by kernel_rfl, by kernel_rfl⟩
/-- causeway/causewayref02.digits -/
def rc145 : RC :=
 .seq (.ops 0 false [
 oo 1 (.box 38 (.t 0)),
 oo 2 (.val (.c (.slice none 0 0)))] [])
 (.seq (.ops 1 false [
 oo 5 (.mkS 73 (.c (.int .i64 256)) (.c (.int .i64 256))),
 oo 3 (.val (.t 5))] [])
 (.seq (.seq (.ops 2 false [
 oo 4 (.val (.c (.int .i64 0)))] [])
 (.block 0 (.loop (.seq (.seq (.ops 3 false [
 oo 6 (.val (.t 4)),
 oo 7 (.bin .lss (.t 6) (.c (.int .i64 256)))] [])
 (.cond (.t 7) (.skip)
 (.exit 0)))
 (.seq (.block 1 (.ops 5 false [
 oo 10 (.val (.t 3)),
 oo 11 (.val (.t 4)),
 oo 12 (.val (.t 4)),
 oo 13 (.bin .quo (.t 12) (.c (.int .i64 64))),
 oo 14 (.indexA 4 1 (.t 1) (.t 13)),
 oo 15 (.load (.t 14)),
 oo 16 (.val (.t 4)),
 oo 17 (.bin .rem (.t 16) (.c (.int .i64 64))),
 oo 18 (.bin .shr (.t 15) (.t 17)),
 oo 19 (.conv .i64 (.t 18)),
 oo 20 (.bin .and (.t 19) (.c (.int .i64 1))),
 oo 21 (.indexS 1 (.t 10) (.t 11)),
 ⟨none,.store 1 (.t 21) (.t 20),none⟩] []))
 (.ops 4 false [
 oo 8 (.val (.t 4)),
 oo 9 (.bin .add (.t 8) (.c (.int .i64 1))),
 oo 4 (.val (.t 9))] []))))))
 (.seq (.ops 6 false [
 oo 22 (.val (.t 3)),
 oo 23 (.call 167 [.t 22]),
 oo 2 (.val (.t 23))] [])
 (.ret))))
def rs145 : List RR := [.tmp 2]
theorem fun145 : FunR Tryz.prog 145 rc145 rs145 24 := ⟨Tryz.f145, Tryz.func145, by kernel_rfl, by kernel_rfl, by kernel_rfl⟩
/-- (*causeway/causewayref07.State).asked -/
def rc148 : RC :=
 .seq (.ops 0 false [
 oo 4 (.val (.c (.int .i64 0)))] [])
 (.seq (.ops 1 false [
 oo 11 (.val (.t 0)),
 oo 12 (.nilCheck (.t 11)),
 oo 13 (.fieldA 3 (.t 12)),
 oo 14 (.load (.t 13)),
 oo 15 (.val (.t 1)),
 oo 16 (.call 100 [.t 14,.t 15]),
 oo 10 (.val (.t 16)),
 oo 17 (.extract 0 (.t 10)),
 oo 18 (.extract 1 (.t 10)),
 oo 5 (.val (.t 17)),
 oo 6 (.val (.t 18))] [])
 (.seq (.seq (.ops 2 false [
 oo 19 (.val (.t 6))] [])
 (.cond (.t 19) (.seq (.ops 3 false [
 oo 4 (.val (.c (.int .i64 0)))] [])
 (.ret))
 (.skip)))
 (.seq (.seq (.ops 4 false [
 oo 7 (.val (.c (.int .i64 0)))] [])
 (.block 0 (.loop (.seq (.seq (.ops 5 false [
 oo 20 (.val (.t 7)),
 oo 21 (.val (.t 0)),
 oo 22 (.nilCheck (.t 21)),
 oo 23 (.fieldA 2 (.t 22)),
 oo 24 (.load (.t 23)),
 oo 25 (.len (.t 24)),
 oo 26 (.bin .lss (.t 20) (.t 25))] [])
 (.cond (.t 26) (.skip)
 (.exit 0)))
 (.seq (.block 1 (.seq (.ops 7 false [
 oo 29 (.val (.t 0)),
 oo 30 (.nilCheck (.t 29)),
 oo 31 (.fieldA 2 (.t 30)),
 oo 32 (.load (.t 31)),
 oo 33 (.val (.t 7)),
 oo 34 (.indexS 2 (.t 32) (.t 33)),
 oo 35 (.fieldA 0 (.t 34)),
 oo 36 (.load (.t 35)),
 oo 37 (.val (.t 1)),
 oo 38 (.eqp .str false (.t 36) (.t 37)),
 oo 39 (.val (.t 38)),
 ⟨some 40,.val (.t 0),some (39,true)⟩,
 ⟨some 41,.nilCheck (.t 40),some (39,true)⟩,
 ⟨some 42,.fieldA 2 (.t 41),some (39,true)⟩,
 ⟨some 43,.load (.t 42),some (39,true)⟩,
 ⟨some 44,.val (.t 7),some (39,true)⟩,
 ⟨some 45,.indexS 2 (.t 43) (.t 44),some (39,true)⟩,
 ⟨some 46,.fieldA 1 (.t 45),some (39,true)⟩,
 ⟨some 47,.load (.t 46),some (39,true)⟩,
 ⟨some 48,.bin .neq (.t 47) (.c (.int .i64 0)),some (39,true)⟩,
 oo 49 (.pick (.t 39) (.t 48) (.c (.bool false)))] [])
 (.cond (.t 49) (.seq (.ops 8 false [
 oo 50 (.val (.t 0)),
 oo 51 (.nilCheck (.t 50)),
 oo 52 (.fieldA 2 (.t 51)),
 oo 53 (.load (.t 52)),
 oo 54 (.val (.t 7)),
 oo 55 (.indexS 2 (.t 53) (.t 54)),
 oo 56 (.fieldA 1 (.t 55)),
 oo 57 (.load (.t 56)),
 oo 4 (.val (.t 57))] [])
 (.ret))
 (.skip))))
 (.ops 6 false [
 oo 27 (.val (.t 7)),
 oo 28 (.bin .add (.t 27) (.c (.int .i64 1))),
 oo 7 (.val (.t 28))] []))))))
 (.seq (.ops 9 false [
 oo 59 (.val (.t 0)),
 oo 60 (.nilCheck (.t 59)),
 oo 61 (.fieldA 0 (.t 60)),
 oo 62 (.load (.t 61)),
 oo 63 (.val (.t 1)),
 oo 64 (.call 100 [.t 62,.t 63]),
 oo 58 (.val (.t 64)),
 oo 65 (.extract 0 (.t 58)),
 oo 66 (.extract 1 (.t 58)),
 oo 8 (.val (.t 65)),
 oo 9 (.val (.t 66))] [])
 (.seq (.seq (.ops 10 false [
 oo 67 (.val (.t 9)),
 oo 68 (.not (.t 67)),
 oo 69 (.val (.t 68)),
 ⟨some 70,.val (.t 0),some (69,true)⟩,
 ⟨some 71,.nilCheck (.t 70),some (69,true)⟩,
 ⟨some 72,.fieldA 1 (.t 71),some (69,true)⟩,
 ⟨some 73,.load (.t 72),some (69,true)⟩,
 oo 74 (.pick (.t 69) (.t 73) (.c (.bool false)))] [])
 (.cond (.t 74) (.seq (.ops 11 false [
 oo 4 (.val (.c (.int .i64 74)))] [])
 (.ret))
 (.skip)))
 (.seq (.seq (.ops 12 false [
 oo 75 (.val (.t 8)),
 oo 76 (.len (.t 75)),
 oo 77 (.bin .gtr (.t 76) (.c (.int .i64 4096)))] [])
 (.cond (.t 77) (.seq (.ops 13 false [
 oo 4 (.val (.c (.int .i64 71)))] [])
 (.ret))
 (.skip)))
 (.seq (.ops 14 false [
 oo 78 (.val (.t 0)),
 oo 79 (.val (.t 0)),
 oo 80 (.nilCheck (.t 79)),
 oo 81 (.fieldA 3 (.t 80)),
 oo 82 (.load (.t 81)),
 oo 83 (.val (.t 1)),
 oo 84 (.val (.t 8)),
 oo 85 (.call 104 [.t 82,.t 83,.t 84]),
 oo 86 (.nilCheck (.t 78)),
 oo 87 (.fieldA 3 (.t 86)),
 ⟨none,.store 1 (.t 87) (.t 85),none⟩] [])
 (.seq (.ops 15 false [
 oo 4 (.val (.c (.int .i64 0)))] [])
 (.ret)))))))))
def rs148 : List RR := [.tmp 4]
theorem fun148 : FunR Tryz.prog 148 rc148 rs148 88 := ⟨Tryz.f148, Tryz.func148, by kernel_rfl, by kernel_rfl, by kernel_rfl⟩
/-- causeway/causewayref02.number -/
def rc166 : RC :=
 .seq (.ops 0 false [
 oo 2 (.alloc 38 [(.int .u64 0),(.int .u64 0),(.int .u64 0),(.int .u64 0)]),
 oo 3 (.val (.c (.bool false)))] [])
 (.seq (.ops 1 false [
 oo 6 (.val (.t 0)),
 oo 7 (.call 167 [.t 6]),
 oo 0 (.val (.t 7))] [])
 (.seq (.ops 2 false [
 oo 4 (.alloc 38 [(.int .u64 0),(.int .u64 0),(.int .u64 0),(.int .u64 0)])] [])
 (.seq (.seq (.ops 3 false [
 oo 8 (.val (.t 0)),
 oo 9 (.len (.t 8)),
 oo 10 (.bin .gtr (.t 9) (.c (.int .i64 256)))] [])
 (.cond (.t 10) (.seq (.ops 4 false [
 oo 11 (.loadN 4 (.t 4)),
 ⟨none,.store 4 (.t 2) (.t 11),none⟩,
 oo 3 (.val (.c (.bool false)))] [])
 (.ret))
 (.skip)))
 (.seq (.seq (.ops 5 false [
 oo 5 (.val (.c (.int .i64 0)))] [])
 (.block 0 (.loop (.seq (.seq (.ops 6 false [
 oo 12 (.val (.t 5)),
 oo 13 (.val (.t 0)),
 oo 14 (.len (.t 13)),
 oo 15 (.bin .lss (.t 12) (.t 14))] [])
 (.cond (.t 15) (.skip)
 (.exit 0)))
 (.seq (.block 1 (.ops 8 true [
 oo 18 (.val (.t 5)),
 oo 19 (.bin .quo (.t 18) (.c (.int .i64 64))),
 oo 20 (.val (.t 5)),
 oo 21 (.bin .quo (.t 20) (.c (.int .i64 64))),
 oo 22 (.indexA 4 1 (.t 4) (.t 21)),
 oo 23 (.load (.t 22)),
 oo 24 (.val (.t 0)),
 oo 25 (.val (.t 5)),
 oo 26 (.indexS 1 (.t 24) (.t 25)),
 oo 27 (.load (.t 26)),
 oo 28 (.conv .u64 (.t 27)),
 oo 29 (.val (.t 5)),
 oo 30 (.bin .rem (.t 29) (.c (.int .i64 64))),
 oo 31 (.bin .shl (.t 28) (.t 30)),
 oo 32 (.bin .or (.t 23) (.t 31)),
 oo 33 (.indexA 4 1 (.t 4) (.t 19)),
 ⟨none,.store 1 (.t 33) (.t 32),none⟩] [([],[]),([0],[0]),([],[]),([2],[2]),([3],[3]),([4],[4]),([],[]),([],[]),([6,7],[6,7]),([8],[8]),([9],[9]),([],[]),([11],[11]),([10,12],[10,12]),([5,13],[5,13]),([1,0,1,2,3,4,5,6,7,8,9,10,11,12,13,14],[1]),([15,14,0,1,2,3,4,5,6,7,8,9,10,11,12,13,14],[14,15])]))
 (.ops 7 false [
 oo 16 (.val (.t 5)),
 oo 17 (.bin .add (.t 16) (.c (.int .i64 1))),
 oo 5 (.val (.t 17))] []))))))
 (.seq (.ops 9 false [
 oo 34 (.loadN 4 (.t 4)),
 ⟨none,.store 4 (.t 2) (.t 34),none⟩,
 oo 3 (.val (.c (.bool true)))] [])
 (.ret))))))
def rs166 : List RR := [.cell 2 (some 4), .tmp 3]
theorem fun166 : FunR Tryz.prog 166 rc166 rs166 35 := ⟨Tryz.f166, Tryz.func166, by kernel_rfl, by kernel_rfl, by kernel_rfl⟩
/-- causeway/causewayref02.cut -/
def rc167 : RC :=
 .seq (.ops 0 false [
 oo 2 (.val (.c (.slice none 0 0)))] [])
 (.seq (.ops 1 false [
 oo 4 (.val (.t 0)),
 oo 5 (.len (.t 4)),
 oo 3 (.val (.t 5))] [])
 (.seq (.block 0 (.loop (.seq (.seq (.ops 2 false [
 oo 6 (.val (.t 3)),
 oo 7 (.bin .gtr (.t 6) (.c (.int .i64 0))),
 oo 8 (.val (.t 7)),
 ⟨some 9,.val (.t 0),some (8,true)⟩,
 ⟨some 10,.val (.t 3),some (8,true)⟩,
 ⟨some 11,.bin .sub (.t 10) (.c (.int .i64 1)),some (8,true)⟩,
 ⟨some 12,.indexS 1 (.t 9) (.t 11),some (8,true)⟩,
 ⟨some 13,.load (.t 12),some (8,true)⟩,
 ⟨some 14,.bin .eql (.t 13) (.c (.int .i64 0)),some (8,true)⟩,
 oo 15 (.pick (.t 8) (.t 14) (.c (.bool false)))] [])
 (.cond (.t 15) (.skip)
 (.exit 0)))
 (.block 1 (.ops 3 false [
 oo 16 (.val (.t 3)),
 oo 17 (.bin .sub (.t 16) (.c (.int .i64 1))),
 oo 3 (.val (.t 17))] [])))))
 (.seq (.ops 4 false [
 oo 18 (.val (.t 0)),
 oo 19 (.val (.t 3)),
 oo 20 (.slice 1 (.t 18) none (some (.t 19)) none),
 oo 2 (.val (.t 20))] [])
 (.ret))))
def rs167 : List RR := [.tmp 2]
theorem fun167 : FunR Tryz.prog 167 rc167 rs167 21 := ⟨Tryz.f167, Tryz.func167, by kernel_rfl, by kernel_rfl, by kernel_rfl⟩
/-- (*causeway/causewaylaw09.Some).Find -/
def rc207 : RC :=
 .seq (.ops 0 false [
 oo 4 (.val (.c (.slice none 0 0))),
 oo 5 (.val (.c (.int .i64 0)))] [])
 (.seq (.seq (.ops 1 false [
 oo 6 (.val (.c (.int .i64 0)))] [])
 (.block 0 (.loop (.seq (.seq (.ops 2 false [
 oo 7 (.val (.t 6)),
 oo 8 (.val (.t 0)),
 oo 9 (.nilCheck (.t 8)),
 oo 10 (.fieldA 0 (.t 9)),
 oo 11 (.load (.t 10)),
 oo 12 (.len (.t 11)),
 oo 13 (.bin .lss (.t 7) (.t 12))] [])
 (.cond (.t 13) (.skip)
 (.exit 0)))
 (.seq (.block 1 (.seq (.ops 4 false [
 oo 16 (.val (.t 0)),
 oo 17 (.nilCheck (.t 16)),
 oo 18 (.fieldA 0 (.t 17)),
 oo 19 (.load (.t 18)),
 oo 20 (.val (.t 6)),
 oo 21 (.indexS 2 (.t 19) (.t 20)),
 oo 22 (.fieldA 0 (.t 21)),
 oo 23 (.load (.t 22)),
 oo 24 (.val (.t 1)),
 oo 25 (.eqp .str false (.t 23) (.t 24))] [])
 (.cond (.t 25) (.seq (.ops 5 false [
 oo 26 (.buildS 5 0 [] []),
 oo 27 (.val (.t 0)),
 oo 28 (.nilCheck (.t 27)),
 oo 29 (.fieldA 0 (.t 28)),
 oo 30 (.load (.t 29)),
 oo 31 (.val (.t 6)),
 oo 32 (.indexS 2 (.t 30) (.t 31)),
 oo 33 (.fieldA 1 (.t 32)),
 oo 34 (.load (.t 33)),
 oo 35 (.blt .append #[97,97] 97 [.t 26,.t 34]),
 oo 4 (.val (.t 35)),
 oo 5 (.val (.c (.int .i64 0)))] [])
 (.ret))
 (.skip))))
 (.ops 3 false [
 oo 14 (.val (.t 6)),
 oo 15 (.bin .add (.t 14) (.c (.int .i64 1))),
 oo 6 (.val (.t 15))] []))))))
 (.seq (.ops 6 false [
 oo 4 (.val (.c (.slice none 0 0))),
 oo 5 (.val (.c (.int .i64 74)))] [])
 (.ret)))
def rs207 : List RR := [.tmp 4, .tmp 5]
theorem fun207 : FunR Tryz.prog 207 rc207 rs207 36 := ⟨Tryz.f207, Tryz.func207, by kernel_rfl, by kernel_rfl, by kernel_rfl⟩
/-- (*causeway/store.Table).Find -/
def rc209 : RC :=
 .seq (.ops 0 false [
 oo 4 (.val (.c (.slice none 0 0))),
 oo 5 (.val (.c (.int .i64 0)))] [])
 (.seq (.seq (.ops 1 false [
 oo 7 (.val (.t 1)),
 oo 8 (.call 102 [(.t 7),(.c (.slice none 0 0))]),
 oo 6 (.val (.t 8))] [])
 (.seq (.ops 2 false [
 oo 9 (.val (.t 6)),
 oo 10 (.bin .neq (.t 9) (.c (.int .i64 0)))] [])
 (.cond (.t 10) (.seq (.ops 3 false [
 oo 11 (.val (.t 6)),
 oo 4 (.val (.c (.slice none 0 0))),
 oo 5 (.val (.t 11))] [])
 (.ret))
 (.skip))))
 (.seq (.ops 4 false [
 oo 12 (.val (.t 0)),
 oo 13 (.nilCheck (.t 12)),
 oo 14 (.fieldA 0 (.t 13)),
 oo 15 (.load (.t 14)),
 oo 16 (.val (.t 1)),
 oo 17 (.look 71 (.t 15) (.t 16) false),
 oo 18 (.call 52 [.t 17]),
 oo 4 (.val (.t 18)),
 oo 5 (.val (.c (.int .i64 0)))] [])
 (.ret)))
def rs209 : List RR := [.tmp 4, .tmp 5]
theorem fun209 : FunR Tryz.prog 209 rc209 rs209 19 := ⟨Tryz.f209, Tryz.func209, by kernel_rfl, by kernel_rfl, by kernel_rfl⟩
end Go.Proofs.YtjacolfhlfogkabGreatDoor
