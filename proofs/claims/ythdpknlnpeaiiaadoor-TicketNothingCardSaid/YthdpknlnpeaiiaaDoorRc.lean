/-
  The resolved texts of this seat's functions, printed by this session's own program, and that they are what the translation has.
-/
import Derived.Test.YthdpknlnpeaiiaaDoorChecked
import Derived.Test.YthdpknlnpeaiiaaDoorZCd
import Derived.KernelRfl
namespace Go.Proofs.YthdpknlnpeaiiaaDoor
open Go Go.Sl
set_option maxRecDepth 100000
/-- causeway/causewaylaw09.TicketNames -/
def rc9 : RC :=
 .seq (.ops 0 false [
  ⟨some 0, .val (.c (.bool false)), none⟩] [])
 (.seq (.ops 1 false [
   ⟨some 1, .val (.c (.bool true)), none⟩] [])
  (.seq (.ops 2 false [
    ⟨some 2, .val (.t 1), none⟩,
    ⟨some 3, .val (.t 2), none⟩,
    ⟨some 4, .pick (.t 3) (.c (.bool true)) (.c (.bool false)), none⟩,
    ⟨some 5, .val (.t 4), none⟩,
    ⟨some 6, .pick (.t 5) (.c (.bool true)) (.c (.bool false)), none⟩,
    ⟨some 7, .val (.t 6), none⟩,
    ⟨some 8, .call 41 [], some (7, true)⟩,
    ⟨some 9, .pick (.t 7) (.t 8) (.c (.bool false)), none⟩,
    ⟨some 0, .val (.t 9), none⟩] [])
   (.ret)))
def rs9 : List RR := [.tmp 0]
theorem fun9 : FunR Tryd.prog 9 rc9 rs9 10 := ⟨Tryd.f9, Tryd.func9, by kernel_rfl, by kernel_rfl, by kernel_rfl⟩
/-- causeway/causewaylaw09.TicketNothing -/
def rc10 : RC :=
 .seq (.ops 0 false [
  ⟨some 1, .box 98 (.t 0), none⟩,
  ⟨some 2, .val (.c (.bool false)), none⟩] [])
 (.seq (.ops 1 false [
   ⟨some 14, .fieldA 2 (.t 1), none⟩,
   ⟨some 15, .loadN 47 (.t 14), none⟩,
   ⟨some 16, .call 42 [(.c (.pointer none)), (.t 15)], none⟩,
   ⟨some 13, .val (.t 16), none⟩,
   ⟨some 17, .extract 0 (.t 13), none⟩,
   ⟨some 18, .extract 1 (.t 13), none⟩,
   ⟨some 3, .val (.t 17), none⟩,
   ⟨some 4, .val (.t 18), none⟩] [])
  (.seq (.ops 2 false [
    ⟨some 20, .fieldA 1 (.t 1), none⟩,
    ⟨some 21, .load (.t 20), none⟩,
    ⟨some 22, .call 43 [(.c (.pointer none)), (.t 21)], none⟩,
    ⟨some 19, .val (.t 22), none⟩,
    ⟨some 23, .extract 0 (.t 19), none⟩,
    ⟨some 24, .extract 1 (.t 19), none⟩,
    ⟨some 5, .alloc 96 [(.int .i64 0), (.int .i64 0), (.int .u8 0), (.int .u8 0), (.int .u8 0), (.int .u8 0), (.int .u8 0), (.int .u8 0), (.int .u8 0), (.int .u8 0), (.int .u8 0), (.int .u8 0), (.int .u8 0), (.int .u8 0), (.int .u8 0), (.int .u8 0), (.int .u8 0), (.int .u8 0), (.int .u8 0), (.int .u8 0), (.int .u8 0), (.int .u8 0), (.int .i64 0), (.int .u8 0), (.int .u8 0), (.int .u8 0), (.int .u8 0), (.int .u8 0), (.int .u8 0), (.int .u8 0), (.int .u8 0), (.int .u8 0), (.int .u8 0), (.int .u8 0), (.int .u8 0), (.int .u8 0), (.int .u8 0), (.int .u8 0), (.int .u8 0), (.int .u8 0), (.int .u8 0), (.int .u8 0), (.int .u8 0), (.int .u64 0), (.int .u64 0), (.int .u64 0), (.int .u64 0)], none⟩,
    ⟨none, .store 47 (.t 5) (.t 23), none⟩,
    ⟨some 6, .val (.t 24), none⟩] [])
   (.seq (.ops 3 false [
     ⟨some 26, .call 44 [(.c (.pointer none))], none⟩,
     ⟨some 25, .val (.t 26), none⟩,
     ⟨some 27, .extract 0 (.t 25), none⟩,
     ⟨some 28, .extract 1 (.t 25), none⟩,
     ⟨some 7, .val (.t 27), none⟩,
     ⟨some 8, .val (.t 28), none⟩] [])
    (.seq (.ops 4 false [
      ⟨some 29, .fieldA 1 (.t 1), none⟩,
      ⟨some 30, .load (.t 29), none⟩,
      ⟨some 31, .call 45 [(.c (.pointer none)), (.t 30)], none⟩,
      ⟨some 9, .val (.t 31), none⟩] [])
     (.seq (.ops 5 false [
       ⟨some 33, .fieldA 1 (.t 1), none⟩,
       ⟨some 34, .load (.t 33), none⟩,
       ⟨some 35, .fieldA 2 (.t 1), none⟩,
       ⟨some 36, .fieldA 2 (.t 35), none⟩,
       ⟨some 37, .loadN 20 (.t 36), none⟩,
       ⟨some 38, .call 46 [(.c (.pointer none)), (.t 34), (.t 37)], none⟩,
       ⟨some 32, .val (.t 38), none⟩,
       ⟨some 39, .extract 0 (.t 32), none⟩,
       ⟨some 40, .extract 1 (.t 32), none⟩,
       ⟨some 10, .alloc 96 [(.int .i64 0), (.int .i64 0), (.int .u8 0), (.int .u8 0), (.int .u8 0), (.int .u8 0), (.int .u8 0), (.int .u8 0), (.int .u8 0), (.int .u8 0), (.int .u8 0), (.int .u8 0), (.int .u8 0), (.int .u8 0), (.int .u8 0), (.int .u8 0), (.int .u8 0), (.int .u8 0), (.int .u8 0), (.int .u8 0), (.int .u8 0), (.int .u8 0), (.int .i64 0), (.int .u8 0), (.int .u8 0), (.int .u8 0), (.int .u8 0), (.int .u8 0), (.int .u8 0), (.int .u8 0), (.int .u8 0), (.int .u8 0), (.int .u8 0), (.int .u8 0), (.int .u8 0), (.int .u8 0), (.int .u8 0), (.int .u8 0), (.int .u8 0), (.int .u8 0), (.int .u8 0), (.int .u8 0), (.int .u8 0), (.int .u64 0), (.int .u64 0), (.int .u64 0), (.int .u64 0)], none⟩,
       ⟨none, .store 47 (.t 10) (.t 39), none⟩,
       ⟨some 11, .val (.t 40), none⟩] [])
      (.seq (.ops 6 false [
        ⟨some 41, .val (.t 3), none⟩,
        ⟨some 42, .bin .eql (.t 41) (.c (.int .i64 0)), none⟩,
        ⟨some 43, .val (.t 42), none⟩,
        ⟨some 44, .val (.t 7), some (43, true)⟩,
        ⟨some 45, .bin .eql (.t 44) (.c (.int .i64 0)), some (43, true)⟩,
        ⟨some 46, .pick (.t 43) (.t 45) (.c (.bool false)), none⟩,
        ⟨some 47, .val (.t 46), none⟩,
        ⟨some 48, .loadN 47 (.t 5), some (47, true)⟩,
        ⟨some 49, .build [(.int .i64 0), (.int .i64 0), (.int .u8 0), (.int .u8 0), (.int .u8 0), (.int .u8 0), (.int .u8 0), (.int .u8 0), (.int .u8 0), (.int .u8 0), (.int .u8 0), (.int .u8 0), (.int .u8 0), (.int .u8 0), (.int .u8 0), (.int .u8 0), (.int .u8 0), (.int .u8 0), (.int .u8 0), (.int .u8 0), (.int .u8 0), (.int .u8 0), (.int .i64 0), (.int .u8 0), (.int .u8 0), (.int .u8 0), (.int .u8 0), (.int .u8 0), (.int .u8 0), (.int .u8 0), (.int .u8 0), (.int .u8 0), (.int .u8 0), (.int .u8 0), (.int .u8 0), (.int .u8 0), (.int .u8 0), (.int .u8 0), (.int .u8 0), (.int .u8 0), (.int .u8 0), (.int .u8 0), (.int .u8 0), (.int .u64 0), (.int .u64 0), (.int .u64 0), (.int .u64 0)] [], some (47, true)⟩,
        ⟨some 50, .eqn false 96 (.t 48) (.t 49), some (47, true)⟩,
        ⟨some 51, .pick (.t 47) (.t 50) (.c (.bool false)), none⟩,
        ⟨some 52, .val (.t 51), none⟩,
        ⟨some 53, .loadN 47 (.t 10), some (52, true)⟩,
        ⟨some 54, .build [(.int .i64 0), (.int .i64 0), (.int .u8 0), (.int .u8 0), (.int .u8 0), (.int .u8 0), (.int .u8 0), (.int .u8 0), (.int .u8 0), (.int .u8 0), (.int .u8 0), (.int .u8 0), (.int .u8 0), (.int .u8 0), (.int .u8 0), (.int .u8 0), (.int .u8 0), (.int .u8 0), (.int .u8 0), (.int .u8 0), (.int .u8 0), (.int .u8 0), (.int .i64 0), (.int .u8 0), (.int .u8 0), (.int .u8 0), (.int .u8 0), (.int .u8 0), (.int .u8 0), (.int .u8 0), (.int .u8 0), (.int .u8 0), (.int .u8 0), (.int .u8 0), (.int .u8 0), (.int .u8 0), (.int .u8 0), (.int .u8 0), (.int .u8 0), (.int .u8 0), (.int .u8 0), (.int .u8 0), (.int .u8 0), (.int .u64 0), (.int .u64 0), (.int .u64 0), (.int .u64 0)] [], some (52, true)⟩,
        ⟨some 55, .eqn false 96 (.t 53) (.t 54), some (52, true)⟩,
        ⟨some 56, .pick (.t 52) (.t 55) (.c (.bool false)), none⟩,
        ⟨some 12, .val (.t 56), none⟩] [])
       (.seq (.ops 7 false [
         ⟨some 57, .val (.t 12), none⟩,
         ⟨some 58, .val (.t 57), none⟩,
         ⟨some 59, .val (.t 4), some (58, true)⟩,
         ⟨some 60, .bin .eql (.t 59) (.c (.int .i64 1)), some (58, true)⟩,
         ⟨some 61, .pick (.t 58) (.t 60) (.c (.bool false)), none⟩,
         ⟨some 62, .val (.t 61), none⟩,
         ⟨some 63, .val (.t 6), some (62, true)⟩,
         ⟨some 64, .bin .eql (.t 63) (.c (.int .i64 1)), some (62, true)⟩,
         ⟨some 65, .pick (.t 62) (.t 64) (.c (.bool false)), none⟩,
         ⟨some 66, .val (.t 65), none⟩,
         ⟨some 67, .val (.t 8), some (66, true)⟩,
         ⟨some 68, .bin .eql (.t 67) (.c (.int .i64 1)), some (66, true)⟩,
         ⟨some 69, .pick (.t 66) (.t 68) (.c (.bool false)), none⟩,
         ⟨some 70, .val (.t 69), none⟩,
         ⟨some 71, .val (.t 9), some (70, true)⟩,
         ⟨some 72, .bin .eql (.t 71) (.c (.int .i64 1)), some (70, true)⟩,
         ⟨some 73, .pick (.t 70) (.t 72) (.c (.bool false)), none⟩,
         ⟨some 74, .val (.t 73), none⟩,
         ⟨some 75, .val (.t 11), some (74, true)⟩,
         ⟨some 76, .bin .eql (.t 75) (.c (.int .i64 1)), some (74, true)⟩,
         ⟨some 77, .pick (.t 74) (.t 76) (.c (.bool false)), none⟩,
         ⟨some 78, .val (.t 77), none⟩,
         ⟨some 79, .call 41 [], some (78, true)⟩,
         ⟨some 80, .pick (.t 78) (.t 79) (.c (.bool false)), none⟩,
         ⟨some 2, .val (.t 80), none⟩] [])
        (.ret))))))))
def rs10 : List RR := [.tmp 2]
theorem fun10 : FunR Tryd.prog 10 rc10 rs10 81 := ⟨Tryd.f10, Tryd.func10, by kernel_rfl, by kernel_rfl, by kernel_rfl⟩
/-- causeway/store.Over -/
def rc33 : RC :=
 .seq (.ops 0 false [
  ⟨some 2, .val (.c (.pointer none)), none⟩,
  ⟨some 3, .val (.c (.int .i64 0)), none⟩] [])
 (.seq (.seq (.ops 1 false [
    ⟨some 4, .val (.t 0), none⟩,
    ⟨some 5, .eqp .ifc false (.t 4) (.c .nilIface), none⟩] [])
   (.cond (.t 5) (.seq (.ops 2 false [
      ⟨some 2, .val (.c (.pointer none)), none⟩,
      ⟨some 3, .val (.c (.int .i64 1)), none⟩] [])
     (.ret))
    (.skip)))
  (.seq (.ops 3 false [
    ⟨some 6, .val (.t 0), none⟩,
    ⟨some 7, .mkMap 135, none⟩,
    ⟨some 8, .mkMap 135, none⟩,
    ⟨some 9, .build [.nilIface, (.map none), (.map none), (.slice none 0 0), (.slice none 0 0)] [(0, 1, (.t 6)), (1, 1, (.t 7)), (2, 1, (.t 8))], none⟩,
    ⟨some 10, .box 139 (.t 9), none⟩,
    ⟨some 2, .val (.t 10), none⟩,
    ⟨some 3, .val (.c (.int .i64 0)), none⟩] [])
   (.ret)))
def rs33 : List RR := [.tmp 2, .tmp 3]
theorem fun33 : FunR Tryd.prog 33 rc33 rs33 11 := ⟨Tryd.f33, Tryd.func33, by kernel_rfl, by kernel_rfl, by kernel_rfl⟩
/-- causeway/store.NewTable -/
def rc34 : RC :=
 .seq (.ops 0 false [
  ⟨some 0, .val (.c (.pointer none)), none⟩] [])
 (.seq (.ops 1 false [
   ⟨some 1, .mkMap 135, none⟩,
   ⟨some 2, .call 74 [], none⟩,
   ⟨some 3, .mkMap 142, none⟩,
   ⟨some 4, .build [(.map none), (.pointer none), (.map none)] [(0, 1, (.t 1)), (1, 1, (.t 2)), (2, 1, (.t 3))], none⟩,
   ⟨some 5, .box 144 (.t 4), none⟩,
   ⟨some 0, .val (.t 5), none⟩] [])
  (.ret))
def rs34 : List RR := [.tmp 0]
theorem fun34 : FunR Tryd.prog 34 rc34 rs34 6 := ⟨Tryd.f34, Tryd.func34, by kernel_rfl, by kernel_rfl, by kernel_rfl⟩
/-- (*causeway/store.State).Put -/
def rc35 : RC :=
 .seq (.ops 0 false [
  ⟨some 6, .val (.c (.int .i64 0)), none⟩] [])
 (.seq (.seq (.ops 1 false [
    ⟨some 11, .val (.t 1), none⟩,
    ⟨some 12, .val (.t 2), none⟩,
    ⟨some 13, .call 75 [(.t 11), (.t 12)], none⟩,
    ⟨some 7, .val (.t 13), none⟩] [])
   (.seq (.ops 2 false [
     ⟨some 14, .val (.t 7), none⟩,
     ⟨some 15, .bin .neq (.t 14) (.c (.int .i64 0)), none⟩] [])
    (.cond (.t 15) (.seq (.ops 3 false [
       ⟨some 16, .val (.t 7), none⟩,
       ⟨some 6, .val (.t 16), none⟩] [])
      (.ret))
     (.skip))))
  (.seq (.seq (.ops 4 false [
     ⟨some 17, .val (.t 0), none⟩,
     ⟨some 18, .val (.t 1), none⟩,
     ⟨some 19, .call 76 [(.t 17), (.t 18)], none⟩,
     ⟨some 8, .val (.t 19), none⟩] [])
    (.seq (.ops 5 false [
      ⟨some 20, .val (.t 8), none⟩,
      ⟨some 21, .bin .neq (.t 20) (.c (.int .i64 0)), none⟩] [])
     (.cond (.t 21) (.seq (.ops 6 false [
        ⟨some 22, .val (.t 8), none⟩,
        ⟨some 6, .val (.t 22), none⟩] [])
       (.ret))
      (.skip))))
   (.seq (.ops 7 false [
     ⟨some 24, .val (.t 0), none⟩,
     ⟨some 25, .nilCheck (.t 24), none⟩,
     ⟨some 26, .fieldA 2 (.t 25), none⟩,
     ⟨some 27, .load (.t 26), none⟩,
     ⟨some 28, .val (.t 1), none⟩,
     ⟨some 29, .look 135 (.t 27) (.t 28) true, none⟩,
     ⟨some 23, .val (.t 29), none⟩,
     ⟨some 30, .extract 0 (.t 23), none⟩,
     ⟨some 31, .extract 1 (.t 23), none⟩,
     ⟨some 9, .val (.t 30), none⟩,
     ⟨some 10, .val (.t 31), none⟩] [])
    (.seq (.ops 8 false [
      ⟨some 32, .val (.t 0), none⟩,
      ⟨some 33, .val (.t 0), none⟩,
      ⟨some 34, .nilCheck (.t 33), none⟩,
      ⟨some 35, .fieldA 3 (.t 34), none⟩,
      ⟨some 36, .load (.t 35), none⟩,
      ⟨some 37, .val (.t 1), none⟩,
      ⟨some 38, .val (.t 9), none⟩,
      ⟨some 39, .val (.t 10), none⟩,
      ⟨some 40, .build [(.string ⟨#[]⟩), (.slice none 0 0), (.bool false)] [(0, 1, (.t 37)), (1, 1, (.t 38)), (2, 1, (.t 39))], none⟩,
      ⟨some 41, .buildS 148 1 [(.string ⟨#[]⟩), (.slice none 0 0), (.bool false)] [(0, 3, (.t 40))], none⟩,
      ⟨some 42, .blt .append #[136, 136] 136 [(.t 36), (.t 41)], none⟩,
      ⟨some 43, .nilCheck (.t 32), none⟩,
      ⟨some 44, .fieldA 3 (.t 43), none⟩,
      ⟨none, .store 1 (.t 44) (.t 42), none⟩] [])
     (.seq (.ops 9 true [
       ⟨some 45, .val (.t 0), none⟩,
       ⟨some 46, .nilCheck (.t 45), none⟩,
       ⟨some 47, .fieldA 2 (.t 46), none⟩,
       ⟨some 48, .load (.t 47), none⟩,
       ⟨some 49, .val (.t 1), none⟩,
       ⟨some 50, .val (.t 2), none⟩,
       ⟨some 51, .call 77 [(.t 50)], none⟩,
       ⟨none, .upd 135 (.t 48) (.t 49) (.t 51), none⟩] [([], []), ([0], [0]), ([1], [1]), ([2], [2]), ([], []), ([], []), ([5], [5]), ([3, 4, 6, 6, 0, 1, 2, 3, 4, 5, 6], [3, 4, 6])])
      (.seq (.ops 10 false [
        ⟨some 6, .val (.c (.int .i64 0)), none⟩] [])
       (.ret)))))))
def rs35 : List RR := [.tmp 6]
theorem fun35 : FunR Tryd.prog 35 rc35 rs35 52 := ⟨Tryd.f35, Tryd.func35, by kernel_rfl, by kernel_rfl, by kernel_rfl⟩
/-- causeway/causewaylaw09.known -/
def rc41 : RC :=
 .seq (.ops 0 false [
  ⟨some 0, .val (.c (.bool false)), none⟩] [])
 (.seq (.ops 1 false [
   ⟨some 11, .call 84 [(.c (.slice none 0 0))], none⟩,
   ⟨some 1, .val (.t 11), none⟩] [])
  (.seq (.seq (.ops 2 false [
     ⟨some 12, .val (.t 1), none⟩,
     ⟨some 13, .eqp .ptr false (.t 12) (.c (.pointer none)), none⟩] [])
    (.cond (.t 13) (.seq (.ops 3 false [
       ⟨some 0, .val (.c (.bool false)), none⟩] [])
      (.ret))
     (.skip)))
   (.seq (.ops 4 false [
     ⟨some 14, .build [(.int .u64 0), (.int .u64 0), (.int .u64 0), (.int .u64 0)] [(0, 1, (.c (.int .u64 256)))], none⟩,
     ⟨some 15, .build [(.int .i64 0), (.int .i64 0), (.int .u8 0), (.int .u8 0), (.int .u8 0), (.int .u8 0), (.int .u8 0), (.int .u8 0), (.int .u8 0), (.int .u8 0), (.int .u8 0), (.int .u8 0), (.int .u8 0), (.int .u8 0), (.int .u8 0), (.int .u8 0), (.int .u8 0), (.int .u8 0), (.int .u8 0), (.int .u8 0), (.int .u8 0), (.int .u8 0), (.int .i64 0), (.int .u8 0), (.int .u8 0), (.int .u8 0), (.int .u8 0), (.int .u8 0), (.int .u8 0), (.int .u8 0), (.int .u8 0), (.int .u8 0), (.int .u8 0), (.int .u8 0), (.int .u8 0), (.int .u8 0), (.int .u8 0), (.int .u8 0), (.int .u8 0), (.int .u8 0), (.int .u8 0), (.int .u8 0), (.int .u8 0), (.int .u64 0), (.int .u64 0), (.int .u64 0), (.int .u64 0)] [(1, 1, (.c (.int .i64 7))), (22, 1, (.c (.int .i64 3))), (43, 4, (.t 14))], none⟩,
     ⟨some 2, .alloc 96 [(.int .i64 0), (.int .i64 0), (.int .u8 0), (.int .u8 0), (.int .u8 0), (.int .u8 0), (.int .u8 0), (.int .u8 0), (.int .u8 0), (.int .u8 0), (.int .u8 0), (.int .u8 0), (.int .u8 0), (.int .u8 0), (.int .u8 0), (.int .u8 0), (.int .u8 0), (.int .u8 0), (.int .u8 0), (.int .u8 0), (.int .u8 0), (.int .u8 0), (.int .i64 0), (.int .u8 0), (.int .u8 0), (.int .u8 0), (.int .u8 0), (.int .u8 0), (.int .u8 0), (.int .u8 0), (.int .u8 0), (.int .u8 0), (.int .u8 0), (.int .u8 0), (.int .u8 0), (.int .u8 0), (.int .u8 0), (.int .u8 0), (.int .u8 0), (.int .u8 0), (.int .u8 0), (.int .u8 0), (.int .u8 0), (.int .u64 0), (.int .u64 0), (.int .u64 0), (.int .u64 0)], none⟩,
     ⟨none, .store 47 (.t 2) (.t 15), none⟩] [])
    (.seq (.ops 5 false [
      ⟨some 17, .val (.t 1), none⟩,
      ⟨some 18, .loadN 47 (.t 2), none⟩,
      ⟨some 19, .call 42 [(.t 17), (.t 18)], none⟩,
      ⟨some 16, .val (.t 19), none⟩,
      ⟨some 20, .extract 0 (.t 16), none⟩,
      ⟨some 21, .extract 1 (.t 16), none⟩,
      ⟨some 3, .val (.t 20), none⟩,
      ⟨some 4, .val (.t 21), none⟩] [])
     (.seq (.ops 6 false [
       ⟨some 23, .val (.t 1), none⟩,
       ⟨some 24, .call 43 [(.t 23), (.c (.int .i64 1))], none⟩,
       ⟨some 22, .val (.t 24), none⟩,
       ⟨some 25, .extract 0 (.t 22), none⟩,
       ⟨some 26, .extract 1 (.t 22), none⟩,
       ⟨some 5, .alloc 96 [(.int .i64 0), (.int .i64 0), (.int .u8 0), (.int .u8 0), (.int .u8 0), (.int .u8 0), (.int .u8 0), (.int .u8 0), (.int .u8 0), (.int .u8 0), (.int .u8 0), (.int .u8 0), (.int .u8 0), (.int .u8 0), (.int .u8 0), (.int .u8 0), (.int .u8 0), (.int .u8 0), (.int .u8 0), (.int .u8 0), (.int .u8 0), (.int .u8 0), (.int .i64 0), (.int .u8 0), (.int .u8 0), (.int .u8 0), (.int .u8 0), (.int .u8 0), (.int .u8 0), (.int .u8 0), (.int .u8 0), (.int .u8 0), (.int .u8 0), (.int .u8 0), (.int .u8 0), (.int .u8 0), (.int .u8 0), (.int .u8 0), (.int .u8 0), (.int .u8 0), (.int .u8 0), (.int .u8 0), (.int .u8 0), (.int .u64 0), (.int .u64 0), (.int .u64 0), (.int .u64 0)], none⟩,
       ⟨none, .store 47 (.t 5) (.t 25), none⟩,
       ⟨some 6, .val (.t 26), none⟩] [])
      (.seq (.ops 7 false [
        ⟨some 28, .val (.t 1), none⟩,
        ⟨some 29, .build (List.replicate 20 (.int .u8 0)) [], none⟩,
        ⟨some 30, .call 46 [(.t 28), (.c (.int .i64 1)), (.t 29)], none⟩,
        ⟨some 27, .val (.t 30), none⟩,
        ⟨some 31, .extract 0 (.t 27), none⟩,
        ⟨some 32, .extract 1 (.t 27), none⟩,
        ⟨some 7, .alloc 96 [(.int .i64 0), (.int .i64 0), (.int .u8 0), (.int .u8 0), (.int .u8 0), (.int .u8 0), (.int .u8 0), (.int .u8 0), (.int .u8 0), (.int .u8 0), (.int .u8 0), (.int .u8 0), (.int .u8 0), (.int .u8 0), (.int .u8 0), (.int .u8 0), (.int .u8 0), (.int .u8 0), (.int .u8 0), (.int .u8 0), (.int .u8 0), (.int .u8 0), (.int .i64 0), (.int .u8 0), (.int .u8 0), (.int .u8 0), (.int .u8 0), (.int .u8 0), (.int .u8 0), (.int .u8 0), (.int .u8 0), (.int .u8 0), (.int .u8 0), (.int .u8 0), (.int .u8 0), (.int .u8 0), (.int .u8 0), (.int .u8 0), (.int .u8 0), (.int .u8 0), (.int .u8 0), (.int .u8 0), (.int .u8 0), (.int .u64 0), (.int .u64 0), (.int .u64 0), (.int .u64 0)], none⟩,
        ⟨none, .store 47 (.t 7) (.t 31), none⟩,
        ⟨some 8, .val (.t 32), none⟩] [])
       (.seq (.ops 8 false [
         ⟨some 34, .val (.t 1), none⟩,
         ⟨some 35, .call 43 [(.t 34), (.c (.int .i64 1))], none⟩,
         ⟨some 33, .val (.t 35), none⟩,
         ⟨some 36, .extract 0 (.t 33), none⟩,
         ⟨some 37, .extract 1 (.t 33), none⟩,
         ⟨some 9, .alloc 96 [(.int .i64 0), (.int .i64 0), (.int .u8 0), (.int .u8 0), (.int .u8 0), (.int .u8 0), (.int .u8 0), (.int .u8 0), (.int .u8 0), (.int .u8 0), (.int .u8 0), (.int .u8 0), (.int .u8 0), (.int .u8 0), (.int .u8 0), (.int .u8 0), (.int .u8 0), (.int .u8 0), (.int .u8 0), (.int .u8 0), (.int .u8 0), (.int .u8 0), (.int .i64 0), (.int .u8 0), (.int .u8 0), (.int .u8 0), (.int .u8 0), (.int .u8 0), (.int .u8 0), (.int .u8 0), (.int .u8 0), (.int .u8 0), (.int .u8 0), (.int .u8 0), (.int .u8 0), (.int .u8 0), (.int .u8 0), (.int .u8 0), (.int .u8 0), (.int .u8 0), (.int .u8 0), (.int .u8 0), (.int .u8 0), (.int .u64 0), (.int .u64 0), (.int .u64 0), (.int .u64 0)], none⟩,
         ⟨none, .store 47 (.t 9) (.t 36), none⟩,
         ⟨some 10, .val (.t 37), none⟩] [])
        (.seq (.ops 9 false [
          ⟨some 38, .fieldA 0 (.t 2), none⟩,
          ⟨none, .store 1 (.t 38) (.c (.int .i64 1)), none⟩] [])
         (.seq (.ops 10 false [
           ⟨some 39, .val (.t 3), none⟩,
           ⟨some 40, .bin .eql (.t 39) (.c (.int .i64 1)), none⟩,
           ⟨some 41, .val (.t 40), none⟩,
           ⟨some 42, .val (.t 4), some (41, true)⟩,
           ⟨some 43, .bin .eql (.t 42) (.c (.int .i64 0)), some (41, true)⟩,
           ⟨some 44, .pick (.t 41) (.t 43) (.c (.bool false)), none⟩,
           ⟨some 45, .val (.t 44), none⟩,
           ⟨some 46, .val (.t 6), some (45, true)⟩,
           ⟨some 47, .bin .eql (.t 46) (.c (.int .i64 0)), some (45, true)⟩,
           ⟨some 48, .pick (.t 45) (.t 47) (.c (.bool false)), none⟩,
           ⟨some 49, .val (.t 48), none⟩,
           ⟨some 50, .loadN 47 (.t 5), some (49, true)⟩,
           ⟨some 51, .loadN 47 (.t 2), some (49, true)⟩,
           ⟨some 52, .eqn false 96 (.t 50) (.t 51), some (49, true)⟩,
           ⟨some 53, .pick (.t 49) (.t 52) (.c (.bool false)), none⟩,
           ⟨some 54, .val (.t 53), none⟩,
           ⟨some 55, .val (.t 8), some (54, true)⟩,
           ⟨some 56, .bin .eql (.t 55) (.c (.int .i64 0)), some (54, true)⟩,
           ⟨some 57, .pick (.t 54) (.t 56) (.c (.bool false)), none⟩,
           ⟨some 58, .val (.t 57), none⟩,
           ⟨some 59, .loadN 47 (.t 7), some (58, true)⟩,
           ⟨some 60, .loadN 47 (.t 2), some (58, true)⟩,
           ⟨some 61, .eqn false 96 (.t 59) (.t 60), some (58, true)⟩,
           ⟨some 62, .pick (.t 58) (.t 61) (.c (.bool false)), none⟩,
           ⟨some 63, .val (.t 62), none⟩,
           ⟨some 64, .val (.t 10), some (63, true)⟩,
           ⟨some 65, .bin .eql (.t 64) (.c (.int .i64 90)), some (63, true)⟩,
           ⟨some 66, .pick (.t 63) (.t 65) (.c (.bool false)), none⟩,
           ⟨some 0, .val (.t 66), none⟩] [])
          (.ret))))))))))
def rs41 : List RR := [.tmp 0]
theorem fun41 : FunR Tryd.prog 41 rc41 rs41 67 := ⟨Tryd.f41, Tryd.func41, by kernel_rfl, by kernel_rfl, by kernel_rfl⟩
/-- causeway/ticket.Open -/
def rc42 : RC :=
 .seq (.ops 0 false [
  ⟨some 3, .box 96 (.t 1), none⟩,
  ⟨some 4, .val (.c (.int .i64 0)), none⟩,
  ⟨some 5, .val (.c (.int .i64 0)), none⟩] [])
 (.seq (.block 0 (.seq (.ops 1 false [
     ⟨some 10, .val (.t 0), none⟩,
     ⟨some 11, .eqp .ptr false (.t 10) (.c (.pointer none)), none⟩,
     ⟨some 9, .val (.t 11), none⟩] [])
    (.cond (.t 9) (.seq (.ops 2 false [
       ⟨some 4, .val (.c (.int .i64 0)), none⟩,
       ⟨some 5, .val (.c (.int .i64 1)), none⟩] [])
      (.ret))
     (.seq (.ops 3 false [
       ⟨some 13, .fieldA 0 (.t 3), none⟩,
       ⟨some 14, .load (.t 13), none⟩,
       ⟨some 15, .bin .neq (.t 14) (.c (.int .i64 0)), none⟩,
       ⟨some 16, .val (.t 15), none⟩,
       ⟨some 17, .loadN 47 (.t 3), some (16, false)⟩,
       ⟨some 18, .call 85 [(.t 17)], some (16, false)⟩,
       ⟨some 19, .not (.t 18), some (16, false)⟩,
       ⟨some 20, .pick (.t 16) (.c (.bool true)) (.t 19), none⟩,
       ⟨some 12, .val (.t 20), none⟩] [])
      (.cond (.t 12) (.seq (.ops 4 false [
         ⟨some 4, .val (.c (.int .i64 0)), none⟩,
         ⟨some 5, .val (.c (.int .i64 93)), none⟩] [])
        (.ret))
       (.skip))))))
  (.seq (.ops 5 false [
    ⟨some 22, .val (.t 0), none⟩,
    ⟨some 23, .call 44 [(.t 22)], none⟩,
    ⟨some 21, .val (.t 23), none⟩,
    ⟨some 24, .extract 0 (.t 21), none⟩,
    ⟨some 25, .extract 1 (.t 21), none⟩,
    ⟨some 6, .val (.t 24), none⟩,
    ⟨some 7, .val (.t 25), none⟩] [])
   (.seq (.block 1 (.seq (.ops 6 false [
       ⟨some 27, .val (.t 7), none⟩,
       ⟨some 28, .bin .neq (.t 27) (.c (.int .i64 0)), none⟩,
       ⟨some 26, .val (.t 28), none⟩] [])
      (.cond (.t 26) (.seq (.ops 7 false [
         ⟨some 29, .val (.t 7), none⟩,
         ⟨some 4, .val (.c (.int .i64 0)), none⟩,
         ⟨some 5, .val (.t 29), none⟩] [])
        (.ret))
       (.seq (.ops 8 false [
         ⟨some 31, .val (.t 6), none⟩,
         ⟨some 32, .bin .geq (.t 31) (.c (.int .i64 1099511627776)), none⟩,
         ⟨some 30, .val (.t 32), none⟩] [])
        (.cond (.t 30) (.seq (.ops 9 false [
           ⟨some 4, .val (.c (.int .i64 0)), none⟩,
           ⟨some 5, .val (.c (.int .i64 92)), none⟩] [])
          (.ret))
         (.skip))))))
    (.seq (.ops 10 false [
      ⟨some 33, .val (.t 6), none⟩,
      ⟨some 34, .bin .add (.t 33) (.c (.int .i64 1)), none⟩,
      ⟨some 6, .val (.t 34), none⟩] [])
     (.seq (.seq (.ops 11 true [
        ⟨some 35, .val (.t 0), none⟩,
        ⟨some 36, .val (.t 6), none⟩,
        ⟨some 37, .call 86 [(.t 36)], none⟩,
        ⟨some 38, .loadN 47 (.t 3), none⟩,
        ⟨some 39, .call 87 [(.t 38)], none⟩,
        ⟨some 40, .call 35 [(.t 35), (.t 37), (.t 39)], none⟩,
        ⟨some 8, .val (.t 40), none⟩] [([], []), ([], []), ([1], [1]), ([], []), ([3, 2], [3]), ([0, 2, 4, 4], [0, 2, 4]), ([5, 5, 0, 1, 2, 3, 4, 5], [5])])
       (.seq (.ops 12 false [
         ⟨some 41, .val (.t 8), none⟩,
         ⟨some 42, .bin .neq (.t 41) (.c (.int .i64 0)), none⟩] [])
        (.cond (.t 42) (.seq (.ops 13 false [
           ⟨some 43, .val (.t 8), none⟩,
           ⟨some 4, .val (.c (.int .i64 0)), none⟩,
           ⟨some 5, .val (.t 43), none⟩] [])
          (.ret))
         (.skip))))
      (.seq (.ops 14 false [
        ⟨some 44, .val (.t 6), none⟩,
        ⟨some 45, .val (.t 0), none⟩,
        ⟨some 46, .val (.t 6), none⟩,
        ⟨some 47, .call 88 [(.t 46)], none⟩,
        ⟨some 48, .call 35 [(.t 45), (.c (.string ⟨#[110, 116]⟩)), (.t 47)], none⟩,
        ⟨some 4, .val (.t 44), none⟩,
        ⟨some 5, .val (.t 48), none⟩] [])
       (.ret)))))))
def rs42 : List RR := [.tmp 4, .tmp 5]
theorem fun42 : FunR Tryd.prog 42 rc42 rs42 49 := ⟨Tryd.f42, Tryd.func42, by kernel_rfl, by kernel_rfl, by kernel_rfl⟩
/-- causeway/ticket.Find -/
def rc43 : RC :=
 .seq (.ops 0 false [
  ⟨some 4, .alloc 96 [(.int .i64 0), (.int .i64 0), (.int .u8 0), (.int .u8 0), (.int .u8 0), (.int .u8 0), (.int .u8 0), (.int .u8 0), (.int .u8 0), (.int .u8 0), (.int .u8 0), (.int .u8 0), (.int .u8 0), (.int .u8 0), (.int .u8 0), (.int .u8 0), (.int .u8 0), (.int .u8 0), (.int .u8 0), (.int .u8 0), (.int .u8 0), (.int .u8 0), (.int .i64 0), (.int .u8 0), (.int .u8 0), (.int .u8 0), (.int .u8 0), (.int .u8 0), (.int .u8 0), (.int .u8 0), (.int .u8 0), (.int .u8 0), (.int .u8 0), (.int .u8 0), (.int .u8 0), (.int .u8 0), (.int .u8 0), (.int .u8 0), (.int .u8 0), (.int .u8 0), (.int .u8 0), (.int .u8 0), (.int .u8 0), (.int .u64 0), (.int .u64 0), (.int .u64 0), (.int .u64 0)], none⟩,
  ⟨some 5, .val (.c (.int .i64 0)), none⟩] [])
 (.seq (.block 0 (.seq (.ops 1 false [
     ⟨some 11, .val (.t 0), none⟩,
     ⟨some 12, .eqp .ptr false (.t 11) (.c (.pointer none)), none⟩,
     ⟨some 10, .val (.t 12), none⟩] [])
    (.cond (.t 10) (.seq (.ops 2 false [
       ⟨some 13, .build [(.int .i64 0), (.int .i64 0), (.int .u8 0), (.int .u8 0), (.int .u8 0), (.int .u8 0), (.int .u8 0), (.int .u8 0), (.int .u8 0), (.int .u8 0), (.int .u8 0), (.int .u8 0), (.int .u8 0), (.int .u8 0), (.int .u8 0), (.int .u8 0), (.int .u8 0), (.int .u8 0), (.int .u8 0), (.int .u8 0), (.int .u8 0), (.int .u8 0), (.int .i64 0), (.int .u8 0), (.int .u8 0), (.int .u8 0), (.int .u8 0), (.int .u8 0), (.int .u8 0), (.int .u8 0), (.int .u8 0), (.int .u8 0), (.int .u8 0), (.int .u8 0), (.int .u8 0), (.int .u8 0), (.int .u8 0), (.int .u8 0), (.int .u8 0), (.int .u8 0), (.int .u8 0), (.int .u8 0), (.int .u8 0), (.int .u64 0), (.int .u64 0), (.int .u64 0), (.int .u64 0)] [], none⟩,
       ⟨none, .store 47 (.t 4) (.t 13), none⟩,
       ⟨some 5, .val (.c (.int .i64 1)), none⟩] [])
      (.ret))
     (.seq (.ops 3 false [
       ⟨some 15, .val (.t 1), none⟩,
       ⟨some 16, .bin .lss (.t 15) (.c (.int .i64 1)), none⟩,
       ⟨some 17, .val (.t 16), none⟩,
       ⟨some 18, .val (.t 1), some (17, false)⟩,
       ⟨some 19, .bin .gtr (.t 18) (.c (.int .i64 1099511627776)), some (17, false)⟩,
       ⟨some 20, .pick (.t 17) (.c (.bool true)) (.t 19), none⟩,
       ⟨some 14, .val (.t 20), none⟩] [])
      (.cond (.t 14) (.seq (.ops 4 false [
         ⟨some 21, .build [(.int .i64 0), (.int .i64 0), (.int .u8 0), (.int .u8 0), (.int .u8 0), (.int .u8 0), (.int .u8 0), (.int .u8 0), (.int .u8 0), (.int .u8 0), (.int .u8 0), (.int .u8 0), (.int .u8 0), (.int .u8 0), (.int .u8 0), (.int .u8 0), (.int .u8 0), (.int .u8 0), (.int .u8 0), (.int .u8 0), (.int .u8 0), (.int .u8 0), (.int .i64 0), (.int .u8 0), (.int .u8 0), (.int .u8 0), (.int .u8 0), (.int .u8 0), (.int .u8 0), (.int .u8 0), (.int .u8 0), (.int .u8 0), (.int .u8 0), (.int .u8 0), (.int .u8 0), (.int .u8 0), (.int .u8 0), (.int .u8 0), (.int .u8 0), (.int .u8 0), (.int .u8 0), (.int .u8 0), (.int .u8 0), (.int .u64 0), (.int .u64 0), (.int .u64 0), (.int .u64 0)] [], none⟩,
         ⟨none, .store 47 (.t 4) (.t 21), none⟩,
         ⟨some 5, .val (.c (.int .i64 90)), none⟩] [])
        (.ret))
       (.skip))))))
  (.seq (.ops 5 false [
    ⟨some 23, .val (.t 0), none⟩,
    ⟨some 24, .val (.t 1), none⟩,
    ⟨some 25, .call 86 [(.t 24)], none⟩,
    ⟨some 26, .call 73 [(.t 23), (.t 25)], none⟩,
    ⟨some 22, .val (.t 26), none⟩,
    ⟨some 27, .extract 0 (.t 22), none⟩,
    ⟨some 28, .extract 1 (.t 22), none⟩,
    ⟨some 6, .val (.t 27), none⟩,
    ⟨some 7, .val (.t 28), none⟩] [])
   (.seq (.block 1 (.seq (.ops 6 false [
       ⟨some 30, .val (.t 7), none⟩,
       ⟨some 31, .bin .neq (.t 30) (.c (.int .i64 0)), none⟩,
       ⟨some 29, .val (.t 31), none⟩] [])
      (.cond (.t 29) (.seq (.ops 7 false [
         ⟨some 32, .build [(.int .i64 0), (.int .i64 0), (.int .u8 0), (.int .u8 0), (.int .u8 0), (.int .u8 0), (.int .u8 0), (.int .u8 0), (.int .u8 0), (.int .u8 0), (.int .u8 0), (.int .u8 0), (.int .u8 0), (.int .u8 0), (.int .u8 0), (.int .u8 0), (.int .u8 0), (.int .u8 0), (.int .u8 0), (.int .u8 0), (.int .u8 0), (.int .u8 0), (.int .i64 0), (.int .u8 0), (.int .u8 0), (.int .u8 0), (.int .u8 0), (.int .u8 0), (.int .u8 0), (.int .u8 0), (.int .u8 0), (.int .u8 0), (.int .u8 0), (.int .u8 0), (.int .u8 0), (.int .u8 0), (.int .u8 0), (.int .u8 0), (.int .u8 0), (.int .u8 0), (.int .u8 0), (.int .u8 0), (.int .u8 0), (.int .u64 0), (.int .u64 0), (.int .u64 0), (.int .u64 0)] [], none⟩,
         ⟨some 33, .val (.t 7), none⟩,
         ⟨none, .store 47 (.t 4) (.t 32), none⟩,
         ⟨some 5, .val (.t 33), none⟩] [])
        (.ret))
       (.seq (.ops 8 false [
         ⟨some 35, .val (.t 6), none⟩,
         ⟨some 36, .len (.t 35), none⟩,
         ⟨some 37, .bin .eql (.t 36) (.c (.int .i64 0)), none⟩,
         ⟨some 34, .val (.t 37), none⟩] [])
        (.cond (.t 34) (.seq (.ops 9 false [
           ⟨some 38, .build [(.int .i64 0), (.int .i64 0), (.int .u8 0), (.int .u8 0), (.int .u8 0), (.int .u8 0), (.int .u8 0), (.int .u8 0), (.int .u8 0), (.int .u8 0), (.int .u8 0), (.int .u8 0), (.int .u8 0), (.int .u8 0), (.int .u8 0), (.int .u8 0), (.int .u8 0), (.int .u8 0), (.int .u8 0), (.int .u8 0), (.int .u8 0), (.int .u8 0), (.int .i64 0), (.int .u8 0), (.int .u8 0), (.int .u8 0), (.int .u8 0), (.int .u8 0), (.int .u8 0), (.int .u8 0), (.int .u8 0), (.int .u8 0), (.int .u8 0), (.int .u8 0), (.int .u8 0), (.int .u8 0), (.int .u8 0), (.int .u8 0), (.int .u8 0), (.int .u8 0), (.int .u8 0), (.int .u8 0), (.int .u8 0), (.int .u64 0), (.int .u64 0), (.int .u64 0), (.int .u64 0)] [], none⟩,
           ⟨none, .store 47 (.t 4) (.t 38), none⟩,
           ⟨some 5, .val (.c (.int .i64 90)), none⟩] [])
          (.ret))
         (.skip))))))
    (.seq (.ops 10 false [
      ⟨some 40, .val (.t 1), none⟩,
      ⟨some 41, .val (.t 6), none⟩,
      ⟨some 42, .call 89 [(.t 40), (.t 41)], none⟩,
      ⟨some 39, .val (.t 42), none⟩,
      ⟨some 43, .extract 0 (.t 39), none⟩,
      ⟨some 44, .extract 1 (.t 39), none⟩,
      ⟨some 8, .alloc 96 [(.int .i64 0), (.int .i64 0), (.int .u8 0), (.int .u8 0), (.int .u8 0), (.int .u8 0), (.int .u8 0), (.int .u8 0), (.int .u8 0), (.int .u8 0), (.int .u8 0), (.int .u8 0), (.int .u8 0), (.int .u8 0), (.int .u8 0), (.int .u8 0), (.int .u8 0), (.int .u8 0), (.int .u8 0), (.int .u8 0), (.int .u8 0), (.int .u8 0), (.int .i64 0), (.int .u8 0), (.int .u8 0), (.int .u8 0), (.int .u8 0), (.int .u8 0), (.int .u8 0), (.int .u8 0), (.int .u8 0), (.int .u8 0), (.int .u8 0), (.int .u8 0), (.int .u8 0), (.int .u8 0), (.int .u8 0), (.int .u8 0), (.int .u8 0), (.int .u8 0), (.int .u8 0), (.int .u8 0), (.int .u8 0), (.int .u64 0), (.int .u64 0), (.int .u64 0), (.int .u64 0)], none⟩,
      ⟨none, .store 47 (.t 8) (.t 43), none⟩,
      ⟨some 9, .val (.t 44), none⟩] [])
     (.seq (.seq (.ops 11 false [
        ⟨some 45, .val (.t 9), none⟩,
        ⟨some 46, .not (.t 45), none⟩] [])
       (.cond (.t 46) (.seq (.ops 12 false [
          ⟨some 47, .build [(.int .i64 0), (.int .i64 0), (.int .u8 0), (.int .u8 0), (.int .u8 0), (.int .u8 0), (.int .u8 0), (.int .u8 0), (.int .u8 0), (.int .u8 0), (.int .u8 0), (.int .u8 0), (.int .u8 0), (.int .u8 0), (.int .u8 0), (.int .u8 0), (.int .u8 0), (.int .u8 0), (.int .u8 0), (.int .u8 0), (.int .u8 0), (.int .u8 0), (.int .i64 0), (.int .u8 0), (.int .u8 0), (.int .u8 0), (.int .u8 0), (.int .u8 0), (.int .u8 0), (.int .u8 0), (.int .u8 0), (.int .u8 0), (.int .u8 0), (.int .u8 0), (.int .u8 0), (.int .u8 0), (.int .u8 0), (.int .u8 0), (.int .u8 0), (.int .u8 0), (.int .u8 0), (.int .u8 0), (.int .u8 0), (.int .u64 0), (.int .u64 0), (.int .u64 0), (.int .u64 0)] [], none⟩,
          ⟨none, .store 47 (.t 4) (.t 47), none⟩,
          ⟨some 5, .val (.c (.int .i64 75)), none⟩] [])
         (.ret))
        (.skip)))
      (.seq (.ops 13 false [
        ⟨some 48, .loadN 47 (.t 8), none⟩,
        ⟨none, .store 47 (.t 4) (.t 48), none⟩,
        ⟨some 5, .val (.c (.int .i64 0)), none⟩] [])
       (.ret)))))))
def rs43 : List RR := [.cell 4 (some 47), .tmp 5]
theorem fun43 : FunR Tryd.prog 43 rc43 rs43 49 := ⟨Tryd.f43, Tryd.func43, by kernel_rfl, by kernel_rfl, by kernel_rfl⟩
/-- causeway/ticket.Made -/
def rc44 : RC :=
 .seq (.ops 0 false [
  ⟨some 2, .val (.c (.int .i64 0)), none⟩,
  ⟨some 3, .val (.c (.int .i64 0)), none⟩] [])
 (.seq (.seq (.ops 1 false [
    ⟨some 7, .val (.t 0), none⟩,
    ⟨some 8, .eqp .ptr false (.t 7) (.c (.pointer none)), none⟩] [])
   (.cond (.t 8) (.seq (.ops 2 false [
      ⟨some 2, .val (.c (.int .i64 0)), none⟩,
      ⟨some 3, .val (.c (.int .i64 1)), none⟩] [])
     (.ret))
    (.skip)))
  (.seq (.ops 3 false [
    ⟨some 10, .val (.t 0), none⟩,
    ⟨some 11, .call 73 [(.t 10), (.c (.string ⟨#[110, 116]⟩))], none⟩,
    ⟨some 9, .val (.t 11), none⟩,
    ⟨some 12, .extract 0 (.t 9), none⟩,
    ⟨some 13, .extract 1 (.t 9), none⟩,
    ⟨some 4, .val (.t 12), none⟩,
    ⟨some 5, .val (.t 13), none⟩] [])
   (.seq (.seq (.ops 4 false [
      ⟨some 14, .val (.t 5), none⟩,
      ⟨some 15, .bin .neq (.t 14) (.c (.int .i64 0)), none⟩,
      ⟨some 16, .val (.t 15), none⟩,
      ⟨some 17, .val (.t 4), some (16, false)⟩,
      ⟨some 18, .len (.t 17), some (16, false)⟩,
      ⟨some 19, .bin .eql (.t 18) (.c (.int .i64 0)), some (16, false)⟩,
      ⟨some 20, .pick (.t 16) (.c (.bool true)) (.t 19), none⟩] [])
     (.cond (.t 20) (.seq (.ops 5 false [
        ⟨some 21, .val (.t 5), none⟩,
        ⟨some 2, .val (.c (.int .i64 0)), none⟩,
        ⟨some 3, .val (.t 21), none⟩] [])
       (.ret))
      (.skip)))
    (.seq (.ops 6 false [
      ⟨some 22, .val (.t 4), none⟩,
      ⟨some 23, .call 90 [(.t 22)], none⟩,
      ⟨some 6, .val (.t 23), none⟩] [])
     (.seq (.seq (.ops 7 false [
        ⟨some 24, .val (.t 4), none⟩,
        ⟨some 25, .len (.t 24), none⟩,
        ⟨some 26, .bin .neq (.t 25) (.c (.int .i64 8)), none⟩,
        ⟨some 27, .val (.t 26), none⟩,
        ⟨some 28, .val (.t 6), some (27, false)⟩,
        ⟨some 29, .bin .lss (.t 28) (.c (.int .i64 1)), some (27, false)⟩,
        ⟨some 30, .pick (.t 27) (.c (.bool true)) (.t 29), none⟩,
        ⟨some 31, .val (.t 30), none⟩,
        ⟨some 32, .val (.t 6), some (31, false)⟩,
        ⟨some 33, .bin .gtr (.t 32) (.c (.int .i64 1099511627776)), some (31, false)⟩,
        ⟨some 34, .pick (.t 31) (.c (.bool true)) (.t 33), none⟩] [])
       (.cond (.t 34) (.seq (.ops 8 false [
          ⟨some 2, .val (.c (.int .i64 0)), none⟩,
          ⟨some 3, .val (.c (.int .i64 75)), none⟩] [])
         (.ret))
        (.skip)))
      (.seq (.ops 9 false [
        ⟨some 35, .val (.t 6), none⟩,
        ⟨some 2, .val (.t 35), none⟩,
        ⟨some 3, .val (.c (.int .i64 0)), none⟩] [])
       (.ret)))))))
def rs44 : List RR := [.tmp 2, .tmp 3]
theorem fun44 : FunR Tryd.prog 44 rc44 rs44 36 := ⟨Tryd.f44, Tryd.func44, by kernel_rfl, by kernel_rfl, by kernel_rfl⟩
/-- causeway/ticket.Retry -/
def rc45 : RC :=
 .seq (.ops 0 false [
  ⟨some 4, .val (.c (.int .i64 0)), none⟩] [])
 (.seq (.ops 1 false [
   ⟨some 9, .val (.t 0), none⟩,
   ⟨some 10, .val (.t 1), none⟩,
   ⟨some 11, .call 43 [(.t 9), (.t 10)], none⟩,
   ⟨some 8, .val (.t 11), none⟩,
   ⟨some 12, .extract 0 (.t 8), none⟩,
   ⟨some 13, .extract 1 (.t 8), none⟩,
   ⟨some 5, .alloc 96 [(.int .i64 0), (.int .i64 0), (.int .u8 0), (.int .u8 0), (.int .u8 0), (.int .u8 0), (.int .u8 0), (.int .u8 0), (.int .u8 0), (.int .u8 0), (.int .u8 0), (.int .u8 0), (.int .u8 0), (.int .u8 0), (.int .u8 0), (.int .u8 0), (.int .u8 0), (.int .u8 0), (.int .u8 0), (.int .u8 0), (.int .u8 0), (.int .u8 0), (.int .i64 0), (.int .u8 0), (.int .u8 0), (.int .u8 0), (.int .u8 0), (.int .u8 0), (.int .u8 0), (.int .u8 0), (.int .u8 0), (.int .u8 0), (.int .u8 0), (.int .u8 0), (.int .u8 0), (.int .u8 0), (.int .u8 0), (.int .u8 0), (.int .u8 0), (.int .u8 0), (.int .u8 0), (.int .u8 0), (.int .u8 0), (.int .u64 0), (.int .u64 0), (.int .u64 0), (.int .u64 0)], none⟩,
   ⟨none, .store 47 (.t 5) (.t 12), none⟩,
   ⟨some 6, .val (.t 13), none⟩] [])
  (.seq (.seq (.ops 2 false [
     ⟨some 14, .val (.t 6), none⟩,
     ⟨some 15, .bin .neq (.t 14) (.c (.int .i64 0)), none⟩] [])
    (.cond (.t 15) (.seq (.ops 3 false [
       ⟨some 16, .val (.t 6), none⟩,
       ⟨some 4, .val (.t 16), none⟩] [])
      (.ret))
     (.skip)))
   (.seq (.seq (.ops 4 false [
      ⟨some 17, .val (.t 0), none⟩,
      ⟨some 18, .fieldA 22 (.t 5), none⟩,
      ⟨some 19, .load (.t 18), none⟩,
      ⟨some 20, .fieldA 23 (.t 5), none⟩,
      ⟨some 21, .loadN 20 (.t 20), none⟩,
      ⟨some 22, .fieldA 43 (.t 5), none⟩,
      ⟨some 23, .loadN 4 (.t 22), none⟩,
      ⟨some 24, .call 91 [(.t 17), (.t 19), (.t 21), (.t 23)], none⟩,
      ⟨some 7, .val (.t 24), none⟩] [])
     (.seq (.ops 5 false [
       ⟨some 25, .val (.t 7), none⟩,
       ⟨some 26, .bin .neq (.t 25) (.c (.int .i64 0)), none⟩] [])
      (.cond (.t 26) (.seq (.ops 6 false [
         ⟨some 27, .val (.t 7), none⟩,
         ⟨some 4, .val (.t 27), none⟩] [])
        (.ret))
       (.skip))))
    (.seq (.ops 7 false [
      ⟨some 28, .val (.t 0), none⟩,
      ⟨some 29, .val (.t 1), none⟩,
      ⟨some 30, .call 86 [(.t 29)], none⟩,
      ⟨some 31, .call 35 [(.t 28), (.t 30), (.c (.slice none 0 0))], none⟩,
      ⟨some 4, .val (.t 31), none⟩] [])
     (.ret)))))
def rs45 : List RR := [.tmp 4]
theorem fun45 : FunR Tryd.prog 45 rc45 rs45 32 := ⟨Tryd.f45, Tryd.func45, by kernel_rfl, by kernel_rfl, by kernel_rfl⟩
/-- causeway/ticket.Cancel -/
def rc46 : RC :=
 .seq (.ops 0 false [
  ⟨some 5, .box 27 (.t 2), none⟩,
  ⟨some 6, .alloc 96 [(.int .i64 0), (.int .i64 0), (.int .u8 0), (.int .u8 0), (.int .u8 0), (.int .u8 0), (.int .u8 0), (.int .u8 0), (.int .u8 0), (.int .u8 0), (.int .u8 0), (.int .u8 0), (.int .u8 0), (.int .u8 0), (.int .u8 0), (.int .u8 0), (.int .u8 0), (.int .u8 0), (.int .u8 0), (.int .u8 0), (.int .u8 0), (.int .u8 0), (.int .i64 0), (.int .u8 0), (.int .u8 0), (.int .u8 0), (.int .u8 0), (.int .u8 0), (.int .u8 0), (.int .u8 0), (.int .u8 0), (.int .u8 0), (.int .u8 0), (.int .u8 0), (.int .u8 0), (.int .u8 0), (.int .u8 0), (.int .u8 0), (.int .u8 0), (.int .u8 0), (.int .u8 0), (.int .u8 0), (.int .u8 0), (.int .u64 0), (.int .u64 0), (.int .u64 0), (.int .u64 0)], none⟩,
  ⟨some 7, .val (.c (.int .i64 0)), none⟩] [])
 (.seq (.ops 1 false [
   ⟨some 12, .val (.t 0), none⟩,
   ⟨some 13, .val (.t 1), none⟩,
   ⟨some 14, .call 43 [(.t 12), (.t 13)], none⟩,
   ⟨some 11, .val (.t 14), none⟩,
   ⟨some 15, .extract 0 (.t 11), none⟩,
   ⟨some 16, .extract 1 (.t 11), none⟩,
   ⟨some 8, .alloc 96 [(.int .i64 0), (.int .i64 0), (.int .u8 0), (.int .u8 0), (.int .u8 0), (.int .u8 0), (.int .u8 0), (.int .u8 0), (.int .u8 0), (.int .u8 0), (.int .u8 0), (.int .u8 0), (.int .u8 0), (.int .u8 0), (.int .u8 0), (.int .u8 0), (.int .u8 0), (.int .u8 0), (.int .u8 0), (.int .u8 0), (.int .u8 0), (.int .u8 0), (.int .i64 0), (.int .u8 0), (.int .u8 0), (.int .u8 0), (.int .u8 0), (.int .u8 0), (.int .u8 0), (.int .u8 0), (.int .u8 0), (.int .u8 0), (.int .u8 0), (.int .u8 0), (.int .u8 0), (.int .u8 0), (.int .u8 0), (.int .u8 0), (.int .u8 0), (.int .u8 0), (.int .u8 0), (.int .u8 0), (.int .u8 0), (.int .u64 0), (.int .u64 0), (.int .u64 0), (.int .u64 0)], none⟩,
   ⟨none, .store 47 (.t 8) (.t 15), none⟩,
   ⟨some 9, .val (.t 16), none⟩] [])
  (.seq (.block 0 (.seq (.ops 2 false [
      ⟨some 18, .val (.t 9), none⟩,
      ⟨some 19, .bin .neq (.t 18) (.c (.int .i64 0)), none⟩,
      ⟨some 17, .val (.t 19), none⟩] [])
     (.cond (.t 17) (.seq (.ops 3 false [
        ⟨some 20, .build [(.int .i64 0), (.int .i64 0), (.int .u8 0), (.int .u8 0), (.int .u8 0), (.int .u8 0), (.int .u8 0), (.int .u8 0), (.int .u8 0), (.int .u8 0), (.int .u8 0), (.int .u8 0), (.int .u8 0), (.int .u8 0), (.int .u8 0), (.int .u8 0), (.int .u8 0), (.int .u8 0), (.int .u8 0), (.int .u8 0), (.int .u8 0), (.int .u8 0), (.int .i64 0), (.int .u8 0), (.int .u8 0), (.int .u8 0), (.int .u8 0), (.int .u8 0), (.int .u8 0), (.int .u8 0), (.int .u8 0), (.int .u8 0), (.int .u8 0), (.int .u8 0), (.int .u8 0), (.int .u8 0), (.int .u8 0), (.int .u8 0), (.int .u8 0), (.int .u8 0), (.int .u8 0), (.int .u8 0), (.int .u8 0), (.int .u64 0), (.int .u64 0), (.int .u64 0), (.int .u64 0)] [], none⟩,
        ⟨some 21, .val (.t 9), none⟩,
        ⟨none, .store 47 (.t 6) (.t 20), none⟩,
        ⟨some 7, .val (.t 21), none⟩] [])
       (.ret))
      (.seq (.ops 4 false [
        ⟨some 23, .fieldA 2 (.t 8), none⟩,
        ⟨some 24, .loadN 20 (.t 23), none⟩,
        ⟨some 25, .loadN 20 (.t 5), none⟩,
        ⟨some 26, .eqn true 27 (.t 24) (.t 25), none⟩,
        ⟨some 22, .val (.t 26), none⟩] [])
       (.cond (.t 22) (.seq (.ops 5 false [
          ⟨some 27, .build [(.int .i64 0), (.int .i64 0), (.int .u8 0), (.int .u8 0), (.int .u8 0), (.int .u8 0), (.int .u8 0), (.int .u8 0), (.int .u8 0), (.int .u8 0), (.int .u8 0), (.int .u8 0), (.int .u8 0), (.int .u8 0), (.int .u8 0), (.int .u8 0), (.int .u8 0), (.int .u8 0), (.int .u8 0), (.int .u8 0), (.int .u8 0), (.int .u8 0), (.int .i64 0), (.int .u8 0), (.int .u8 0), (.int .u8 0), (.int .u8 0), (.int .u8 0), (.int .u8 0), (.int .u8 0), (.int .u8 0), (.int .u8 0), (.int .u8 0), (.int .u8 0), (.int .u8 0), (.int .u8 0), (.int .u8 0), (.int .u8 0), (.int .u8 0), (.int .u8 0), (.int .u8 0), (.int .u8 0), (.int .u8 0), (.int .u64 0), (.int .u64 0), (.int .u64 0), (.int .u64 0)] [], none⟩,
          ⟨none, .store 47 (.t 6) (.t 27), none⟩,
          ⟨some 7, .val (.c (.int .i64 91)), none⟩] [])
         (.ret))
        (.skip))))))
   (.seq (.seq (.ops 6 false [
      ⟨some 28, .val (.t 0), none⟩,
      ⟨some 29, .val (.t 1), none⟩,
      ⟨some 30, .call 86 [(.t 29)], none⟩,
      ⟨some 31, .call 35 [(.t 28), (.t 30), (.c (.slice none 0 0))], none⟩,
      ⟨some 10, .val (.t 31), none⟩] [])
     (.seq (.ops 7 false [
       ⟨some 32, .val (.t 10), none⟩,
       ⟨some 33, .bin .neq (.t 32) (.c (.int .i64 0)), none⟩] [])
      (.cond (.t 33) (.seq (.ops 8 false [
         ⟨some 34, .build [(.int .i64 0), (.int .i64 0), (.int .u8 0), (.int .u8 0), (.int .u8 0), (.int .u8 0), (.int .u8 0), (.int .u8 0), (.int .u8 0), (.int .u8 0), (.int .u8 0), (.int .u8 0), (.int .u8 0), (.int .u8 0), (.int .u8 0), (.int .u8 0), (.int .u8 0), (.int .u8 0), (.int .u8 0), (.int .u8 0), (.int .u8 0), (.int .u8 0), (.int .i64 0), (.int .u8 0), (.int .u8 0), (.int .u8 0), (.int .u8 0), (.int .u8 0), (.int .u8 0), (.int .u8 0), (.int .u8 0), (.int .u8 0), (.int .u8 0), (.int .u8 0), (.int .u8 0), (.int .u8 0), (.int .u8 0), (.int .u8 0), (.int .u8 0), (.int .u8 0), (.int .u8 0), (.int .u8 0), (.int .u8 0), (.int .u64 0), (.int .u64 0), (.int .u64 0), (.int .u64 0)] [], none⟩,
         ⟨some 35, .val (.t 10), none⟩,
         ⟨none, .store 47 (.t 6) (.t 34), none⟩,
         ⟨some 7, .val (.t 35), none⟩] [])
        (.ret))
       (.skip))))
    (.seq (.ops 9 false [
      ⟨some 36, .loadN 47 (.t 8), none⟩,
      ⟨none, .store 47 (.t 6) (.t 36), none⟩,
      ⟨some 7, .val (.c (.int .i64 0)), none⟩] [])
     (.ret)))))
def rs46 : List RR := [.cell 6 (some 47), .tmp 7]
theorem fun46 : FunR Tryd.prog 46 rc46 rs46 37 := ⟨Tryd.f46, Tryd.func46, by kernel_rfl, by kernel_rfl, by kernel_rfl⟩
/-- (*causeway/store.State).Get -/
def rc73 : RC :=
 .seq (.ops 0 false [
  ⟨some 4, .val (.c (.slice none 0 0)), none⟩,
  ⟨some 5, .val (.c (.int .i64 0)), none⟩] [])
 (.seq (.seq (.ops 1 false [
    ⟨some 8, .val (.t 1), none⟩,
    ⟨some 9, .call 75 [(.t 8), (.c (.slice none 0 0))], none⟩,
    ⟨some 6, .val (.t 9), none⟩] [])
   (.seq (.ops 2 false [
     ⟨some 10, .val (.t 6), none⟩,
     ⟨some 11, .bin .neq (.t 10) (.c (.int .i64 0)), none⟩] [])
    (.cond (.t 11) (.seq (.ops 3 false [
       ⟨some 12, .val (.t 6), none⟩,
       ⟨some 4, .val (.c (.slice none 0 0)), none⟩,
       ⟨some 5, .val (.t 12), none⟩] [])
      (.ret))
     (.skip))))
  (.seq (.seq (.ops 4 false [
     ⟨some 13, .val (.t 0), none⟩,
     ⟨some 14, .val (.t 1), none⟩,
     ⟨some 15, .call 76 [(.t 13), (.t 14)], none⟩,
     ⟨some 7, .val (.t 15), none⟩] [])
    (.seq (.ops 5 false [
      ⟨some 16, .val (.t 7), none⟩,
      ⟨some 17, .bin .neq (.t 16) (.c (.int .i64 0)), none⟩] [])
     (.cond (.t 17) (.seq (.ops 6 false [
        ⟨some 18, .val (.t 7), none⟩,
        ⟨some 4, .val (.c (.slice none 0 0)), none⟩,
        ⟨some 5, .val (.t 18), none⟩] [])
       (.ret))
      (.skip))))
   (.seq (.ops 7 false [
     ⟨some 19, .val (.t 0), none⟩,
     ⟨some 20, .val (.t 1), none⟩,
     ⟨some 21, .call 115 [(.t 19), (.t 20)], none⟩,
     ⟨some 22, .call 77 [(.t 21)], none⟩,
     ⟨some 4, .val (.t 22), none⟩,
     ⟨some 5, .val (.c (.int .i64 0)), none⟩] [])
    (.ret))))
def rs73 : List RR := [.tmp 4, .tmp 5]
theorem fun73 : FunR Tryd.prog 73 rc73 rs73 23 := ⟨Tryd.f73, Tryd.func73, by kernel_rfl, by kernel_rfl, by kernel_rfl⟩
/-- causeway/sparse.New -/
def rc74 : RC :=
 .seq (.ops 0 false [
  ⟨some 0, .val (.c (.pointer none)), none⟩] [])
 (.seq (.ops 1 false [
   ⟨some 1, .build [(.pointer none), (.int .i64 0)] [], none⟩,
   ⟨some 2, .box 182 (.t 1), none⟩,
   ⟨some 0, .val (.t 2), none⟩] [])
  (.ret))
def rs74 : List RR := [.tmp 0]
theorem fun74 : FunR Tryd.prog 74 rc74 rs74 3 := ⟨Tryd.f74, Tryd.func74, by kernel_rfl, by kernel_rfl, by kernel_rfl⟩
/-- causeway/store.may -/
def rc75 : RC :=
 .seq (.ops 0 false [
  ⟨some 4, .val (.c (.int .i64 0)), none⟩] [])
 (.seq (.block 0 (.seq (.ops 1 false [
     ⟨some 6, .val (.t 0), none⟩,
     ⟨some 7, .eqp .str false (.t 6) (.c (.string ⟨#[]⟩)), none⟩,
     ⟨some 8, .val (.t 7), none⟩,
     ⟨some 9, .val (.t 0), some (8, false)⟩,
     ⟨some 10, .lenT (.t 9), some (8, false)⟩,
     ⟨some 11, .bin .gtr (.t 10) (.c (.int .i64 128)), some (8, false)⟩,
     ⟨some 12, .pick (.t 8) (.c (.bool true)) (.t 11), none⟩,
     ⟨some 5, .val (.t 12), none⟩] [])
    (.cond (.t 5) (.seq (.ops 2 false [
       ⟨some 4, .val (.c (.int .i64 70)), none⟩] [])
      (.ret))
     (.seq (.ops 3 false [
       ⟨some 14, .val (.t 1), none⟩,
       ⟨some 15, .len (.t 14), none⟩,
       ⟨some 16, .bin .gtr (.t 15) (.c (.int .i64 4096)), none⟩,
       ⟨some 13, .val (.t 16), none⟩] [])
      (.cond (.t 13) (.seq (.ops 4 false [
         ⟨some 4, .val (.c (.int .i64 71)), none⟩] [])
        (.ret))
       (.skip))))))
  (.seq (.ops 5 false [
    ⟨some 4, .val (.c (.int .i64 0)), none⟩] [])
   (.ret)))
def rs75 : List RR := [.tmp 4]
theorem fun75 : FunR Tryd.prog 75 rc75 rs75 17 := ⟨Tryd.f75, Tryd.func75, by kernel_rfl, by kernel_rfl, by kernel_rfl⟩
/-- (*causeway/store.State).ask -/
def rc76 : RC :=
 .seq (.ops 0 false [
  ⟨some 4, .val (.c (.int .i64 0)), none⟩] [])
 (.seq (.seq (.ops 1 false [
    ⟨some 10, .val (.t 0), none⟩,
    ⟨some 11, .nilCheck (.t 10), none⟩,
    ⟨some 12, .fieldA 1 (.t 11), none⟩,
    ⟨some 13, .load (.t 12), none⟩,
    ⟨some 14, .val (.t 1), none⟩,
    ⟨some 15, .look 135 (.t 13) (.t 14) true, none⟩,
    ⟨some 9, .val (.t 15), none⟩,
    ⟨some 16, .extract 0 (.t 9), none⟩,
    ⟨some 17, .extract 1 (.t 9), none⟩,
    ⟨some 5, .val (.t 16), none⟩,
    ⟨some 6, .val (.t 17), none⟩] [])
   (.seq (.ops 2 false [
     ⟨some 18, .val (.t 6), none⟩] [])
    (.cond (.t 18) (.seq (.ops 3 false [
       ⟨some 4, .val (.c (.int .i64 0)), none⟩] [])
      (.ret))
     (.skip))))
  (.seq (.ops 4 false [
    ⟨some 20, .val (.t 0), none⟩,
    ⟨some 21, .nilCheck (.t 20), none⟩,
    ⟨some 22, .fieldA 0 (.t 21), none⟩,
    ⟨some 23, .load (.t 22), none⟩,
    ⟨some 24, .val (.t 1), none⟩,
    ⟨some 25, .inv (.t 23) "Find" [(.t 24)], none⟩,
    ⟨some 19, .val (.t 25), none⟩,
    ⟨some 26, .extract 0 (.t 19), none⟩,
    ⟨some 27, .extract 1 (.t 19), none⟩,
    ⟨some 7, .val (.t 26), none⟩,
    ⟨some 8, .val (.t 27), none⟩] [])
   (.seq (.seq (.ops 5 false [
      ⟨some 28, .val (.t 8), none⟩,
      ⟨some 29, .bin .neq (.t 28) (.c (.int .i64 0)), none⟩] [])
     (.cond (.t 29) (.seq (.ops 6 false [
        ⟨some 30, .val (.t 8), none⟩,
        ⟨some 4, .val (.t 30), none⟩] [])
       (.ret))
      (.skip)))
    (.seq (.seq (.ops 7 false [
       ⟨some 31, .val (.t 7), none⟩,
       ⟨some 32, .len (.t 31), none⟩,
       ⟨some 33, .bin .gtr (.t 32) (.c (.int .i64 4096)), none⟩] [])
      (.cond (.t 33) (.seq (.ops 8 false [
         ⟨some 4, .val (.c (.int .i64 71)), none⟩] [])
        (.ret))
       (.skip)))
     (.seq (.ops 9 true [
       ⟨some 34, .val (.t 0), none⟩,
       ⟨some 35, .nilCheck (.t 34), none⟩,
       ⟨some 36, .fieldA 1 (.t 35), none⟩,
       ⟨some 37, .load (.t 36), none⟩,
       ⟨some 38, .val (.t 1), none⟩,
       ⟨some 39, .val (.t 7), none⟩,
       ⟨some 40, .call 77 [(.t 39)], none⟩,
       ⟨none, .upd 135 (.t 37) (.t 38) (.t 40), none⟩] [([], []), ([0], [0]), ([1], [1]), ([2], [2]), ([], []), ([], []), ([5], [5]), ([3, 4, 6, 6, 0, 1, 2, 3, 4, 5, 6], [3, 4, 6])])
      (.seq (.ops 10 false [
        ⟨some 4, .val (.c (.int .i64 0)), none⟩] [])
       (.ret)))))))
def rs76 : List RR := [.tmp 4]
theorem fun76 : FunR Tryd.prog 76 rc76 rs76 41 := ⟨Tryd.f76, Tryd.func76, by kernel_rfl, by kernel_rfl, by kernel_rfl⟩
/-- slices.Clone[[]byte,byte] -/
def rc77 : RC :=
 .seq (.ops 0 false [
  ⟨some 2, .val (.c (.slice none 0 0)), none⟩] [])
 (.seq (.seq (.ops 1 false [
    ⟨some 3, .val (.t 0), none⟩,
    ⟨some 4, .eqp .slc false (.t 3) (.c (.slice none 0 0)), none⟩] [])
   (.cond (.t 4) (.seq (.ops 2 false [
      ⟨some 2, .val (.c (.slice none 0 0)), none⟩] [])
     (.ret))
    (.skip)))
  (.seq (.ops 3 false [
    ⟨some 5, .buildS 5 0 [] [], none⟩,
    ⟨some 6, .val (.t 0), none⟩,
    ⟨some 7, .blt .append #[79, 79] 79 [(.t 5), (.t 6)], none⟩,
    ⟨some 2, .val (.t 7), none⟩] [])
   (.ret)))
def rs77 : List RR := [.tmp 2]
theorem fun77 : FunR Tryd.prog 77 rc77 rs77 8 := ⟨Tryd.f77, Tryd.func77, by kernel_rfl, by kernel_rfl, by kernel_rfl⟩
/-- causeway/causewaylaw09.fresh -/
def rc84 : RC :=
 .seq (.ops 0 false [
  ⟨some 2, .val (.c (.pointer none)), none⟩] [])
 (.seq (.ops 1 false [
   ⟨some 8, .call 34 [], none⟩,
   ⟨some 3, .val (.t 8), none⟩] [])
  (.seq (.seq (.ops 2 false [
     ⟨some 9, .val (.t 3), none⟩,
     ⟨some 10, .eqp .ptr false (.t 9) (.c (.pointer none)), none⟩] [])
    (.cond (.t 10) (.seq (.ops 3 false [
       ⟨some 2, .val (.c (.pointer none)), none⟩] [])
      (.ret))
     (.skip)))
   (.seq (.seq (.ops 4 false [
      ⟨some 4, .val (.c (.int .i64 0)), none⟩] [])
     (.block 0 (.loop (.seq (.seq (.ops 5 false [
          ⟨some 11, .val (.t 4), none⟩,
          ⟨some 12, .val (.t 0), none⟩,
          ⟨some 13, .len (.t 12), none⟩,
          ⟨some 14, .bin .lss (.t 11) (.t 13), none⟩] [])
         (.cond (.t 14) (.skip)
          (.exit 0)))
        (.seq (.block 1 (.seq (.ops 7 true [
            ⟨some 17, .val (.t 3), none⟩,
            ⟨some 18, .val (.t 0), none⟩,
            ⟨some 19, .val (.t 4), none⟩,
            ⟨some 20, .indexS 2 (.t 18) (.t 19), none⟩,
            ⟨some 21, .fieldA 0 (.t 20), none⟩,
            ⟨some 22, .load (.t 21), none⟩,
            ⟨some 23, .val (.t 0), none⟩,
            ⟨some 24, .val (.t 4), none⟩,
            ⟨some 25, .indexS 2 (.t 23) (.t 24), none⟩,
            ⟨some 26, .fieldA 1 (.t 25), none⟩,
            ⟨some 27, .load (.t 26), none⟩,
            ⟨some 28, .call 72 [(.t 17), (.t 22), (.t 27)], none⟩,
            ⟨some 5, .val (.t 28), none⟩] [([], []), ([], []), ([], []), ([1, 2], [1, 2]), ([3], [3]), ([4], [4]), ([], []), ([], []), ([6, 7], [6, 7]), ([8], [8]), ([9], [9]), ([0, 5, 10], [0, 5, 10]), ([11, 11, 0, 1, 2, 3, 4, 5, 6, 7, 8, 9, 10, 11], [11])])
           (.seq (.ops 8 false [
             ⟨some 29, .val (.t 5), none⟩,
             ⟨some 30, .bin .neq (.t 29) (.c (.int .i64 0)), none⟩] [])
            (.cond (.t 30) (.seq (.ops 9 false [
               ⟨some 2, .val (.c (.pointer none)), none⟩] [])
              (.ret))
             (.skip)))))
         (.ops 6 false [
          ⟨some 15, .val (.t 4), none⟩,
          ⟨some 16, .bin .add (.t 15) (.c (.int .i64 1)), none⟩,
          ⟨some 4, .val (.t 16), none⟩] []))))))
    (.seq (.ops 10 false [
      ⟨some 32, .val (.t 3), none⟩,
      ⟨some 33, .iface 86 (.t 32), none⟩,
      ⟨some 34, .call 33 [(.t 33)], none⟩,
      ⟨some 31, .val (.t 34), none⟩,
      ⟨some 35, .extract 0 (.t 31), none⟩,
      ⟨some 36, .extract 1 (.t 31), none⟩,
      ⟨some 6, .val (.t 35), none⟩,
      ⟨some 7, .val (.t 36), none⟩] [])
     (.seq (.seq (.ops 11 false [
        ⟨some 37, .val (.t 7), none⟩,
        ⟨some 38, .bin .neq (.t 37) (.c (.int .i64 0)), none⟩] [])
       (.cond (.t 38) (.seq (.ops 12 false [
          ⟨some 2, .val (.c (.pointer none)), none⟩] [])
         (.ret))
        (.skip)))
      (.seq (.ops 13 false [
        ⟨some 39, .val (.t 6), none⟩,
        ⟨some 2, .val (.t 39), none⟩] [])
       (.ret)))))))
def rs84 : List RR := [.tmp 2]
theorem fun84 : FunR Tryd.prog 84 rc84 rs84 40 := ⟨Tryd.f84, Tryd.func84, by kernel_rfl, by kernel_rfl, by kernel_rfl⟩
/-- causeway/ticket.may -/
def rc85 : RC :=
 .seq (.ops 0 false [
  ⟨some 1, .box 96 (.t 0), none⟩,
  ⟨some 2, .val (.c (.bool false)), none⟩] [])
 (.seq (.ops 1 false [
   ⟨some 3, .fieldA 1 (.t 1), none⟩,
   ⟨some 4, .load (.t 3), none⟩,
   ⟨some 5, .bin .geq (.t 4) (.c (.int .i64 0)), none⟩,
   ⟨some 6, .val (.t 5), none⟩,
   ⟨some 7, .fieldA 1 (.t 1), some (6, true)⟩,
   ⟨some 8, .load (.t 7), some (6, true)⟩,
   ⟨some 9, .bin .lss (.t 8) (.c (.int .i64 1099511627776)), some (6, true)⟩,
   ⟨some 10, .pick (.t 6) (.t 9) (.c (.bool false)), none⟩,
   ⟨some 11, .val (.t 10), none⟩,
   ⟨some 12, .fieldA 22 (.t 1), some (11, true)⟩,
   ⟨some 13, .load (.t 12), some (11, true)⟩,
   ⟨some 14, .bin .geq (.t 13) (.c (.int .i64 0)), some (11, true)⟩,
   ⟨some 15, .pick (.t 11) (.t 14) (.c (.bool false)), none⟩,
   ⟨some 16, .val (.t 15), none⟩,
   ⟨some 17, .fieldA 22 (.t 1), some (16, true)⟩,
   ⟨some 18, .load (.t 17), some (16, true)⟩,
   ⟨some 19, .bin .lss (.t 18) (.c (.int .i64 64)), some (16, true)⟩,
   ⟨some 20, .pick (.t 16) (.t 19) (.c (.bool false)), none⟩,
   ⟨some 21, .val (.t 20), none⟩,
   ⟨some 22, .fieldA 43 (.t 1), some (21, true)⟩,
   ⟨some 23, .loadN 4 (.t 22), some (21, true)⟩,
   ⟨some 24, .call 117 [(.t 23)], some (21, true)⟩,
   ⟨some 25, .not (.t 24), some (21, true)⟩,
   ⟨some 26, .pick (.t 21) (.t 25) (.c (.bool false)), none⟩,
   ⟨some 2, .val (.t 26), none⟩] [])
  (.ret))
def rs85 : List RR := [.tmp 2]
theorem fun85 : FunR Tryd.prog 85 rc85 rs85 27 := ⟨Tryd.f85, Tryd.func85, by kernel_rfl, by kernel_rfl, by kernel_rfl⟩
/-- causeway/ticket.key -/
def rc86 : RC :=
 .seq (.ops 0 false [
  ⟨some 2, .val (.c (.string ⟨#[]⟩)), none⟩] [])
 (.seq (.ops 1 false [
   ⟨some 3, .val (.t 0), none⟩,
   ⟨some 4, .call 88 [(.t 3)], none⟩,
   ⟨some 5, .cvt 79 9 (.t 4), none⟩,
   ⟨some 6, .sbin .add (.c (.string ⟨#[107]⟩)) (.t 5), none⟩,
   ⟨some 2, .val (.t 6), none⟩] [])
  (.ret))
def rs86 : List RR := [.tmp 2]
theorem fun86 : FunR Tryd.prog 86 rc86 rs86 7 := ⟨Tryd.f86, Tryd.func86, by kernel_rfl, by kernel_rfl, by kernel_rfl⟩
/-- causeway/ticket.value -/
def rc87 : RC :=
 .seq (.ops 0 false [
  ⟨some 1, .box 96 (.t 0), none⟩,
  ⟨some 2, .val (.c (.slice none 0 0)), none⟩] [])
 (.seq (.ops 1 true [
   ⟨some 4, .fieldA 1 (.t 1), none⟩,
   ⟨some 5, .load (.t 4), none⟩,
   ⟨some 6, .call 88 [(.t 5)], none⟩,
   ⟨some 7, .fieldA 2 (.t 1), none⟩,
   ⟨some 8, .sliceA 20 1 (.t 7) none none, none⟩,
   ⟨some 9, .blt .append #[79, 79] 79 [(.t 6), (.t 8)], none⟩,
   ⟨some 3, .val (.t 9), none⟩] [([], []), ([0], [0]), ([1], [1]), ([], []), ([3], [3]), ([2, 4, 2], [2, 4]), ([5, 5, 0, 1, 2, 3, 4, 5], [5])])
  (.seq (.ops 2 true [
    ⟨some 10, .val (.t 3), none⟩,
    ⟨some 11, .fieldA 22 (.t 1), none⟩,
    ⟨some 12, .load (.t 11), none⟩,
    ⟨some 13, .conv .u8 (.t 12), none⟩,
    ⟨some 14, .buildS 5 1 [(.int .u8 0)] [(0, 1, (.t 13))], none⟩,
    ⟨some 15, .blt .append #[79, 79] 79 [(.t 10), (.t 14)], none⟩,
    ⟨some 16, .fieldA 23 (.t 1), none⟩,
    ⟨some 17, .sliceA 20 1 (.t 16) none none, none⟩,
    ⟨some 18, .blt .append #[79, 79] 79 [(.t 15), (.t 17)], none⟩,
    ⟨some 3, .val (.t 18), none⟩] [([], []), ([], []), ([1], [1]), ([2], [2]), ([3], [3]), ([0, 4], [0, 4]), ([], []), ([6], [6]), ([5, 7, 5], [5, 7]), ([8, 8, 0, 1, 2, 3, 4, 5, 6, 7, 8], [0, 8])])
   (.seq (.ops 3 false [
     ⟨some 19, .val (.t 3), none⟩,
     ⟨some 20, .fieldA 43 (.t 1), none⟩,
     ⟨some 21, .loadN 4 (.t 20), none⟩,
     ⟨some 22, .call 122 [(.t 21)], none⟩,
     ⟨some 23, .blt .append #[79, 79] 79 [(.t 19), (.t 22)], none⟩,
     ⟨some 2, .val (.t 23), none⟩] [])
    (.ret))))
def rs87 : List RR := [.tmp 2]
theorem fun87 : FunR Tryd.prog 87 rc87 rs87 24 := ⟨Tryd.f87, Tryd.func87, by kernel_rfl, by kernel_rfl, by kernel_rfl⟩
/-- causeway/ticket.eight -/
def rc88 : RC :=
 .seq (.ops 0 false [
  ⟨some 2, .val (.c (.slice none 0 0)), none⟩] [])
 (.seq (.ops 1 false [
   ⟨some 3, .alloc 196 (List.replicate 8 (.int .u8 0)), none⟩] [])
  (.seq (.seq (.ops 2 false [
     ⟨some 5, .val (.c (.int .i64 0)), none⟩] [])
    (.block 0 (.loop (.seq (.ops 3 false [
        ⟨some 6, .bin .lss (.t 5) (.c (.int .i64 8)), none⟩] [])
       (.seq (.cond (.t 6) (.skip)
         (.exit 0))
        (.seq (.block 1 (.seq (.ops 4 false [
            ⟨some 7, .val (.t 5), none⟩,
            ⟨some 4, .val (.t 7), none⟩] [])
           (.ops 5 false [
            ⟨some 8, .val (.t 4), none⟩,
            ⟨some 9, .val (.t 0), none⟩,
            ⟨some 10, .val (.t 4), none⟩,
            ⟨some 11, .bin .mul (.c (.int .i64 8)) (.t 10), none⟩,
            ⟨some 12, .bin .sub (.c (.int .i64 56)) (.t 11), none⟩,
            ⟨some 13, .bin .shr (.t 9) (.t 12), none⟩,
            ⟨some 14, .conv .u8 (.t 13), none⟩,
            ⟨some 15, .indexA 8 1 (.t 3) (.t 8), none⟩,
            ⟨none, .store 1 (.t 15) (.t 14), none⟩] [])))
         (.ops 6 false [
          ⟨some 16, .bin .add (.t 5) (.c (.int .i64 1)), none⟩,
          ⟨some 5, .val (.t 16), none⟩] [])))))))
   (.seq (.ops 7 false [
     ⟨some 17, .sliceA 8 1 (.t 3) none none, none⟩,
     ⟨some 2, .val (.t 17), none⟩] [])
    (.ret))))
def rs88 : List RR := [.tmp 2]
theorem fun88 : FunR Tryd.prog 88 rc88 rs88 18 := ⟨Tryd.f88, Tryd.func88, by kernel_rfl, by kernel_rfl, by kernel_rfl⟩
/-- causeway/ticket.ticketOf -/
def rc89 : RC :=
 .seq (.ops 0 false [
  ⟨some 3, .box 79 (.t 1), none⟩,
  ⟨some 4, .alloc 96 [(.int .i64 0), (.int .i64 0), (.int .u8 0), (.int .u8 0), (.int .u8 0), (.int .u8 0), (.int .u8 0), (.int .u8 0), (.int .u8 0), (.int .u8 0), (.int .u8 0), (.int .u8 0), (.int .u8 0), (.int .u8 0), (.int .u8 0), (.int .u8 0), (.int .u8 0), (.int .u8 0), (.int .u8 0), (.int .u8 0), (.int .u8 0), (.int .u8 0), (.int .i64 0), (.int .u8 0), (.int .u8 0), (.int .u8 0), (.int .u8 0), (.int .u8 0), (.int .u8 0), (.int .u8 0), (.int .u8 0), (.int .u8 0), (.int .u8 0), (.int .u8 0), (.int .u8 0), (.int .u8 0), (.int .u8 0), (.int .u8 0), (.int .u8 0), (.int .u8 0), (.int .u8 0), (.int .u8 0), (.int .u8 0), (.int .u64 0), (.int .u64 0), (.int .u64 0), (.int .u64 0)], none⟩,
  ⟨some 5, .val (.c (.bool false)), none⟩] [])
 (.seq (.seq (.ops 1 false [
    ⟨some 10, .load (.t 3), none⟩,
    ⟨some 11, .len (.t 10), none⟩,
    ⟨some 12, .bin .neq (.t 11) (.c (.int .i64 81)), none⟩] [])
   (.cond (.t 12) (.seq (.ops 2 false [
      ⟨some 13, .build [(.int .i64 0), (.int .i64 0), (.int .u8 0), (.int .u8 0), (.int .u8 0), (.int .u8 0), (.int .u8 0), (.int .u8 0), (.int .u8 0), (.int .u8 0), (.int .u8 0), (.int .u8 0), (.int .u8 0), (.int .u8 0), (.int .u8 0), (.int .u8 0), (.int .u8 0), (.int .u8 0), (.int .u8 0), (.int .u8 0), (.int .u8 0), (.int .u8 0), (.int .i64 0), (.int .u8 0), (.int .u8 0), (.int .u8 0), (.int .u8 0), (.int .u8 0), (.int .u8 0), (.int .u8 0), (.int .u8 0), (.int .u8 0), (.int .u8 0), (.int .u8 0), (.int .u8 0), (.int .u8 0), (.int .u8 0), (.int .u8 0), (.int .u8 0), (.int .u8 0), (.int .u8 0), (.int .u8 0), (.int .u8 0), (.int .u64 0), (.int .u64 0), (.int .u64 0), (.int .u64 0)] [], none⟩,
      ⟨none, .store 47 (.t 4) (.t 13), none⟩,
      ⟨some 5, .val (.c (.bool false)), none⟩] [])
     (.ret))
    (.skip)))
  (.seq (.ops 3 false [
    ⟨some 14, .func 123 [(.t 3)], none⟩,
    ⟨some 6, .val (.t 14), none⟩] [])
   (.seq (.ops 4 false [
     ⟨some 15, .val (.t 0), none⟩,
     ⟨some 16, .val (.t 6), none⟩,
     ⟨some 17, .callv (.t 16) [(.c (.int .i64 8))], none⟩,
     ⟨some 18, .call 90 [(.t 17)], none⟩,
     ⟨some 19, .build [(.int .i64 0), (.int .i64 0), (.int .u8 0), (.int .u8 0), (.int .u8 0), (.int .u8 0), (.int .u8 0), (.int .u8 0), (.int .u8 0), (.int .u8 0), (.int .u8 0), (.int .u8 0), (.int .u8 0), (.int .u8 0), (.int .u8 0), (.int .u8 0), (.int .u8 0), (.int .u8 0), (.int .u8 0), (.int .u8 0), (.int .u8 0), (.int .u8 0), (.int .i64 0), (.int .u8 0), (.int .u8 0), (.int .u8 0), (.int .u8 0), (.int .u8 0), (.int .u8 0), (.int .u8 0), (.int .u8 0), (.int .u8 0), (.int .u8 0), (.int .u8 0), (.int .u8 0), (.int .u8 0), (.int .u8 0), (.int .u8 0), (.int .u8 0), (.int .u8 0), (.int .u8 0), (.int .u8 0), (.int .u8 0), (.int .u64 0), (.int .u64 0), (.int .u64 0), (.int .u64 0)] [(0, 1, (.t 15)), (1, 1, (.t 18))], none⟩,
     ⟨some 7, .alloc 96 [(.int .i64 0), (.int .i64 0), (.int .u8 0), (.int .u8 0), (.int .u8 0), (.int .u8 0), (.int .u8 0), (.int .u8 0), (.int .u8 0), (.int .u8 0), (.int .u8 0), (.int .u8 0), (.int .u8 0), (.int .u8 0), (.int .u8 0), (.int .u8 0), (.int .u8 0), (.int .u8 0), (.int .u8 0), (.int .u8 0), (.int .u8 0), (.int .u8 0), (.int .i64 0), (.int .u8 0), (.int .u8 0), (.int .u8 0), (.int .u8 0), (.int .u8 0), (.int .u8 0), (.int .u8 0), (.int .u8 0), (.int .u8 0), (.int .u8 0), (.int .u8 0), (.int .u8 0), (.int .u8 0), (.int .u8 0), (.int .u8 0), (.int .u8 0), (.int .u8 0), (.int .u8 0), (.int .u8 0), (.int .u8 0), (.int .u64 0), (.int .u64 0), (.int .u64 0), (.int .u64 0)], none⟩,
     ⟨none, .store 47 (.t 7) (.t 19), none⟩] [])
    (.seq (.ops 5 false [
      ⟨some 20, .val (.t 6), none⟩,
      ⟨some 21, .callv (.t 20) [(.c (.int .i64 20))], none⟩,
      ⟨some 22, .arrp 27 (.t 21), none⟩,
      ⟨some 23, .loadN 20 (.t 22), none⟩,
      ⟨some 24, .fieldA 2 (.t 7), none⟩,
      ⟨none, .store 20 (.t 24) (.t 23), none⟩] [])
     (.seq (.ops 6 false [
       ⟨some 25, .val (.t 6), none⟩,
       ⟨some 26, .callv (.t 25) [(.c (.int .i64 1))], none⟩,
       ⟨some 27, .call 90 [(.t 26)], none⟩,
       ⟨some 28, .fieldA 22 (.t 7), none⟩,
       ⟨none, .store 1 (.t 28) (.t 27), none⟩] [])
      (.seq (.ops 7 false [
        ⟨some 29, .val (.t 6), none⟩,
        ⟨some 30, .callv (.t 29) [(.c (.int .i64 20))], none⟩,
        ⟨some 31, .arrp 27 (.t 30), none⟩,
        ⟨some 32, .loadN 20 (.t 31), none⟩,
        ⟨some 33, .fieldA 23 (.t 7), none⟩,
        ⟨none, .store 20 (.t 33) (.t 32), none⟩] [])
       (.seq (.ops 8 false [
         ⟨some 35, .val (.t 6), none⟩,
         ⟨some 36, .callv (.t 35) [(.c (.int .i64 32))], none⟩,
         ⟨some 37, .call 124 [(.t 36)], none⟩,
         ⟨some 34, .val (.t 37), none⟩,
         ⟨some 38, .extract 0 (.t 34), none⟩,
         ⟨some 39, .extract 1 (.t 34), none⟩,
         ⟨some 8, .alloc 30 [(.int .u64 0), (.int .u64 0), (.int .u64 0), (.int .u64 0)], none⟩,
         ⟨none, .store 4 (.t 8) (.t 38), none⟩,
         ⟨some 9, .val (.t 39), none⟩] [])
        (.seq (.ops 9 false [
          ⟨some 40, .loadN 4 (.t 8), none⟩,
          ⟨some 41, .fieldA 43 (.t 7), none⟩,
          ⟨none, .store 4 (.t 41) (.t 40), none⟩] [])
         (.seq (.ops 10 true [
           ⟨some 42, .loadN 47 (.t 7), none⟩,
           ⟨some 43, .val (.t 9), none⟩,
           ⟨some 44, .bin .eql (.t 43) (.c (.int .i64 0)), none⟩,
           ⟨some 45, .val (.t 44), none⟩,
           ⟨some 46, .loadN 47 (.t 7), some (45, true)⟩,
           ⟨some 47, .call 85 [(.t 46)], some (45, true)⟩,
           ⟨some 48, .pick (.t 45) (.t 47) (.c (.bool false)), none⟩,
           ⟨none, .store 47 (.t 4) (.t 42), none⟩,
           ⟨some 5, .val (.t 48), none⟩] [([], []), ([], []), ([1], [1]), ([2], [2]), ([3], [3]), ([4, 3, 3], [3, 4]), ([3, 5], [3, 5]), ([0, 5, 0], [0]), ([6, 7, 0, 1, 2, 3, 4, 5, 6, 7], [6])])
          (.ret))))))))))
def rs89 : List RR := [.cell 4 (some 47), .tmp 5]
theorem fun89 : FunR Tryd.prog 89 rc89 rs89 49 := ⟨Tryd.f89, Tryd.func89, by kernel_rfl, by kernel_rfl, by kernel_rfl⟩
/-- causeway/ticket.number -/
def rc90 : RC :=
 .seq (.ops 0 false [
  ⟨some 2, .val (.c (.int .i64 0)), none⟩] [])
 (.seq (.ops 1 false [
   ⟨some 3, .val (.c (.int .i64 0)), none⟩] [])
  (.seq (.seq (.ops 2 false [
     ⟨some 6, .val (.t 0), none⟩,
     ⟨some 7, .len (.t 6), none⟩,
     ⟨some 8, .val (.c (.int .i64 0)), none⟩] [])
    (.block 0 (.loop (.seq (.ops 3 false [
        ⟨some 9, .bin .lss (.t 8) (.t 7), none⟩] [])
       (.seq (.cond (.t 9) (.skip)
         (.exit 0))
        (.seq (.block 1 (.seq (.ops 4 false [
            ⟨some 10, .indexS 1 (.t 6) (.t 8), none⟩,
            ⟨some 11, .load (.t 10), none⟩,
            ⟨some 5, .val (.t 11), none⟩] [])
           (.ops 5 false [
            ⟨some 12, .val (.t 3), none⟩,
            ⟨some 13, .bin .shl (.t 12) (.c (.int .u64 8)), none⟩,
            ⟨some 14, .val (.t 5), none⟩,
            ⟨some 15, .conv .i64 (.t 14), none⟩,
            ⟨some 16, .bin .or (.t 13) (.t 15), none⟩,
            ⟨some 3, .val (.t 16), none⟩] [])))
         (.ops 6 false [
          ⟨some 17, .bin .add (.t 8) (.c (.int .i64 1)), none⟩,
          ⟨some 8, .val (.t 17), none⟩] [])))))))
   (.seq (.ops 7 false [
     ⟨some 18, .val (.t 3), none⟩,
     ⟨some 2, .val (.t 18), none⟩] [])
    (.ret))))
def rs90 : List RR := [.tmp 2]
theorem fun90 : FunR Tryd.prog 90 rc90 rs90 19 := ⟨Tryd.f90, Tryd.func90, by kernel_rfl, by kernel_rfl, by kernel_rfl⟩
/-- causeway/wire.NewWriter -/
def rc92 : RC :=
 .seq (.ops 0 false [
  ⟨some 0, .val (.c (.pointer none)), none⟩] [])
 (.seq (.ops 1 false [
   ⟨some 1, .build [(.slice none 0 0), (.int .i64 0)] [], none⟩,
   ⟨some 2, .box 209 (.t 1), none⟩,
   ⟨some 0, .val (.t 2), none⟩] [])
  (.ret))
def rs92 : List RR := [.tmp 0]
theorem fun92 : FunR Tryd.prog 92 rc92 rs92 3 := ⟨Tryd.f92, Tryd.func92, by kernel_rfl, by kernel_rfl, by kernel_rfl⟩
/-- (*causeway/wire.Writer).Byte -/
def rc93 : RC :=
 .ops 0 false [
 ⟨some 4, .val (.t 0), none⟩,
 ⟨some 5, .val (.t 1), none⟩,
 ⟨some 6, .buildS 5 1 [(.int .u8 0)] [(0, 1, (.t 5))], none⟩,
 ⟨some 7, .buildS 79 1 [(.slice none 0 0)] [(0, 1, (.t 6))], none⟩,
 ⟨some 8, .call 131 [(.t 4), (.t 7)], none⟩] []
def rs93 : List RR := []
theorem fun93 : FunR Tryd.prog 93 rc93 rs93 9 := ⟨Tryd.f93, Tryd.func93, by kernel_rfl, by kernel_rfl, by kernel_rfl⟩
/-- (*causeway/wire.Writer).Number -/
def rc94 : RC :=
 .seq (.seq (.ops 0 false [
   ⟨some 4, .val (.t 1), none⟩,
   ⟨some 5, .bin .lss (.t 4) (.c (.int .i64 0)), none⟩] [])
  (.cond (.t 5) (.seq (.seq (.ops 1 false [
      ⟨some 6, .val (.t 0), none⟩,
      ⟨some 7, .nilCheck (.t 6), none⟩,
      ⟨some 8, .fieldA 1 (.t 7), none⟩,
      ⟨some 9, .load (.t 8), none⟩,
      ⟨some 10, .bin .eql (.t 9) (.c (.int .i64 0)), none⟩] [])
     (.cond (.t 10) (.ops 2 false [
       ⟨some 11, .val (.t 0), none⟩,
       ⟨some 12, .nilCheck (.t 11), none⟩,
       ⟨some 13, .fieldA 1 (.t 12), none⟩,
       ⟨none, .store 1 (.t 13) (.c (.int .i64 32)), none⟩] [])
      (.skip)))
    (.ret))
   (.skip)))
 (.ops 3 false [
  ⟨some 14, .val (.t 0), none⟩,
  ⟨some 15, .val (.t 1), none⟩,
  ⟨some 16, .call 132 [(.t 15)], none⟩,
  ⟨some 17, .buildS 79 1 [(.slice none 0 0)] [(0, 1, (.t 16))], none⟩,
  ⟨some 18, .call 131 [(.t 14), (.t 17)], none⟩] [])
def rs94 : List RR := []
theorem fun94 : FunR Tryd.prog 94 rc94 rs94 19 := ⟨Tryd.f94, Tryd.func94, by kernel_rfl, by kernel_rfl, by kernel_rfl⟩
/-- (*causeway/wire.Writer).Address -/
def rc95 : RC :=
 .seq (.ops 0 false [
  ⟨some 3, .box 27 (.t 1), none⟩] [])
 (.ops 1 false [
  ⟨some 4, .val (.t 0), none⟩,
  ⟨some 5, .sliceA 20 1 (.t 3) none none, none⟩,
  ⟨some 6, .buildS 79 1 [(.slice none 0 0)] [(0, 1, (.t 5))], none⟩,
  ⟨some 7, .call 131 [(.t 4), (.t 6)], none⟩] [])
def rs95 : List RR := []
theorem fun95 : FunR Tryd.prog 95 rc95 rs95 8 := ⟨Tryd.f95, Tryd.func95, by kernel_rfl, by kernel_rfl, by kernel_rfl⟩
/-- (*causeway/wire.Writer).Wide -/
def rc96 : RC :=
 .seq (.ops 0 false [
  ⟨some 3, .box 30 (.t 1), none⟩] [])
 (.seq (.ops 1 false [
   ⟨some 4, .alloc 24 (List.replicate 32 (.int .u8 0)), none⟩] [])
  (.seq (.seq (.ops 2 false [
     ⟨some 6, .val (.c (.int .i64 0)), none⟩] [])
    (.block 0 (.loop (.seq (.ops 3 false [
        ⟨some 7, .bin .lss (.t 6) (.c (.int .i64 32)), none⟩] [])
       (.seq (.cond (.t 7) (.skip)
         (.exit 0))
        (.seq (.block 1 (.seq (.ops 4 false [
            ⟨some 8, .val (.t 6), none⟩,
            ⟨some 5, .val (.t 8), none⟩] [])
           (.ops 5 false [
            ⟨some 9, .val (.t 5), none⟩,
            ⟨some 10, .val (.t 5), none⟩,
            ⟨some 11, .bin .quo (.t 10) (.c (.int .i64 8)), none⟩,
            ⟨some 12, .bin .sub (.c (.int .i64 3)) (.t 11), none⟩,
            ⟨some 13, .indexA 4 1 (.t 3) (.t 12), none⟩,
            ⟨some 14, .load (.t 13), none⟩,
            ⟨some 15, .val (.t 5), none⟩,
            ⟨some 16, .bin .rem (.t 15) (.c (.int .i64 8)), none⟩,
            ⟨some 17, .bin .mul (.c (.int .i64 8)) (.t 16), none⟩,
            ⟨some 18, .bin .sub (.c (.int .i64 56)) (.t 17), none⟩,
            ⟨some 19, .bin .shr (.t 14) (.t 18), none⟩,
            ⟨some 20, .conv .u8 (.t 19), none⟩,
            ⟨some 21, .indexA 32 1 (.t 4) (.t 9), none⟩,
            ⟨none, .store 1 (.t 21) (.t 20), none⟩] [])))
         (.ops 6 false [
          ⟨some 22, .bin .add (.t 6) (.c (.int .i64 1)), none⟩,
          ⟨some 6, .val (.t 22), none⟩] [])))))))
   (.ops 7 false [
    ⟨some 23, .val (.t 0), none⟩,
    ⟨some 24, .sliceA 32 1 (.t 4) none none, none⟩,
    ⟨some 25, .call 133 [(.t 24)], none⟩,
    ⟨some 26, .buildS 79 1 [(.slice none 0 0)] [(0, 1, (.t 25))], none⟩,
    ⟨some 27, .call 131 [(.t 23), (.t 26)], none⟩] [])))
def rs96 : List RR := []
theorem fun96 : FunR Tryd.prog 96 rc96 rs96 28 := ⟨Tryd.f96, Tryd.func96, by kernel_rfl, by kernel_rfl, by kernel_rfl⟩
/-- (*causeway/wire.Writer).Done -/
def rc97 : RC :=
 .seq (.ops 0 false [
  ⟨some 2, .val (.c (.slice none 0 0)), none⟩,
  ⟨some 3, .val (.c (.int .i64 0)), none⟩] [])
 (.seq (.seq (.ops 1 false [
    ⟨some 4, .val (.t 0), none⟩,
    ⟨some 5, .nilCheck (.t 4), none⟩,
    ⟨some 6, .fieldA 1 (.t 5), none⟩,
    ⟨some 7, .load (.t 6), none⟩,
    ⟨some 8, .bin .neq (.t 7) (.c (.int .i64 0)), none⟩] [])
   (.cond (.t 8) (.seq (.ops 2 true [
      ⟨some 9, .val (.t 0), none⟩,
      ⟨some 10, .nilCheck (.t 9), none⟩,
      ⟨some 11, .fieldA 1 (.t 10), none⟩,
      ⟨some 12, .load (.t 11), none⟩,
      ⟨some 2, .val (.c (.slice none 0 0)), none⟩,
      ⟨some 3, .val (.t 12), none⟩] [([], []), ([0], [0]), ([1], [1]), ([2], [2]), ([], []), ([3, 4, 0, 1, 2, 3, 4], [3])])
     (.ret))
    (.skip)))
  (.seq (.ops 3 false [
    ⟨some 13, .val (.t 0), none⟩,
    ⟨some 14, .nilCheck (.t 13), none⟩,
    ⟨some 15, .fieldA 0 (.t 14), none⟩,
    ⟨some 16, .load (.t 15), none⟩,
    ⟨some 17, .call 77 [(.t 16)], none⟩,
    ⟨some 2, .val (.t 17), none⟩,
    ⟨some 3, .val (.c (.int .i64 0)), none⟩] [])
   (.ret)))
def rs97 : List RR := [.tmp 2, .tmp 3]
theorem fun97 : FunR Tryd.prog 97 rc97 rs97 18 := ⟨Tryd.f97, Tryd.func97, by kernel_rfl, by kernel_rfl, by kernel_rfl⟩
/-- (*causeway/store.State).value -/
def rc115 : RC :=
 .seq (.ops 0 false [
  ⟨some 4, .val (.c (.slice none 0 0)), none⟩] [])
 (.seq (.seq (.ops 1 false [
    ⟨some 8, .val (.t 0), none⟩,
    ⟨some 9, .nilCheck (.t 8), none⟩,
    ⟨some 10, .fieldA 2 (.t 9), none⟩,
    ⟨some 11, .load (.t 10), none⟩,
    ⟨some 12, .val (.t 1), none⟩,
    ⟨some 13, .look 135 (.t 11) (.t 12) true, none⟩,
    ⟨some 7, .val (.t 13), none⟩,
    ⟨some 14, .extract 0 (.t 7), none⟩,
    ⟨some 15, .extract 1 (.t 7), none⟩,
    ⟨some 5, .val (.t 14), none⟩,
    ⟨some 6, .val (.t 15), none⟩] [])
   (.seq (.ops 2 false [
     ⟨some 16, .val (.t 6), none⟩] [])
    (.cond (.t 16) (.seq (.ops 3 false [
       ⟨some 17, .val (.t 5), none⟩,
       ⟨some 4, .val (.t 17), none⟩] [])
      (.ret))
     (.skip))))
  (.seq (.ops 4 false [
    ⟨some 18, .val (.t 0), none⟩,
    ⟨some 19, .nilCheck (.t 18), none⟩,
    ⟨some 20, .fieldA 1 (.t 19), none⟩,
    ⟨some 21, .load (.t 20), none⟩,
    ⟨some 22, .val (.t 1), none⟩,
    ⟨some 23, .look 135 (.t 21) (.t 22) false, none⟩,
    ⟨some 4, .val (.t 23), none⟩] [])
   (.ret)))
def rs115 : List RR := [.tmp 4]
theorem fun115 : FunR Tryd.prog 115 rc115 rs115 24 := ⟨Tryd.f115, Tryd.func115, by kernel_rfl, by kernel_rfl, by kernel_rfl⟩
/-- causeway/wide.IsZero -/
def rc117 : RC :=
 .seq (.ops 0 false [
  ⟨some 1, .box 30 (.t 0), none⟩,
  ⟨some 2, .val (.c (.bool false)), none⟩] [])
 (.seq (.ops 1 false [
   ⟨some 3, .loadN 4 (.t 1), none⟩,
   ⟨some 4, .build [(.int .u64 0), (.int .u64 0), (.int .u64 0), (.int .u64 0)] [], none⟩,
   ⟨some 5, .eqn false 30 (.t 3) (.t 4), none⟩,
   ⟨some 2, .val (.t 5), none⟩] [])
  (.ret))
def rs117 : List RR := [.tmp 2]
theorem fun117 : FunR Tryd.prog 117 rc117 rs117 6 := ⟨Tryd.f117, Tryd.func117, by kernel_rfl, by kernel_rfl, by kernel_rfl⟩
/-- causeway/wide.Bytes -/
def rc122 : RC :=
 .seq (.ops 0 false [
  ⟨some 1, .box 30 (.t 0), none⟩,
  ⟨some 2, .val (.c (.slice none 0 0)), none⟩] [])
 (.seq (.ops 1 false [
   ⟨some 6, .mkS 79 (.c (.int .i64 0)) (.c (.int .i64 32)), none⟩,
   ⟨some 3, .val (.t 6), none⟩] [])
  (.seq (.seq (.ops 2 false [
     ⟨some 4, .val (.c (.int .i64 3)), none⟩] [])
    (.block 0 (.loop (.seq (.seq (.ops 3 false [
         ⟨some 7, .val (.t 4), none⟩,
         ⟨some 8, .bin .geq (.t 7) (.c (.int .i64 0)), none⟩] [])
        (.cond (.t 8) (.skip)
         (.exit 0)))
       (.seq (.block 1 (.seq (.ops 5 false [
           ⟨some 5, .val (.c (.int .i64 56)), none⟩] [])
          (.block 2 (.loop (.seq (.seq (.ops 6 false [
               ⟨some 11, .val (.t 5), none⟩,
               ⟨some 12, .bin .geq (.t 11) (.c (.int .i64 0)), none⟩] [])
              (.cond (.t 12) (.skip)
               (.exit 2)))
             (.seq (.block 3 (.ops 8 false [
                ⟨some 15, .val (.t 3), none⟩,
                ⟨some 16, .val (.t 4), none⟩,
                ⟨some 17, .indexA 4 1 (.t 1) (.t 16), none⟩,
                ⟨some 18, .load (.t 17), none⟩,
                ⟨some 19, .val (.t 5), none⟩,
                ⟨some 20, .bin .shr (.t 18) (.t 19), none⟩,
                ⟨some 21, .conv .u8 (.t 20), none⟩,
                ⟨some 22, .buildS 5 1 [(.int .u8 0)] [(0, 1, (.t 21))], none⟩,
                ⟨some 23, .blt .append #[79, 79] 79 [(.t 15), (.t 22)], none⟩,
                ⟨some 3, .val (.t 23), none⟩] []))
              (.ops 7 false [
               ⟨some 13, .val (.t 5), none⟩,
               ⟨some 14, .bin .sub (.t 13) (.c (.int .i64 8)), none⟩,
               ⟨some 5, .val (.t 14), none⟩] [])))))))
        (.ops 4 false [
         ⟨some 9, .val (.t 4), none⟩,
         ⟨some 10, .bin .sub (.t 9) (.c (.int .i64 1)), none⟩,
         ⟨some 4, .val (.t 10), none⟩] []))))))
   (.seq (.ops 9 false [
     ⟨some 24, .val (.t 3), none⟩,
     ⟨some 2, .val (.t 24), none⟩] [])
    (.ret))))
def rs122 : List RR := [.tmp 2]
theorem fun122 : FunR Tryd.prog 122 rc122 rs122 25 := ⟨Tryd.f122, Tryd.func122, by kernel_rfl, by kernel_rfl, by kernel_rfl⟩
/-- causeway/ticket.ticketOf$1 -/
def rc123 : RC :=
 .seq (.ops 0 false [
  ⟨some 3, .val (.c (.slice none 0 0)), none⟩] [])
 (.seq (.ops 1 false [
   ⟨some 5, .load (.t 1), none⟩,
   ⟨some 6, .val (.t 0), none⟩,
   ⟨some 7, .slice 1 (.t 5) none (some (.t 6)) none, none⟩,
   ⟨some 4, .val (.t 7), none⟩] [])
  (.seq (.ops 2 false [
    ⟨some 8, .load (.t 1), none⟩,
    ⟨some 9, .val (.t 0), none⟩,
    ⟨some 10, .slice 1 (.t 8) (some (.t 9)) none none, none⟩,
    ⟨none, .store 1 (.t 1) (.t 10), none⟩] [])
   (.seq (.ops 3 false [
     ⟨some 11, .val (.t 4), none⟩,
     ⟨some 3, .val (.t 11), none⟩] [])
    (.ret))))
def rs123 : List RR := [.tmp 3]
theorem fun123 : FunR Tryd.prog 123 rc123 rs123 12 := ⟨Tryd.f123, Tryd.func123, by kernel_rfl, by kernel_rfl, by kernel_rfl⟩
/-- causeway/wide.Read -/
def rc124 : RC :=
 .seq (.ops 0 false [
  ⟨some 2, .alloc 30 [(.int .u64 0), (.int .u64 0), (.int .u64 0), (.int .u64 0)], none⟩,
  ⟨some 3, .val (.c (.int .i64 0)), none⟩] [])
 (.seq (.ops 1 false [
   ⟨some 4, .alloc 30 [(.int .u64 0), (.int .u64 0), (.int .u64 0), (.int .u64 0)], none⟩] [])
  (.seq (.seq (.ops 2 false [
     ⟨some 7, .val (.t 0), none⟩,
     ⟨some 8, .len (.t 7), none⟩,
     ⟨some 9, .bin .neq (.t 8) (.c (.int .i64 32)), none⟩] [])
    (.cond (.t 9) (.seq (.ops 3 false [
       ⟨some 10, .loadN 4 (.t 4), none⟩,
       ⟨none, .store 4 (.t 2) (.t 10), none⟩,
       ⟨some 3, .val (.c (.int .i64 20)), none⟩] [])
      (.ret))
     (.skip)))
   (.seq (.seq (.ops 4 false [
      ⟨some 11, .val (.t 0), none⟩,
      ⟨some 12, .len (.t 11), none⟩,
      ⟨some 13, .val (.c (.int .i64 0)), none⟩] [])
     (.block 0 (.loop (.seq (.ops 5 false [
         ⟨some 14, .bin .lss (.t 13) (.t 12), none⟩] [])
        (.seq (.cond (.t 14) (.skip)
          (.exit 0))
         (.seq (.block 1 (.seq (.ops 6 false [
             ⟨some 15, .val (.t 13), none⟩,
             ⟨some 16, .indexS 1 (.t 11) (.t 13), none⟩,
             ⟨some 17, .load (.t 16), none⟩,
             ⟨some 5, .val (.t 15), none⟩,
             ⟨some 6, .val (.t 17), none⟩] [])
            (.ops 7 false [
             ⟨some 18, .val (.t 5), none⟩,
             ⟨some 19, .bin .quo (.t 18) (.c (.int .i64 8)), none⟩,
             ⟨some 20, .bin .sub (.c (.int .i64 3)) (.t 19), none⟩,
             ⟨some 21, .val (.t 5), none⟩,
             ⟨some 22, .bin .quo (.t 21) (.c (.int .i64 8)), none⟩,
             ⟨some 23, .bin .sub (.c (.int .i64 3)) (.t 22), none⟩,
             ⟨some 24, .indexA 4 1 (.t 4) (.t 23), none⟩,
             ⟨some 25, .load (.t 24), none⟩,
             ⟨some 26, .bin .shl (.t 25) (.c (.int .u64 8)), none⟩,
             ⟨some 27, .val (.t 6), none⟩,
             ⟨some 28, .conv .u64 (.t 27), none⟩,
             ⟨some 29, .bin .or (.t 26) (.t 28), none⟩,
             ⟨some 30, .indexA 4 1 (.t 4) (.t 20), none⟩,
             ⟨none, .store 1 (.t 30) (.t 29), none⟩] [])))
          (.ops 8 false [
           ⟨some 31, .bin .add (.t 13) (.c (.int .i64 1)), none⟩,
           ⟨some 13, .val (.t 31), none⟩] [])))))))
    (.seq (.ops 9 false [
      ⟨some 32, .loadN 4 (.t 4), none⟩,
      ⟨none, .store 4 (.t 2) (.t 32), none⟩,
      ⟨some 3, .val (.c (.int .i64 0)), none⟩] [])
     (.ret)))))
def rs124 : List RR := [.cell 2 (some 4), .tmp 3]
theorem fun124 : FunR Tryd.prog 124 rc124 rs124 33 := ⟨Tryd.f124, Tryd.func124, by kernel_rfl, by kernel_rfl, by kernel_rfl⟩
/-- (*causeway/wire.Writer).lay -/
def rc131 : RC :=
 .seq (.ops 0 false [
  ⟨some 9, .val (.t 0), none⟩,
  ⟨some 10, .nilCheck (.t 9), none⟩,
  ⟨some 11, .fieldA 0 (.t 10), none⟩,
  ⟨some 12, .load (.t 11), none⟩,
  ⟨some 13, .len (.t 12), none⟩,
  ⟨some 4, .val (.t 13), none⟩] [])
 (.seq (.seq (.ops 1 false [
    ⟨some 14, .val (.t 1), none⟩,
    ⟨some 15, .len (.t 14), none⟩,
    ⟨some 16, .val (.c (.int .i64 0)), none⟩] [])
   (.block 0 (.loop (.seq (.ops 2 false [
       ⟨some 17, .bin .lss (.t 16) (.t 15), none⟩] [])
      (.seq (.cond (.t 17) (.skip)
        (.exit 0))
       (.seq (.block 1 (.seq (.ops 3 false [
           ⟨some 18, .indexS 1 (.t 14) (.t 16), none⟩,
           ⟨some 19, .load (.t 18), none⟩,
           ⟨some 6, .val (.t 19), none⟩] [])
          (.ops 4 false [
           ⟨some 20, .val (.t 4), none⟩,
           ⟨some 21, .val (.t 6), none⟩,
           ⟨some 22, .len (.t 21), none⟩,
           ⟨some 23, .bin .add (.t 20) (.t 22), none⟩,
           ⟨some 4, .val (.t 23), none⟩] [])))
        (.ops 5 false [
         ⟨some 24, .bin .add (.t 16) (.c (.int .i64 1)), none⟩,
         ⟨some 16, .val (.t 24), none⟩] [])))))))
  (.block 2 (.seq (.ops 11 false [
     ⟨some 42, .val (.t 0), none⟩,
     ⟨some 43, .nilCheck (.t 42), none⟩,
     ⟨some 44, .fieldA 1 (.t 43), none⟩,
     ⟨some 45, .load (.t 44), none⟩,
     ⟨some 46, .bin .neq (.t 45) (.c (.int .i64 0)), none⟩,
     ⟨some 41, .val (.t 46), none⟩] [])
    (.cond (.t 41) (.skip)
     (.seq (.ops 12 false [
       ⟨some 48, .val (.t 4), none⟩,
       ⟨some 49, .bin .gtr (.t 48) (.c (.int .i64 4194304)), none⟩,
       ⟨some 47, .val (.t 49), none⟩] [])
      (.cond (.t 47) (.ops 13 false [
        ⟨some 50, .val (.t 0), none⟩,
        ⟨some 51, .nilCheck (.t 50), none⟩,
        ⟨some 52, .fieldA 1 (.t 51), none⟩,
        ⟨none, .store 1 (.t 52) (.c (.int .i64 30)), none⟩] [])
       (.seq (.ops 6 false [
         ⟨some 25, .val (.t 1), none⟩,
         ⟨some 26, .len (.t 25), none⟩,
         ⟨some 27, .val (.c (.int .i64 0)), none⟩] [])
        (.block 3 (.loop (.seq (.ops 7 false [
            ⟨some 28, .bin .lss (.t 27) (.t 26), none⟩] [])
           (.seq (.cond (.t 28) (.skip)
             (.exit 3))
            (.seq (.block 4 (.seq (.ops 8 false [
                ⟨some 29, .indexS 1 (.t 25) (.t 27), none⟩,
                ⟨some 30, .load (.t 29), none⟩,
                ⟨some 8, .val (.t 30), none⟩] [])
               (.ops 9 false [
                ⟨some 31, .val (.t 0), none⟩,
                ⟨some 32, .val (.t 0), none⟩,
                ⟨some 33, .nilCheck (.t 32), none⟩,
                ⟨some 34, .fieldA 0 (.t 33), none⟩,
                ⟨some 35, .load (.t 34), none⟩,
                ⟨some 36, .val (.t 8), none⟩,
                ⟨some 37, .blt .append #[79, 79] 79 [(.t 35), (.t 36)], none⟩,
                ⟨some 38, .nilCheck (.t 31), none⟩,
                ⟨some 39, .fieldA 0 (.t 38), none⟩,
                ⟨none, .store 1 (.t 39) (.t 37), none⟩] [])))
             (.ops 10 false [
              ⟨some 40, .bin .add (.t 27) (.c (.int .i64 1)), none⟩,
              ⟨some 27, .val (.t 40), none⟩] [])))))))))))))
def rs131 : List RR := []
theorem fun131 : FunR Tryd.prog 131 rc131 rs131 53 := ⟨Tryd.f131, Tryd.func131, by kernel_rfl, by kernel_rfl, by kernel_rfl⟩
/-- causeway/wire.form -/
def rc132 : RC :=
 .seq (.ops 0 false [
  ⟨some 2, .val (.c (.slice none 0 0)), none⟩] [])
 (.seq (.ops 1 false [
   ⟨some 3, .alloc 196 (List.replicate 8 (.int .u8 0)), none⟩] [])
  (.seq (.seq (.ops 2 false [
     ⟨some 5, .val (.c (.int .i64 0)), none⟩] [])
    (.block 0 (.loop (.seq (.ops 3 false [
        ⟨some 6, .bin .lss (.t 5) (.c (.int .i64 8)), none⟩] [])
       (.seq (.cond (.t 6) (.skip)
         (.exit 0))
        (.seq (.block 1 (.seq (.ops 4 false [
            ⟨some 7, .val (.t 5), none⟩,
            ⟨some 4, .val (.t 7), none⟩] [])
           (.ops 5 false [
            ⟨some 8, .val (.t 4), none⟩,
            ⟨some 9, .val (.t 0), none⟩,
            ⟨some 10, .val (.t 4), none⟩,
            ⟨some 11, .bin .mul (.c (.int .i64 8)) (.t 10), none⟩,
            ⟨some 12, .bin .sub (.c (.int .i64 56)) (.t 11), none⟩,
            ⟨some 13, .bin .shr (.t 9) (.t 12), none⟩,
            ⟨some 14, .conv .u8 (.t 13), none⟩,
            ⟨some 15, .indexA 8 1 (.t 3) (.t 8), none⟩,
            ⟨none, .store 1 (.t 15) (.t 14), none⟩] [])))
         (.ops 6 false [
          ⟨some 16, .bin .add (.t 5) (.c (.int .i64 1)), none⟩,
          ⟨some 5, .val (.t 16), none⟩] [])))))))
   (.seq (.ops 7 false [
     ⟨some 17, .sliceA 8 1 (.t 3) none none, none⟩,
     ⟨some 18, .call 133 [(.t 17)], none⟩,
     ⟨some 2, .val (.t 18), none⟩] [])
    (.ret))))
def rs132 : List RR := [.tmp 2]
theorem fun132 : FunR Tryd.prog 132 rc132 rs132 19 := ⟨Tryd.f132, Tryd.func132, by kernel_rfl, by kernel_rfl, by kernel_rfl⟩
/-- causeway/wire.short -/
def rc133 : RC :=
 .seq (.ops 0 false [
  ⟨some 2, .val (.c (.slice none 0 0)), none⟩] [])
 (.seq (.block 0 (.loop (.seq (.seq (.ops 1 false [
       ⟨some 3, .val (.t 0), none⟩,
       ⟨some 4, .len (.t 3), none⟩,
       ⟨some 5, .bin .gtr (.t 4) (.c (.int .i64 0)), none⟩,
       ⟨some 6, .val (.t 5), none⟩,
       ⟨some 7, .val (.t 0), some (6, true)⟩,
       ⟨some 8, .indexS 1 (.t 7) (.c (.int .i64 0)), some (6, true)⟩,
       ⟨some 9, .load (.t 8), some (6, true)⟩,
       ⟨some 10, .bin .eql (.t 9) (.c (.int .u8 0)), some (6, true)⟩,
       ⟨some 11, .pick (.t 6) (.t 10) (.c (.bool false)), none⟩] [])
      (.cond (.t 11) (.skip)
       (.exit 0)))
     (.block 1 (.ops 2 false [
       ⟨some 12, .val (.t 0), none⟩,
       ⟨some 13, .slice 1 (.t 12) (some (.c (.int .i64 1))) none none, none⟩,
       ⟨some 0, .val (.t 13), none⟩] [])))))
  (.seq (.ops 3 false [
    ⟨some 14, .val (.t 0), none⟩,
    ⟨some 15, .len (.t 14), none⟩,
    ⟨some 16, .conv .u8 (.t 15), none⟩,
    ⟨some 17, .buildS 5 1 [(.int .u8 0)] [(0, 1, (.t 16))], none⟩,
    ⟨some 18, .val (.t 0), none⟩,
    ⟨some 19, .blt .append #[79, 79] 79 [(.t 17), (.t 18)], none⟩,
    ⟨some 2, .val (.t 19), none⟩] [])
   (.ret)))
def rs133 : List RR := [.tmp 2]
theorem fun133 : FunR Tryd.prog 133 rc133 rs133 20 := ⟨Tryd.f133, Tryd.func133, by kernel_rfl, by kernel_rfl, by kernel_rfl⟩
/-- (*causeway/store.Table).Find -/
def rc202 : RC :=
 .seq (.ops 0 false [
  ⟨some 4, .val (.c (.slice none 0 0)), none⟩,
  ⟨some 5, .val (.c (.int .i64 0)), none⟩] [])
 (.seq (.seq (.ops 1 false [
    ⟨some 7, .val (.t 1), none⟩,
    ⟨some 8, .call 75 [(.t 7), (.c (.slice none 0 0))], none⟩,
    ⟨some 6, .val (.t 8), none⟩] [])
   (.seq (.ops 2 false [
     ⟨some 9, .val (.t 6), none⟩,
     ⟨some 10, .bin .neq (.t 9) (.c (.int .i64 0)), none⟩] [])
    (.cond (.t 10) (.seq (.ops 3 false [
       ⟨some 11, .val (.t 6), none⟩,
       ⟨some 4, .val (.c (.slice none 0 0)), none⟩,
       ⟨some 5, .val (.t 11), none⟩] [])
      (.ret))
     (.skip))))
  (.seq (.ops 4 false [
    ⟨some 12, .val (.t 0), none⟩,
    ⟨some 13, .nilCheck (.t 12), none⟩,
    ⟨some 14, .fieldA 0 (.t 13), none⟩,
    ⟨some 15, .load (.t 14), none⟩,
    ⟨some 16, .val (.t 1), none⟩,
    ⟨some 17, .look 135 (.t 15) (.t 16) false, none⟩,
    ⟨some 18, .call 77 [(.t 17)], none⟩,
    ⟨some 4, .val (.t 18), none⟩,
    ⟨some 5, .val (.c (.int .i64 0)), none⟩] [])
   (.ret)))
def rs202 : List RR := [.tmp 4, .tmp 5]
theorem fun202 : FunR Tryd.prog 202 rc202 rs202 19 := ⟨Tryd.f202, Tryd.func202, by kernel_rfl, by kernel_rfl, by kernel_rfl⟩
end Go.Proofs.YthdpknlnpeaiiaaDoor
