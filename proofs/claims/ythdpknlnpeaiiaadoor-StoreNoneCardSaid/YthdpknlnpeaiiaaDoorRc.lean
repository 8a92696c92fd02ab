/-
  The resolved texts of this seat's functions, printed by this session's own program, and that they are what the translation has.
-/
import Derived.Test.YthdpknlnpeaiiaaDoorChecked
import Derived.Test.YthdpknlnpeaiiaaDoorZCd
import Derived.KernelRfl
namespace Go.Proofs.YthdpknlnpeaiiaaDoor
open Go Go.Sl
set_option maxRecDepth 100000
/-- causeway/causewaylaw07.StoreNone -/
def rc7 : RC :=
 .seq (.ops 0 false [
  ⟨some 4, .val (.c (.bool false)), none⟩] [])
 (.seq (.ops 1 false [
   ⟨some 14, .call 32 [], none⟩,
   ⟨some 5, .val (.t 14), none⟩] [])
  (.seq (.ops 2 false [
    ⟨some 16, .call 33 [(.c .nilIface)], none⟩,
    ⟨some 15, .val (.t 16), none⟩,
    ⟨some 17, .extract 0 (.t 15), none⟩,
    ⟨some 18, .extract 1 (.t 15), none⟩,
    ⟨some 6, .val (.t 17), none⟩,
    ⟨some 7, .val (.t 18), none⟩] [])
   (.seq (.ops 3 false [
     ⟨some 19, .call 34 [], none⟩,
     ⟨some 8, .val (.t 19), none⟩] [])
    (.seq (.seq (.ops 4 false [
       ⟨some 20, .val (.t 8), none⟩,
       ⟨some 21, .eqp .ptr false (.t 20) (.c (.pointer none)), none⟩] [])
      (.cond (.t 21) (.seq (.ops 5 false [
         ⟨some 4, .val (.c (.bool false)), none⟩] [])
        (.ret))
       (.skip)))
     (.seq (.ops 6 false [
       ⟨some 23, .val (.t 8), none⟩,
       ⟨some 24, .iface 86 (.t 23), none⟩,
       ⟨some 25, .call 33 [(.t 24)], none⟩,
       ⟨some 22, .val (.t 25), none⟩,
       ⟨some 26, .extract 0 (.t 22), none⟩,
       ⟨some 27, .extract 1 (.t 22), none⟩,
       ⟨some 9, .val (.t 26), none⟩,
       ⟨some 10, .val (.t 27), none⟩] [])
      (.seq (.seq (.ops 7 false [
         ⟨some 28, .val (.t 9), none⟩,
         ⟨some 29, .eqp .ptr false (.t 28) (.c (.pointer none)), none⟩] [])
        (.cond (.t 29) (.seq (.ops 8 false [
           ⟨some 4, .val (.c (.bool false)), none⟩] [])
          (.ret))
         (.skip)))
       (.seq (.ops 9 false [
         ⟨some 30, .val (.t 9), none⟩,
         ⟨some 31, .val (.t 0), none⟩,
         ⟨some 32, .val (.t 1), none⟩,
         ⟨some 33, .call 35 [(.t 30), (.t 31), (.t 32)], none⟩,
         ⟨some 11, .val (.t 33), none⟩] [])
        (.seq (.ops 10 false [
          ⟨some 34, .val (.t 0), none⟩,
          ⟨some 35, .val (.t 1), none⟩,
          ⟨some 36, .call 36 [(.t 34), (.t 35)], none⟩,
          ⟨some 12, .val (.t 36), none⟩] [])
         (.seq (.ops 11 false [
           ⟨some 37, .val (.t 8), none⟩,
           ⟨some 38, .call 37 [(.t 37)], none⟩,
           ⟨some 13, .val (.t 38), none⟩] [])
          (.seq (.ops 12 false [
            ⟨some 39, .val (.t 5), none⟩,
            ⟨some 40, .val (.t 39), none⟩,
            ⟨some 41, .val (.t 6), some (40, true)⟩,
            ⟨some 42, .eqp .ptr false (.t 41) (.c (.pointer none)), some (40, true)⟩,
            ⟨some 43, .pick (.t 40) (.t 42) (.c (.bool false)), none⟩,
            ⟨some 44, .val (.t 43), none⟩,
            ⟨some 45, .val (.t 7), some (44, true)⟩,
            ⟨some 46, .bin .eql (.t 45) (.c (.int .i64 1)), some (44, true)⟩,
            ⟨some 47, .pick (.t 44) (.t 46) (.c (.bool false)), none⟩,
            ⟨some 48, .val (.t 47), none⟩,
            ⟨some 49, .val (.t 10), some (48, true)⟩,
            ⟨some 50, .bin .eql (.t 49) (.c (.int .i64 0)), some (48, true)⟩,
            ⟨some 51, .pick (.t 48) (.t 50) (.c (.bool false)), none⟩,
            ⟨some 52, .val (.t 51), none⟩,
            ⟨some 53, .val (.t 11), some (52, true)⟩,
            ⟨some 54, .val (.t 12), some (52, true)⟩,
            ⟨some 55, .bin .eql (.t 53) (.t 54), some (52, true)⟩,
            ⟨some 56, .pick (.t 52) (.t 55) (.c (.bool false)), none⟩,
            ⟨some 57, .val (.t 56), none⟩,
            ⟨some 58, .val (.t 13), some (57, true)⟩,
            ⟨some 59, .bin .eql (.t 58) (.c (.int .i64 0)), some (57, true)⟩,
            ⟨some 60, .pick (.t 57) (.t 59) (.c (.bool false)), none⟩,
            ⟨some 4, .val (.t 60), none⟩] [])
           (.ret)))))))))))
def rs7 : List RR := [.tmp 4]
theorem fun7 : FunR Tryd.prog 7 rc7 rs7 61 := ⟨Tryd.f7, Tryd.func7, by kernel_rfl, by kernel_rfl, by kernel_rfl⟩
/-- causeway/causewaylaw07.awake -/
def rc32 : RC :=
 .seq (.ops 0 false [
  ⟨some 0, .val (.c (.bool false)), none⟩] [])
 (.seq (.ops 1 false [
   ⟨some 8, .call 34 [], none⟩,
   ⟨some 1, .val (.t 8), none⟩] [])
  (.seq (.seq (.ops 2 false [
     ⟨some 9, .val (.t 1), none⟩,
     ⟨some 10, .eqp .ptr false (.t 9) (.c (.pointer none)), none⟩] [])
    (.cond (.t 10) (.seq (.ops 3 false [
       ⟨some 0, .val (.c (.bool false)), none⟩] [])
      (.ret))
     (.skip)))
   (.seq (.ops 4 false [
     ⟨some 11, .val (.t 1), none⟩,
     ⟨some 12, .buildS 5 2 [(.int .u8 0), (.int .u8 0)] [(0, 1, (.c (.int .u8 1))), (1, 1, (.c (.int .u8 2)))], none⟩,
     ⟨some 13, .call 72 [(.t 11), (.c (.string ⟨#[97]⟩)), (.t 12)], none⟩,
     ⟨some 2, .val (.t 13), none⟩] [])
    (.seq (.ops 5 false [
      ⟨some 14, .val (.t 1), none⟩,
      ⟨some 15, .call 37 [(.t 14)], none⟩,
      ⟨some 3, .val (.t 15), none⟩] [])
     (.seq (.ops 6 false [
       ⟨some 17, .val (.t 1), none⟩,
       ⟨some 18, .iface 86 (.t 17), none⟩,
       ⟨some 19, .call 33 [(.t 18)], none⟩,
       ⟨some 16, .val (.t 19), none⟩,
       ⟨some 20, .extract 0 (.t 16), none⟩,
       ⟨some 21, .extract 1 (.t 16), none⟩,
       ⟨some 4, .val (.t 20), none⟩,
       ⟨some 5, .val (.t 21), none⟩] [])
      (.seq (.seq (.ops 7 false [
         ⟨some 22, .val (.t 4), none⟩,
         ⟨some 23, .eqp .ptr false (.t 22) (.c (.pointer none)), none⟩] [])
        (.cond (.t 23) (.seq (.ops 8 false [
           ⟨some 0, .val (.c (.bool false)), none⟩] [])
          (.ret))
         (.skip)))
       (.seq (.ops 9 false [
         ⟨some 25, .val (.t 4), none⟩,
         ⟨some 26, .call 73 [(.t 25), (.c (.string ⟨#[97]⟩))], none⟩,
         ⟨some 24, .val (.t 26), none⟩,
         ⟨some 27, .extract 0 (.t 24), none⟩,
         ⟨some 28, .extract 1 (.t 24), none⟩,
         ⟨some 6, .val (.t 27), none⟩,
         ⟨some 7, .val (.t 28), none⟩] [])
        (.seq (.ops 10 false [
          ⟨some 29, .val (.t 2), none⟩,
          ⟨some 30, .bin .eql (.t 29) (.c (.int .i64 0)), none⟩,
          ⟨some 31, .val (.t 30), none⟩,
          ⟨some 32, .val (.t 3), some (31, true)⟩,
          ⟨some 33, .bin .eql (.t 32) (.c (.int .i64 1)), some (31, true)⟩,
          ⟨some 34, .pick (.t 31) (.t 33) (.c (.bool false)), none⟩,
          ⟨some 35, .val (.t 34), none⟩,
          ⟨some 36, .val (.t 5), some (35, true)⟩,
          ⟨some 37, .bin .eql (.t 36) (.c (.int .i64 0)), some (35, true)⟩,
          ⟨some 38, .pick (.t 35) (.t 37) (.c (.bool false)), none⟩,
          ⟨some 39, .val (.t 38), none⟩,
          ⟨some 40, .val (.t 7), some (39, true)⟩,
          ⟨some 41, .bin .eql (.t 40) (.c (.int .i64 0)), some (39, true)⟩,
          ⟨some 42, .pick (.t 39) (.t 41) (.c (.bool false)), none⟩,
          ⟨some 43, .val (.t 42), none⟩,
          ⟨some 44, .val (.t 6), some (43, true)⟩,
          ⟨some 45, .cvt 79 9 (.t 44), some (43, true)⟩,
          ⟨some 46, .eqp .str false (.t 45) (.c (.string ⟨#[1, 2]⟩)), some (43, true)⟩,
          ⟨some 47, .pick (.t 43) (.t 46) (.c (.bool false)), none⟩,
          ⟨some 0, .val (.t 47), none⟩] [])
         (.ret)))))))))
def rs32 : List RR := [.tmp 0]
theorem fun32 : FunR Tryd.prog 32 rc32 rs32 48 := ⟨Tryd.f32, Tryd.func32, by kernel_rfl, by kernel_rfl, by kernel_rfl⟩
/-- causeway/store.Over -/
def rc33 : RC :=
 .seq (.ops 0 false [
  ⟨some 2, .val (.c (.pointer none)), none⟩,
  ⟨some 3, .val (.c (.int .i64 0)), none⟩] [])
 (.seq (.seq (.ops 1 false [
    ⟨some 4, .val (.t 0), none⟩,
    ⟨some 5, .eqp .ifc false (.t 4) (.c .nilIface), none⟩] [])
   (.cond (.t 5) (.seq (.ops 2 false [
      ⟨some 2, .val (.c (.pointer none)), none⟩,
      ⟨some 3, .val (.c (.int .i64 1)), none⟩] [])
     (.ret))
    (.skip)))
  (.seq (.ops 3 false [
    ⟨some 6, .val (.t 0), none⟩,
    ⟨some 7, .mkMap 135, none⟩,
    ⟨some 8, .mkMap 135, none⟩,
    ⟨some 9, .build [.nilIface, (.map none), (.map none), (.slice none 0 0), (.slice none 0 0)] [(0, 1, (.t 6)), (1, 1, (.t 7)), (2, 1, (.t 8))], none⟩,
    ⟨some 10, .box 139 (.t 9), none⟩,
    ⟨some 2, .val (.t 10), none⟩,
    ⟨some 3, .val (.c (.int .i64 0)), none⟩] [])
   (.ret)))
def rs33 : List RR := [.tmp 2, .tmp 3]
theorem fun33 : FunR Tryd.prog 33 rc33 rs33 11 := ⟨Tryd.f33, Tryd.func33, by kernel_rfl, by kernel_rfl, by kernel_rfl⟩
/-- causeway/store.NewTable -/
def rc34 : RC :=
 .seq (.ops 0 false [
  ⟨some 0, .val (.c (.pointer none)), none⟩] [])
 (.seq (.ops 1 false [
   ⟨some 1, .mkMap 135, none⟩,
   ⟨some 2, .call 74 [], none⟩,
   ⟨some 3, .mkMap 142, none⟩,
   ⟨some 4, .build [(.map none), (.pointer none), (.map none)] [(0, 1, (.t 1)), (1, 1, (.t 2)), (2, 1, (.t 3))], none⟩,
   ⟨some 5, .box 144 (.t 4), none⟩,
   ⟨some 0, .val (.t 5), none⟩] [])
  (.ret))
def rs34 : List RR := [.tmp 0]
theorem fun34 : FunR Tryd.prog 34 rc34 rs34 6 := ⟨Tryd.f34, Tryd.func34, by kernel_rfl, by kernel_rfl, by kernel_rfl⟩
/-- (*causeway/store.State).Put -/
def rc35 : RC :=
 .seq (.ops 0 false [
  ⟨some 6, .val (.c (.int .i64 0)), none⟩] [])
 (.seq (.seq (.ops 1 false [
    ⟨some 11, .val (.t 1), none⟩,
    ⟨some 12, .val (.t 2), none⟩,
    ⟨some 13, .call 75 [(.t 11), (.t 12)], none⟩,
    ⟨some 7, .val (.t 13), none⟩] [])
   (.seq (.ops 2 false [
     ⟨some 14, .val (.t 7), none⟩,
     ⟨some 15, .bin .neq (.t 14) (.c (.int .i64 0)), none⟩] [])
    (.cond (.t 15) (.seq (.ops 3 false [
       ⟨some 16, .val (.t 7), none⟩,
       ⟨some 6, .val (.t 16), none⟩] [])
      (.ret))
     (.skip))))
  (.seq (.seq (.ops 4 false [
     ⟨some 17, .val (.t 0), none⟩,
     ⟨some 18, .val (.t 1), none⟩,
     ⟨some 19, .call 76 [(.t 17), (.t 18)], none⟩,
     ⟨some 8, .val (.t 19), none⟩] [])
    (.seq (.ops 5 false [
      ⟨some 20, .val (.t 8), none⟩,
      ⟨some 21, .bin .neq (.t 20) (.c (.int .i64 0)), none⟩] [])
     (.cond (.t 21) (.seq (.ops 6 false [
        ⟨some 22, .val (.t 8), none⟩,
        ⟨some 6, .val (.t 22), none⟩] [])
       (.ret))
      (.skip))))
   (.seq (.ops 7 false [
     ⟨some 24, .val (.t 0), none⟩,
     ⟨some 25, .nilCheck (.t 24), none⟩,
     ⟨some 26, .fieldA 2 (.t 25), none⟩,
     ⟨some 27, .load (.t 26), none⟩,
     ⟨some 28, .val (.t 1), none⟩,
     ⟨some 29, .look 135 (.t 27) (.t 28) true, none⟩,
     ⟨some 23, .val (.t 29), none⟩,
     ⟨some 30, .extract 0 (.t 23), none⟩,
     ⟨some 31, .extract 1 (.t 23), none⟩,
     ⟨some 9, .val (.t 30), none⟩,
     ⟨some 10, .val (.t 31), none⟩] [])
    (.seq (.ops 8 false [
      ⟨some 32, .val (.t 0), none⟩,
      ⟨some 33, .val (.t 0), none⟩,
      ⟨some 34, .nilCheck (.t 33), none⟩,
      ⟨some 35, .fieldA 3 (.t 34), none⟩,
      ⟨some 36, .load (.t 35), none⟩,
      ⟨some 37, .val (.t 1), none⟩,
      ⟨some 38, .val (.t 9), none⟩,
      ⟨some 39, .val (.t 10), none⟩,
      ⟨some 40, .build [(.string ⟨#[]⟩), (.slice none 0 0), (.bool false)] [(0, 1, (.t 37)), (1, 1, (.t 38)), (2, 1, (.t 39))], none⟩,
      ⟨some 41, .buildS 148 1 [(.string ⟨#[]⟩), (.slice none 0 0), (.bool false)] [(0, 3, (.t 40))], none⟩,
      ⟨some 42, .blt .append #[136, 136] 136 [(.t 36), (.t 41)], none⟩,
      ⟨some 43, .nilCheck (.t 32), none⟩,
      ⟨some 44, .fieldA 3 (.t 43), none⟩,
      ⟨none, .store 1 (.t 44) (.t 42), none⟩] [])
     (.seq (.ops 9 true [
       ⟨some 45, .val (.t 0), none⟩,
       ⟨some 46, .nilCheck (.t 45), none⟩,
       ⟨some 47, .fieldA 2 (.t 46), none⟩,
       ⟨some 48, .load (.t 47), none⟩,
       ⟨some 49, .val (.t 1), none⟩,
       ⟨some 50, .val (.t 2), none⟩,
       ⟨some 51, .call 77 [(.t 50)], none⟩,
       ⟨none, .upd 135 (.t 48) (.t 49) (.t 51), none⟩] [([], []), ([0], [0]), ([1], [1]), ([2], [2]), ([], []), ([], []), ([5], [5]), ([3, 4, 6, 6, 0, 1, 2, 3, 4, 5, 6], [3, 4, 6])])
      (.seq (.ops 10 false [
        ⟨some 6, .val (.c (.int .i64 0)), none⟩] [])
       (.ret)))))))
def rs35 : List RR := [.tmp 6]
theorem fun35 : FunR Tryd.prog 35 rc35 rs35 52 := ⟨Tryd.f35, Tryd.func35, by kernel_rfl, by kernel_rfl, by kernel_rfl⟩
/-- causeway/causewayref07.May -/
def rc36 : RC :=
 .seq (.ops 0 false [
  ⟨some 4, .val (.c (.int .i64 0)), none⟩] [])
 (.seq (.seq (.ops 1 false [
    ⟨some 5, .val (.t 0), none⟩,
    ⟨some 6, .lenT (.t 5), none⟩,
    ⟨some 7, .bin .lss (.t 6) (.c (.int .i64 1)), none⟩,
    ⟨some 8, .val (.t 7), none⟩,
    ⟨some 9, .val (.t 0), some (8, false)⟩,
    ⟨some 10, .lenT (.t 9), some (8, false)⟩,
    ⟨some 11, .bin .gtr (.t 10) (.c (.int .i64 128)), some (8, false)⟩,
    ⟨some 12, .pick (.t 8) (.c (.bool true)) (.t 11), none⟩] [])
   (.cond (.t 12) (.seq (.ops 2 false [
      ⟨some 4, .val (.c (.int .i64 70)), none⟩] [])
     (.ret))
    (.skip)))
  (.seq (.seq (.ops 3 false [
     ⟨some 13, .val (.t 1), none⟩,
     ⟨some 14, .len (.t 13), none⟩,
     ⟨some 15, .bin .gtr (.t 14) (.c (.int .i64 4096)), none⟩] [])
    (.cond (.t 15) (.seq (.ops 4 false [
       ⟨some 4, .val (.c (.int .i64 71)), none⟩] [])
      (.ret))
     (.skip)))
   (.seq (.ops 5 false [
     ⟨some 4, .val (.c (.int .i64 0)), none⟩] [])
    (.ret))))
def rs36 : List RR := [.tmp 4]
theorem fun36 : FunR Tryd.prog 36 rc36 rs36 16 := ⟨Tryd.f36, Tryd.func36, by kernel_rfl, by kernel_rfl, by kernel_rfl⟩
/-- (*causeway/store.Table).Len -/
def rc37 : RC :=
 .seq (.ops 0 false [
  ⟨some 2, .val (.c (.int .i64 0)), none⟩] [])
 (.seq (.ops 1 false [
   ⟨some 3, .val (.t 0), none⟩,
   ⟨some 4, .nilCheck (.t 3), none⟩,
   ⟨some 5, .fieldA 0 (.t 4), none⟩,
   ⟨some 6, .load (.t 5), none⟩,
   ⟨some 7, .blt .len #[135] 3 [(.t 6)], none⟩,
   ⟨some 2, .val (.t 7), none⟩] [])
  (.ret))
def rs37 : List RR := [.tmp 2]
theorem fun37 : FunR Tryd.prog 37 rc37 rs37 8 := ⟨Tryd.f37, Tryd.func37, by kernel_rfl, by kernel_rfl, by kernel_rfl⟩
/-- (*causeway/store.Table).Put -/
def rc72 : RC :=
 .seq (.ops 0 false [
  ⟨some 6, .val (.c (.int .i64 0)), none⟩] [])
 (.seq (.seq (.ops 1 false [
    ⟨some 8, .val (.t 1), none⟩,
    ⟨some 9, .val (.t 2), none⟩,
    ⟨some 10, .call 75 [(.t 8), (.t 9)], none⟩,
    ⟨some 7, .val (.t 10), none⟩] [])
   (.seq (.ops 2 false [
     ⟨some 11, .val (.t 7), none⟩,
     ⟨some 12, .bin .neq (.t 11) (.c (.int .i64 0)), none⟩] [])
    (.cond (.t 12) (.seq (.ops 3 false [
       ⟨some 13, .val (.t 7), none⟩,
       ⟨some 6, .val (.t 13), none⟩] [])
      (.ret))
     (.skip))))
  (.seq (.ops 4 false [
    ⟨some 14, .val (.t 0), none⟩,
    ⟨some 15, .val (.t 1), none⟩,
    ⟨some 16, .val (.t 2), none⟩,
    ⟨some 17, .call 114 [(.t 14), (.t 15), (.t 16)], none⟩] [])
   (.seq (.ops 5 false [
     ⟨some 6, .val (.c (.int .i64 0)), none⟩] [])
    (.ret))))
def rs72 : List RR := [.tmp 6]
theorem fun72 : FunR Tryd.prog 72 rc72 rs72 18 := ⟨Tryd.f72, Tryd.func72, by kernel_rfl, by kernel_rfl, by kernel_rfl⟩
/-- (*causeway/store.State).Get -/
def rc73 : RC :=
 .seq (.ops 0 false [
  ⟨some 4, .val (.c (.slice none 0 0)), none⟩,
  ⟨some 5, .val (.c (.int .i64 0)), none⟩] [])
 (.seq (.seq (.ops 1 false [
    ⟨some 8, .val (.t 1), none⟩,
    ⟨some 9, .call 75 [(.t 8), (.c (.slice none 0 0))], none⟩,
    ⟨some 6, .val (.t 9), none⟩] [])
   (.seq (.ops 2 false [
     ⟨some 10, .val (.t 6), none⟩,
     ⟨some 11, .bin .neq (.t 10) (.c (.int .i64 0)), none⟩] [])
    (.cond (.t 11) (.seq (.ops 3 false [
       ⟨some 12, .val (.t 6), none⟩,
       ⟨some 4, .val (.c (.slice none 0 0)), none⟩,
       ⟨some 5, .val (.t 12), none⟩] [])
      (.ret))
     (.skip))))
  (.seq (.seq (.ops 4 false [
     ⟨some 13, .val (.t 0), none⟩,
     ⟨some 14, .val (.t 1), none⟩,
     ⟨some 15, .call 76 [(.t 13), (.t 14)], none⟩,
     ⟨some 7, .val (.t 15), none⟩] [])
    (.seq (.ops 5 false [
      ⟨some 16, .val (.t 7), none⟩,
      ⟨some 17, .bin .neq (.t 16) (.c (.int .i64 0)), none⟩] [])
     (.cond (.t 17) (.seq (.ops 6 false [
        ⟨some 18, .val (.t 7), none⟩,
        ⟨some 4, .val (.c (.slice none 0 0)), none⟩,
        ⟨some 5, .val (.t 18), none⟩] [])
       (.ret))
      (.skip))))
   (.seq (.ops 7 false [
     ⟨some 19, .val (.t 0), none⟩,
     ⟨some 20, .val (.t 1), none⟩,
     ⟨some 21, .call 115 [(.t 19), (.t 20)], none⟩,
     ⟨some 22, .call 77 [(.t 21)], none⟩,
     ⟨some 4, .val (.t 22), none⟩,
     ⟨some 5, .val (.c (.int .i64 0)), none⟩] [])
    (.ret))))
def rs73 : List RR := [.tmp 4, .tmp 5]
theorem fun73 : FunR Tryd.prog 73 rc73 rs73 23 := ⟨Tryd.f73, Tryd.func73, by kernel_rfl, by kernel_rfl, by kernel_rfl⟩
/-- causeway/sparse.New -/
def rc74 : RC :=
 .seq (.ops 0 false [
  ⟨some 0, .val (.c (.pointer none)), none⟩] [])
 (.seq (.ops 1 false [
   ⟨some 1, .build [(.pointer none), (.int .i64 0)] [], none⟩,
   ⟨some 2, .box 182 (.t 1), none⟩,
   ⟨some 0, .val (.t 2), none⟩] [])
  (.ret))
def rs74 : List RR := [.tmp 0]
theorem fun74 : FunR Tryd.prog 74 rc74 rs74 3 := ⟨Tryd.f74, Tryd.func74, by kernel_rfl, by kernel_rfl, by kernel_rfl⟩
/-- causeway/store.may -/
def rc75 : RC :=
 .seq (.ops 0 false [
  ⟨some 4, .val (.c (.int .i64 0)), none⟩] [])
 (.seq (.block 0 (.seq (.ops 1 false [
     ⟨some 6, .val (.t 0), none⟩,
     ⟨some 7, .eqp .str false (.t 6) (.c (.string ⟨#[]⟩)), none⟩,
     ⟨some 8, .val (.t 7), none⟩,
     ⟨some 9, .val (.t 0), some (8, false)⟩,
     ⟨some 10, .lenT (.t 9), some (8, false)⟩,
     ⟨some 11, .bin .gtr (.t 10) (.c (.int .i64 128)), some (8, false)⟩,
     ⟨some 12, .pick (.t 8) (.c (.bool true)) (.t 11), none⟩,
     ⟨some 5, .val (.t 12), none⟩] [])
    (.cond (.t 5) (.seq (.ops 2 false [
       ⟨some 4, .val (.c (.int .i64 70)), none⟩] [])
      (.ret))
     (.seq (.ops 3 false [
       ⟨some 14, .val (.t 1), none⟩,
       ⟨some 15, .len (.t 14), none⟩,
       ⟨some 16, .bin .gtr (.t 15) (.c (.int .i64 4096)), none⟩,
       ⟨some 13, .val (.t 16), none⟩] [])
      (.cond (.t 13) (.seq (.ops 4 false [
         ⟨some 4, .val (.c (.int .i64 71)), none⟩] [])
        (.ret))
       (.skip))))))
  (.seq (.ops 5 false [
    ⟨some 4, .val (.c (.int .i64 0)), none⟩] [])
   (.ret)))
def rs75 : List RR := [.tmp 4]
theorem fun75 : FunR Tryd.prog 75 rc75 rs75 17 := ⟨Tryd.f75, Tryd.func75, by kernel_rfl, by kernel_rfl, by kernel_rfl⟩
/-- (*causeway/store.State).ask -/
def rc76 : RC :=
 .seq (.ops 0 false [
  ⟨some 4, .val (.c (.int .i64 0)), none⟩] [])
 (.seq (.seq (.ops 1 false [
    ⟨some 10, .val (.t 0), none⟩,
    ⟨some 11, .nilCheck (.t 10), none⟩,
    ⟨some 12, .fieldA 1 (.t 11), none⟩,
    ⟨some 13, .load (.t 12), none⟩,
    ⟨some 14, .val (.t 1), none⟩,
    ⟨some 15, .look 135 (.t 13) (.t 14) true, none⟩,
    ⟨some 9, .val (.t 15), none⟩,
    ⟨some 16, .extract 0 (.t 9), none⟩,
    ⟨some 17, .extract 1 (.t 9), none⟩,
    ⟨some 5, .val (.t 16), none⟩,
    ⟨some 6, .val (.t 17), none⟩] [])
   (.seq (.ops 2 false [
     ⟨some 18, .val (.t 6), none⟩] [])
    (.cond (.t 18) (.seq (.ops 3 false [
       ⟨some 4, .val (.c (.int .i64 0)), none⟩] [])
      (.ret))
     (.skip))))
  (.seq (.ops 4 false [
    ⟨some 20, .val (.t 0), none⟩,
    ⟨some 21, .nilCheck (.t 20), none⟩,
    ⟨some 22, .fieldA 0 (.t 21), none⟩,
    ⟨some 23, .load (.t 22), none⟩,
    ⟨some 24, .val (.t 1), none⟩,
    ⟨some 25, .inv (.t 23) "Find" [(.t 24)], none⟩,
    ⟨some 19, .val (.t 25), none⟩,
    ⟨some 26, .extract 0 (.t 19), none⟩,
    ⟨some 27, .extract 1 (.t 19), none⟩,
    ⟨some 7, .val (.t 26), none⟩,
    ⟨some 8, .val (.t 27), none⟩] [])
   (.seq (.seq (.ops 5 false [
      ⟨some 28, .val (.t 8), none⟩,
      ⟨some 29, .bin .neq (.t 28) (.c (.int .i64 0)), none⟩] [])
     (.cond (.t 29) (.seq (.ops 6 false [
        ⟨some 30, .val (.t 8), none⟩,
        ⟨some 4, .val (.t 30), none⟩] [])
       (.ret))
      (.skip)))
    (.seq (.seq (.ops 7 false [
       ⟨some 31, .val (.t 7), none⟩,
       ⟨some 32, .len (.t 31), none⟩,
       ⟨some 33, .bin .gtr (.t 32) (.c (.int .i64 4096)), none⟩] [])
      (.cond (.t 33) (.seq (.ops 8 false [
         ⟨some 4, .val (.c (.int .i64 71)), none⟩] [])
        (.ret))
       (.skip)))
     (.seq (.ops 9 true [
       ⟨some 34, .val (.t 0), none⟩,
       ⟨some 35, .nilCheck (.t 34), none⟩,
       ⟨some 36, .fieldA 1 (.t 35), none⟩,
       ⟨some 37, .load (.t 36), none⟩,
       ⟨some 38, .val (.t 1), none⟩,
       ⟨some 39, .val (.t 7), none⟩,
       ⟨some 40, .call 77 [(.t 39)], none⟩,
       ⟨none, .upd 135 (.t 37) (.t 38) (.t 40), none⟩] [([], []), ([0], [0]), ([1], [1]), ([2], [2]), ([], []), ([], []), ([5], [5]), ([3, 4, 6, 6, 0, 1, 2, 3, 4, 5, 6], [3, 4, 6])])
      (.seq (.ops 10 false [
        ⟨some 4, .val (.c (.int .i64 0)), none⟩] [])
       (.ret)))))))
def rs76 : List RR := [.tmp 4]
theorem fun76 : FunR Tryd.prog 76 rc76 rs76 41 := ⟨Tryd.f76, Tryd.func76, by kernel_rfl, by kernel_rfl, by kernel_rfl⟩
/-- slices.Clone[[]byte,byte] -/
def rc77 : RC :=
 .seq (.ops 0 false [
  ⟨some 2, .val (.c (.slice none 0 0)), none⟩] [])
 (.seq (.seq (.ops 1 false [
    ⟨some 3, .val (.t 0), none⟩,
    ⟨some 4, .eqp .slc false (.t 3) (.c (.slice none 0 0)), none⟩] [])
   (.cond (.t 4) (.seq (.ops 2 false [
      ⟨some 2, .val (.c (.slice none 0 0)), none⟩] [])
     (.ret))
    (.skip)))
  (.seq (.ops 3 false [
    ⟨some 5, .buildS 5 0 [] [], none⟩,
    ⟨some 6, .val (.t 0), none⟩,
    ⟨some 7, .blt .append #[79, 79] 79 [(.t 5), (.t 6)], none⟩,
    ⟨some 2, .val (.t 7), none⟩] [])
   (.ret)))
def rs77 : List RR := [.tmp 2]
theorem fun77 : FunR Tryd.prog 77 rc77 rs77 8 := ⟨Tryd.f77, Tryd.func77, by kernel_rfl, by kernel_rfl, by kernel_rfl⟩
/-- causeway/causewaylaw09.fresh -/
def rc84 : RC :=
 .seq (.ops 0 false [
  ⟨some 2, .val (.c (.pointer none)), none⟩] [])
 (.seq (.ops 1 false [
   ⟨some 8, .call 34 [], none⟩,
   ⟨some 3, .val (.t 8), none⟩] [])
  (.seq (.seq (.ops 2 false [
     ⟨some 9, .val (.t 3), none⟩,
     ⟨some 10, .eqp .ptr false (.t 9) (.c (.pointer none)), none⟩] [])
    (.cond (.t 10) (.seq (.ops 3 false [
       ⟨some 2, .val (.c (.pointer none)), none⟩] [])
      (.ret))
     (.skip)))
   (.seq (.seq (.ops 4 false [
      ⟨some 4, .val (.c (.int .i64 0)), none⟩] [])
     (.block 0 (.loop (.seq (.seq (.ops 5 false [
          ⟨some 11, .val (.t 4), none⟩,
          ⟨some 12, .val (.t 0), none⟩,
          ⟨some 13, .len (.t 12), none⟩,
          ⟨some 14, .bin .lss (.t 11) (.t 13), none⟩] [])
         (.cond (.t 14) (.skip)
          (.exit 0)))
        (.seq (.block 1 (.seq (.ops 7 true [
            ⟨some 17, .val (.t 3), none⟩,
            ⟨some 18, .val (.t 0), none⟩,
            ⟨some 19, .val (.t 4), none⟩,
            ⟨some 20, .indexS 2 (.t 18) (.t 19), none⟩,
            ⟨some 21, .fieldA 0 (.t 20), none⟩,
            ⟨some 22, .load (.t 21), none⟩,
            ⟨some 23, .val (.t 0), none⟩,
            ⟨some 24, .val (.t 4), none⟩,
            ⟨some 25, .indexS 2 (.t 23) (.t 24), none⟩,
            ⟨some 26, .fieldA 1 (.t 25), none⟩,
            ⟨some 27, .load (.t 26), none⟩,
            ⟨some 28, .call 72 [(.t 17), (.t 22), (.t 27)], none⟩,
            ⟨some 5, .val (.t 28), none⟩] [([], []), ([], []), ([], []), ([1, 2], [1, 2]), ([3], [3]), ([4], [4]), ([], []), ([], []), ([6, 7], [6, 7]), ([8], [8]), ([9], [9]), ([0, 5, 10], [0, 5, 10]), ([11, 11, 0, 1, 2, 3, 4, 5, 6, 7, 8, 9, 10, 11], [11])])
           (.seq (.ops 8 false [
             ⟨some 29, .val (.t 5), none⟩,
             ⟨some 30, .bin .neq (.t 29) (.c (.int .i64 0)), none⟩] [])
            (.cond (.t 30) (.seq (.ops 9 false [
               ⟨some 2, .val (.c (.pointer none)), none⟩] [])
              (.ret))
             (.skip)))))
         (.ops 6 false [
          ⟨some 15, .val (.t 4), none⟩,
          ⟨some 16, .bin .add (.t 15) (.c (.int .i64 1)), none⟩,
          ⟨some 4, .val (.t 16), none⟩] []))))))
    (.seq (.ops 10 false [
      ⟨some 32, .val (.t 3), none⟩,
      ⟨some 33, .iface 86 (.t 32), none⟩,
      ⟨some 34, .call 33 [(.t 33)], none⟩,
      ⟨some 31, .val (.t 34), none⟩,
      ⟨some 35, .extract 0 (.t 31), none⟩,
      ⟨some 36, .extract 1 (.t 31), none⟩,
      ⟨some 6, .val (.t 35), none⟩,
      ⟨some 7, .val (.t 36), none⟩] [])
     (.seq (.seq (.ops 11 false [
        ⟨some 37, .val (.t 7), none⟩,
        ⟨some 38, .bin .neq (.t 37) (.c (.int .i64 0)), none⟩] [])
       (.cond (.t 38) (.seq (.ops 12 false [
          ⟨some 2, .val (.c (.pointer none)), none⟩] [])
         (.ret))
        (.skip)))
      (.seq (.ops 13 false [
        ⟨some 39, .val (.t 6), none⟩,
        ⟨some 2, .val (.t 39), none⟩] [])
       (.ret)))))))
def rs84 : List RR := [.tmp 2]
theorem fun84 : FunR Tryd.prog 84 rc84 rs84 40 := ⟨Tryd.f84, Tryd.func84, by kernel_rfl, by kernel_rfl, by kernel_rfl⟩
/-- causeway/wire.NewWriter -/
def rc92 : RC :=
 .seq (.ops 0 false [
  ⟨some 0, .val (.c (.pointer none)), none⟩] [])
 (.seq (.ops 1 false [
   ⟨some 1, .build [(.slice none 0 0), (.int .i64 0)] [], none⟩,
   ⟨some 2, .box 209 (.t 1), none⟩,
   ⟨some 0, .val (.t 2), none⟩] [])
  (.ret))
def rs92 : List RR := [.tmp 0]
theorem fun92 : FunR Tryd.prog 92 rc92 rs92 3 := ⟨Tryd.f92, Tryd.func92, by kernel_rfl, by kernel_rfl, by kernel_rfl⟩
/-- (*causeway/wire.Writer).Byte -/
def rc93 : RC :=
 .ops 0 false [
 ⟨some 4, .val (.t 0), none⟩,
 ⟨some 5, .val (.t 1), none⟩,
 ⟨some 6, .buildS 5 1 [(.int .u8 0)] [(0, 1, (.t 5))], none⟩,
 ⟨some 7, .buildS 79 1 [(.slice none 0 0)] [(0, 1, (.t 6))], none⟩,
 ⟨some 8, .call 131 [(.t 4), (.t 7)], none⟩] []
def rs93 : List RR := []
theorem fun93 : FunR Tryd.prog 93 rc93 rs93 9 := ⟨Tryd.f93, Tryd.func93, by kernel_rfl, by kernel_rfl, by kernel_rfl⟩
/-- (*causeway/wire.Writer).Number -/
def rc94 : RC :=
 .seq (.seq (.ops 0 false [
   ⟨some 4, .val (.t 1), none⟩,
   ⟨some 5, .bin .lss (.t 4) (.c (.int .i64 0)), none⟩] [])
  (.cond (.t 5) (.seq (.seq (.ops 1 false [
      ⟨some 6, .val (.t 0), none⟩,
      ⟨some 7, .nilCheck (.t 6), none⟩,
      ⟨some 8, .fieldA 1 (.t 7), none⟩,
      ⟨some 9, .load (.t 8), none⟩,
      ⟨some 10, .bin .eql (.t 9) (.c (.int .i64 0)), none⟩] [])
     (.cond (.t 10) (.ops 2 false [
       ⟨some 11, .val (.t 0), none⟩,
       ⟨some 12, .nilCheck (.t 11), none⟩,
       ⟨some 13, .fieldA 1 (.t 12), none⟩,
       ⟨none, .store 1 (.t 13) (.c (.int .i64 32)), none⟩] [])
      (.skip)))
    (.ret))
   (.skip)))
 (.ops 3 false [
  ⟨some 14, .val (.t 0), none⟩,
  ⟨some 15, .val (.t 1), none⟩,
  ⟨some 16, .call 132 [(.t 15)], none⟩,
  ⟨some 17, .buildS 79 1 [(.slice none 0 0)] [(0, 1, (.t 16))], none⟩,
  ⟨some 18, .call 131 [(.t 14), (.t 17)], none⟩] [])
def rs94 : List RR := []
theorem fun94 : FunR Tryd.prog 94 rc94 rs94 19 := ⟨Tryd.f94, Tryd.func94, by kernel_rfl, by kernel_rfl, by kernel_rfl⟩
/-- (*causeway/wire.Writer).Address -/
def rc95 : RC :=
 .seq (.ops 0 false [
  ⟨some 3, .box 27 (.t 1), none⟩] [])
 (.ops 1 false [
  ⟨some 4, .val (.t 0), none⟩,
  ⟨some 5, .sliceA 20 1 (.t 3) none none, none⟩,
  ⟨some 6, .buildS 79 1 [(.slice none 0 0)] [(0, 1, (.t 5))], none⟩,
  ⟨some 7, .call 131 [(.t 4), (.t 6)], none⟩] [])
def rs95 : List RR := []
theorem fun95 : FunR Tryd.prog 95 rc95 rs95 8 := ⟨Tryd.f95, Tryd.func95, by kernel_rfl, by kernel_rfl, by kernel_rfl⟩
/-- (*causeway/wire.Writer).Wide -/
def rc96 : RC :=
 .seq (.ops 0 false [
  ⟨some 3, .box 30 (.t 1), none⟩] [])
 (.seq (.ops 1 false [
   ⟨some 4, .alloc 24 (List.replicate 32 (.int .u8 0)), none⟩] [])
  (.seq (.seq (.ops 2 false [
     ⟨some 6, .val (.c (.int .i64 0)), none⟩] [])
    (.block 0 (.loop (.seq (.ops 3 false [
        ⟨some 7, .bin .lss (.t 6) (.c (.int .i64 32)), none⟩] [])
       (.seq (.cond (.t 7) (.skip)
         (.exit 0))
        (.seq (.block 1 (.seq (.ops 4 false [
            ⟨some 8, .val (.t 6), none⟩,
            ⟨some 5, .val (.t 8), none⟩] [])
           (.ops 5 false [
            ⟨some 9, .val (.t 5), none⟩,
            ⟨some 10, .val (.t 5), none⟩,
            ⟨some 11, .bin .quo (.t 10) (.c (.int .i64 8)), none⟩,
            ⟨some 12, .bin .sub (.c (.int .i64 3)) (.t 11), none⟩,
            ⟨some 13, .indexA 4 1 (.t 3) (.t 12), none⟩,
            ⟨some 14, .load (.t 13), none⟩,
            ⟨some 15, .val (.t 5), none⟩,
            ⟨some 16, .bin .rem (.t 15) (.c (.int .i64 8)), none⟩,
            ⟨some 17, .bin .mul (.c (.int .i64 8)) (.t 16), none⟩,
            ⟨some 18, .bin .sub (.c (.int .i64 56)) (.t 17), none⟩,
            ⟨some 19, .bin .shr (.t 14) (.t 18), none⟩,
            ⟨some 20, .conv .u8 (.t 19), none⟩,
            ⟨some 21, .indexA 32 1 (.t 4) (.t 9), none⟩,
            ⟨none, .store 1 (.t 21) (.t 20), none⟩] [])))
         (.ops 6 false [
          ⟨some 22, .bin .add (.t 6) (.c (.int .i64 1)), none⟩,
          ⟨some 6, .val (.t 22), none⟩] [])))))))
   (.ops 7 false [
    ⟨some 23, .val (.t 0), none⟩,
    ⟨some 24, .sliceA 32 1 (.t 4) none none, none⟩,
    ⟨some 25, .call 133 [(.t 24)], none⟩,
    ⟨some 26, .buildS 79 1 [(.slice none 0 0)] [(0, 1, (.t 25))], none⟩,
    ⟨some 27, .call 131 [(.t 23), (.t 26)], none⟩] [])))
def rs96 : List RR := []
theorem fun96 : FunR Tryd.prog 96 rc96 rs96 28 := ⟨Tryd.f96, Tryd.func96, by kernel_rfl, by kernel_rfl, by kernel_rfl⟩
/-- (*causeway/wire.Writer).Done -/
def rc97 : RC :=
 .seq (.ops 0 false [
  ⟨some 2, .val (.c (.slice none 0 0)), none⟩,
  ⟨some 3, .val (.c (.int .i64 0)), none⟩] [])
 (.seq (.seq (.ops 1 false [
    ⟨some 4, .val (.t 0), none⟩,
    ⟨some 5, .nilCheck (.t 4), none⟩,
    ⟨some 6, .fieldA 1 (.t 5), none⟩,
    ⟨some 7, .load (.t 6), none⟩,
    ⟨some 8, .bin .neq (.t 7) (.c (.int .i64 0)), none⟩] [])
   (.cond (.t 8) (.seq (.ops 2 true [
      ⟨some 9, .val (.t 0), none⟩,
      ⟨some 10, .nilCheck (.t 9), none⟩,
      ⟨some 11, .fieldA 1 (.t 10), none⟩,
      ⟨some 12, .load (.t 11), none⟩,
      ⟨some 2, .val (.c (.slice none 0 0)), none⟩,
      ⟨some 3, .val (.t 12), none⟩] [([], []), ([0], [0]), ([1], [1]), ([2], [2]), ([], []), ([3, 4, 0, 1, 2, 3, 4], [3])])
     (.ret))
    (.skip)))
  (.seq (.ops 3 false [
    ⟨some 13, .val (.t 0), none⟩,
    ⟨some 14, .nilCheck (.t 13), none⟩,
    ⟨some 15, .fieldA 0 (.t 14), none⟩,
    ⟨some 16, .load (.t 15), none⟩,
    ⟨some 17, .call 77 [(.t 16)], none⟩,
    ⟨some 2, .val (.t 17), none⟩,
    ⟨some 3, .val (.c (.int .i64 0)), none⟩] [])
   (.ret)))
def rs97 : List RR := [.tmp 2, .tmp 3]
theorem fun97 : FunR Tryd.prog 97 rc97 rs97 18 := ⟨Tryd.f97, Tryd.func97, by kernel_rfl, by kernel_rfl, by kernel_rfl⟩
/-- (*causeway/store.Table).lay -/
def rc114 : RC :=
 .seq (.ops 0 false [
  ⟨some 10, .val (.t 1), none⟩,
  ⟨some 11, .cvt 9 79 (.t 10), none⟩,
  ⟨some 12, .call 137 [(.t 11)], none⟩,
  ⟨some 6, .alloc 25 (List.replicate 32 (.int .u8 0)), none⟩,
  ⟨none, .store 32 (.t 6) (.t 12), none⟩] [])
 (.seq (.ops 1 true [
   ⟨some 13, .val (.t 0), none⟩,
   ⟨some 14, .nilCheck (.t 13), none⟩,
   ⟨some 15, .fieldA 2 (.t 14), none⟩,
   ⟨some 16, .load (.t 15), none⟩,
   ⟨some 17, .loadN 32 (.t 6), none⟩,
   ⟨some 18, .look 142 (.t 16) (.t 17) false, none⟩,
   ⟨some 7, .val (.t 18), none⟩] [([], []), ([0], [0]), ([1], [1]), ([2], [2]), ([], []), ([3, 4], [3, 4]), ([5, 0, 1, 2, 3, 4, 5], [5])])
  (.seq (.ops 2 false [
    ⟨some 20, .val (.t 7), none⟩,
    ⟨some 21, .val (.t 1), none⟩,
    ⟨some 22, .call 143 [(.t 20), (.t 21)], none⟩,
    ⟨some 19, .val (.t 22), none⟩,
    ⟨some 23, .extract 0 (.t 19), none⟩,
    ⟨some 24, .extract 1 (.t 19), none⟩,
    ⟨some 8, .val (.t 23), none⟩,
    ⟨some 9, .val (.t 24), none⟩] [])
   (.seq (.seq (.ops 3 false [
      ⟨some 25, .val (.t 2), none⟩,
      ⟨some 26, .len (.t 25), none⟩,
      ⟨some 27, .bin .gtr (.t 26) (.c (.int .i64 0)), none⟩] [])
     (.cond (.t 27) (.seq (.ops 4 true [
        ⟨some 28, .val (.t 0), none⟩,
        ⟨some 29, .nilCheck (.t 28), none⟩,
        ⟨some 30, .fieldA 0 (.t 29), none⟩,
        ⟨some 31, .load (.t 30), none⟩,
        ⟨some 32, .val (.t 1), none⟩,
        ⟨some 33, .val (.t 2), none⟩,
        ⟨some 34, .call 77 [(.t 33)], none⟩,
        ⟨none, .upd 135 (.t 31) (.t 32) (.t 34), none⟩] [([], []), ([0], [0]), ([1], [1]), ([2], [2]), ([], []), ([], []), ([5], [5]), ([3, 4, 6, 6, 0, 1, 2, 3, 4, 5, 6], [3, 4, 6])])
       (.seq (.ops 5 false [
         ⟨some 35, .val (.t 9), none⟩,
         ⟨some 36, .not (.t 35), none⟩] [])
        (.cond (.t 36) (.ops 6 false [
          ⟨some 37, .val (.t 7), none⟩,
          ⟨some 38, .call 145 [(.t 37)], none⟩,
          ⟨some 39, .val (.t 8), none⟩,
          ⟨some 40, .val (.t 1), none⟩,
          ⟨some 41, .buildS 9 1 [(.string ⟨#[]⟩)] [(0, 1, (.t 40))], none⟩,
          ⟨some 42, .call 144 [(.t 38), (.t 39), (.t 41)], none⟩,
          ⟨some 7, .val (.t 42), none⟩] [])
         (.skip))))
      (.seq (.ops 7 false [
        ⟨some 43, .val (.t 9), none⟩] [])
       (.cond (.t 43) (.seq (.ops 8 false [
          ⟨some 44, .val (.t 0), none⟩,
          ⟨some 45, .nilCheck (.t 44), none⟩,
          ⟨some 46, .fieldA 0 (.t 45), none⟩,
          ⟨some 47, .load (.t 46), none⟩,
          ⟨some 48, .val (.t 1), none⟩,
          ⟨none, .blt .delete #[135, 9] 0 [(.t 47), (.t 48)], none⟩] [])
         (.ops 9 false [
          ⟨some 49, .val (.t 7), none⟩,
          ⟨some 50, .call 145 [(.t 49)], none⟩,
          ⟨some 51, .val (.t 8), none⟩,
          ⟨some 52, .val (.t 8), none⟩,
          ⟨some 53, .bin .add (.t 52) (.c (.int .i64 1)), none⟩,
          ⟨some 54, .call 146 [(.t 50), (.t 51), (.t 53)], none⟩,
          ⟨some 7, .val (.t 54), none⟩] []))
        (.skip)))))
    (.seq (.seq (.ops 10 false [
       ⟨some 55, .val (.t 7), none⟩,
       ⟨some 56, .len (.t 55), none⟩,
       ⟨some 57, .bin .eql (.t 56) (.c (.int .i64 0)), none⟩] [])
      (.cond (.t 57) (.seq (.ops 11 true [
         ⟨some 58, .val (.t 0), none⟩,
         ⟨some 59, .nilCheck (.t 58), none⟩,
         ⟨some 60, .fieldA 2 (.t 59), none⟩,
         ⟨some 61, .load (.t 60), none⟩,
         ⟨some 62, .loadN 32 (.t 6), none⟩,
         ⟨none, .blt .delete #[142, 25] 0 [(.t 61), (.t 62)], none⟩] [([], []), ([0], [0]), ([1], [1]), ([2], [2]), ([], []), ([3, 4], [3, 4])])
        (.seq (.ops 12 true [
          ⟨some 63, .val (.t 0), none⟩,
          ⟨some 64, .nilCheck (.t 63), none⟩,
          ⟨some 65, .fieldA 1 (.t 64), none⟩,
          ⟨some 66, .load (.t 65), none⟩,
          ⟨some 67, .loadN 32 (.t 6), none⟩,
          ⟨some 68, .build (List.replicate 32 (.int .u8 0)) [], none⟩,
          ⟨some 69, .call 147 [(.t 66), (.t 67), (.t 68)], none⟩] [([], []), ([0], [0]), ([1], [1]), ([2], [2]), ([], []), ([], []), ([3, 4, 5], [3, 4, 5])])
         (.ret)))
       (.skip)))
     (.seq (.ops 13 true [
       ⟨some 70, .val (.t 0), none⟩,
       ⟨some 71, .nilCheck (.t 70), none⟩,
       ⟨some 72, .fieldA 2 (.t 71), none⟩,
       ⟨some 73, .load (.t 72), none⟩,
       ⟨some 74, .loadN 32 (.t 6), none⟩,
       ⟨some 75, .val (.t 7), none⟩,
       ⟨none, .upd 142 (.t 73) (.t 74) (.t 75), none⟩] [([], []), ([0], [0]), ([1], [1]), ([2], [2]), ([], []), ([], []), ([3, 4, 5, 0, 1, 2, 3, 4, 5], [3, 4, 5])])
      (.ops 14 true [
       ⟨some 76, .val (.t 0), none⟩,
       ⟨some 77, .nilCheck (.t 76), none⟩,
       ⟨some 78, .fieldA 1 (.t 77), none⟩,
       ⟨some 79, .load (.t 78), none⟩,
       ⟨some 80, .loadN 32 (.t 6), none⟩,
       ⟨some 81, .val (.t 0), none⟩,
       ⟨some 82, .nilCheck (.t 81), none⟩,
       ⟨some 83, .fieldA 0 (.t 82), none⟩,
       ⟨some 84, .load (.t 83), none⟩,
       ⟨some 85, .val (.t 7), none⟩,
       ⟨some 86, .val (.t 7), none⟩,
       ⟨some 87, .len (.t 86), none⟩,
       ⟨some 88, .bin .sub (.t 87) (.c (.int .i64 1)), none⟩,
       ⟨some 89, .indexS 1 (.t 85) (.t 88), none⟩,
       ⟨some 90, .load (.t 89), none⟩,
       ⟨some 91, .look 135 (.t 84) (.t 90) false, none⟩,
       ⟨some 92, .call 137 [(.t 91)], none⟩,
       ⟨some 93, .call 147 [(.t 79), (.t 80), (.t 92)], none⟩] [([], []), ([0], [0]), ([1], [1]), ([2], [2]), ([], []), ([], []), ([5], [5]), ([6], [6]), ([7], [7]), ([], []), ([], []), ([10], [10]), ([11], [11]), ([9, 12], [9, 12]), ([13], [13]), ([8, 14], [8, 14]), ([15], [15]), ([3, 4, 16, 16], [3, 4, 16])]))))))
def rs114 : List RR := []
theorem fun114 : FunR Tryd.prog 114 rc114 rs114 94 := ⟨Tryd.f114, Tryd.func114, by kernel_rfl, by kernel_rfl, by kernel_rfl⟩
/-- (*causeway/store.State).value -/
def rc115 : RC :=
 .seq (.ops 0 false [
  ⟨some 4, .val (.c (.slice none 0 0)), none⟩] [])
 (.seq (.seq (.ops 1 false [
    ⟨some 8, .val (.t 0), none⟩,
    ⟨some 9, .nilCheck (.t 8), none⟩,
    ⟨some 10, .fieldA 2 (.t 9), none⟩,
    ⟨some 11, .load (.t 10), none⟩,
    ⟨some 12, .val (.t 1), none⟩,
    ⟨some 13, .look 135 (.t 11) (.t 12) true, none⟩,
    ⟨some 7, .val (.t 13), none⟩,
    ⟨some 14, .extract 0 (.t 7), none⟩,
    ⟨some 15, .extract 1 (.t 7), none⟩,
    ⟨some 5, .val (.t 14), none⟩,
    ⟨some 6, .val (.t 15), none⟩] [])
   (.seq (.ops 2 false [
     ⟨some 16, .val (.t 6), none⟩] [])
    (.cond (.t 16) (.seq (.ops 3 false [
       ⟨some 17, .val (.t 5), none⟩,
       ⟨some 4, .val (.t 17), none⟩] [])
      (.ret))
     (.skip))))
  (.seq (.ops 4 false [
    ⟨some 18, .val (.t 0), none⟩,
    ⟨some 19, .nilCheck (.t 18), none⟩,
    ⟨some 20, .fieldA 1 (.t 19), none⟩,
    ⟨some 21, .load (.t 20), none⟩,
    ⟨some 22, .val (.t 1), none⟩,
    ⟨some 23, .look 135 (.t 21) (.t 22) false, none⟩,
    ⟨some 4, .val (.t 23), none⟩] [])
   (.ret)))
def rs115 : List RR := [.tmp 4]
theorem fun115 : FunR Tryd.prog 115 rc115 rs115 24 := ⟨Tryd.f115, Tryd.func115, by kernel_rfl, by kernel_rfl, by kernel_rfl⟩
/-- causeway/wide.IsZero -/
def rc117 : RC :=
 .seq (.ops 0 false [
  ⟨some 1, .box 30 (.t 0), none⟩,
  ⟨some 2, .val (.c (.bool false)), none⟩] [])
 (.seq (.ops 1 false [
   ⟨some 3, .loadN 4 (.t 1), none⟩,
   ⟨some 4, .build [(.int .u64 0), (.int .u64 0), (.int .u64 0), (.int .u64 0)] [], none⟩,
   ⟨some 5, .eqn false 30 (.t 3) (.t 4), none⟩,
   ⟨some 2, .val (.t 5), none⟩] [])
  (.ret))
def rs117 : List RR := [.tmp 2]
theorem fun117 : FunR Tryd.prog 117 rc117 rs117 6 := ⟨Tryd.f117, Tryd.func117, by kernel_rfl, by kernel_rfl, by kernel_rfl⟩
/-- (*causeway/wire.Writer).lay -/
def rc131 : RC :=
 .seq (.ops 0 false [
  ⟨some 9, .val (.t 0), none⟩,
  ⟨some 10, .nilCheck (.t 9), none⟩,
  ⟨some 11, .fieldA 0 (.t 10), none⟩,
  ⟨some 12, .load (.t 11), none⟩,
  ⟨some 13, .len (.t 12), none⟩,
  ⟨some 4, .val (.t 13), none⟩] [])
 (.seq (.seq (.ops 1 false [
    ⟨some 14, .val (.t 1), none⟩,
    ⟨some 15, .len (.t 14), none⟩,
    ⟨some 16, .val (.c (.int .i64 0)), none⟩] [])
   (.block 0 (.loop (.seq (.ops 2 false [
       ⟨some 17, .bin .lss (.t 16) (.t 15), none⟩] [])
      (.seq (.cond (.t 17) (.skip)
        (.exit 0))
       (.seq (.block 1 (.seq (.ops 3 false [
           ⟨some 18, .indexS 1 (.t 14) (.t 16), none⟩,
           ⟨some 19, .load (.t 18), none⟩,
           ⟨some 6, .val (.t 19), none⟩] [])
          (.ops 4 false [
           ⟨some 20, .val (.t 4), none⟩,
           ⟨some 21, .val (.t 6), none⟩,
           ⟨some 22, .len (.t 21), none⟩,
           ⟨some 23, .bin .add (.t 20) (.t 22), none⟩,
           ⟨some 4, .val (.t 23), none⟩] [])))
        (.ops 5 false [
         ⟨some 24, .bin .add (.t 16) (.c (.int .i64 1)), none⟩,
         ⟨some 16, .val (.t 24), none⟩] [])))))))
  (.block 2 (.seq (.ops 11 false [
     ⟨some 42, .val (.t 0), none⟩,
     ⟨some 43, .nilCheck (.t 42), none⟩,
     ⟨some 44, .fieldA 1 (.t 43), none⟩,
     ⟨some 45, .load (.t 44), none⟩,
     ⟨some 46, .bin .neq (.t 45) (.c (.int .i64 0)), none⟩,
     ⟨some 41, .val (.t 46), none⟩] [])
    (.cond (.t 41) (.skip)
     (.seq (.ops 12 false [
       ⟨some 48, .val (.t 4), none⟩,
       ⟨some 49, .bin .gtr (.t 48) (.c (.int .i64 4194304)), none⟩,
       ⟨some 47, .val (.t 49), none⟩] [])
      (.cond (.t 47) (.ops 13 false [
        ⟨some 50, .val (.t 0), none⟩,
        ⟨some 51, .nilCheck (.t 50), none⟩,
        ⟨some 52, .fieldA 1 (.t 51), none⟩,
        ⟨none, .store 1 (.t 52) (.c (.int .i64 30)), none⟩] [])
       (.seq (.ops 6 false [
         ⟨some 25, .val (.t 1), none⟩,
         ⟨some 26, .len (.t 25), none⟩,
         ⟨some 27, .val (.c (.int .i64 0)), none⟩] [])
        (.block 3 (.loop (.seq (.ops 7 false [
            ⟨some 28, .bin .lss (.t 27) (.t 26), none⟩] [])
           (.seq (.cond (.t 28) (.skip)
             (.exit 3))
            (.seq (.block 4 (.seq (.ops 8 false [
                ⟨some 29, .indexS 1 (.t 25) (.t 27), none⟩,
                ⟨some 30, .load (.t 29), none⟩,
                ⟨some 8, .val (.t 30), none⟩] [])
               (.ops 9 false [
                ⟨some 31, .val (.t 0), none⟩,
                ⟨some 32, .val (.t 0), none⟩,
                ⟨some 33, .nilCheck (.t 32), none⟩,
                ⟨some 34, .fieldA 0 (.t 33), none⟩,
                ⟨some 35, .load (.t 34), none⟩,
                ⟨some 36, .val (.t 8), none⟩,
                ⟨some 37, .blt .append #[79, 79] 79 [(.t 35), (.t 36)], none⟩,
                ⟨some 38, .nilCheck (.t 31), none⟩,
                ⟨some 39, .fieldA 0 (.t 38), none⟩,
                ⟨none, .store 1 (.t 39) (.t 37), none⟩] [])))
             (.ops 10 false [
              ⟨some 40, .bin .add (.t 27) (.c (.int .i64 1)), none⟩,
              ⟨some 27, .val (.t 40), none⟩] [])))))))))))))
def rs131 : List RR := []
theorem fun131 : FunR Tryd.prog 131 rc131 rs131 53 := ⟨Tryd.f131, Tryd.func131, by kernel_rfl, by kernel_rfl, by kernel_rfl⟩
/-- causeway/wire.form -/
def rc132 : RC :=
 .seq (.ops 0 false [
  ⟨some 2, .val (.c (.slice none 0 0)), none⟩] [])
 (.seq (.ops 1 false [
   ⟨some 3, .alloc 196 (List.replicate 8 (.int .u8 0)), none⟩] [])
  (.seq (.seq (.ops 2 false [
     ⟨some 5, .val (.c (.int .i64 0)), none⟩] [])
    (.block 0 (.loop (.seq (.ops 3 false [
        ⟨some 6, .bin .lss (.t 5) (.c (.int .i64 8)), none⟩] [])
       (.seq (.cond (.t 6) (.skip)
         (.exit 0))
        (.seq (.block 1 (.seq (.ops 4 false [
            ⟨some 7, .val (.t 5), none⟩,
            ⟨some 4, .val (.t 7), none⟩] [])
           (.ops 5 false [
            ⟨some 8, .val (.t 4), none⟩,
            ⟨some 9, .val (.t 0), none⟩,
            ⟨some 10, .val (.t 4), none⟩,
            ⟨some 11, .bin .mul (.c (.int .i64 8)) (.t 10), none⟩,
            ⟨some 12, .bin .sub (.c (.int .i64 56)) (.t 11), none⟩,
            ⟨some 13, .bin .shr (.t 9) (.t 12), none⟩,
            ⟨some 14, .conv .u8 (.t 13), none⟩,
            ⟨some 15, .indexA 8 1 (.t 3) (.t 8), none⟩,
            ⟨none, .store 1 (.t 15) (.t 14), none⟩] [])))
         (.ops 6 false [
          ⟨some 16, .bin .add (.t 5) (.c (.int .i64 1)), none⟩,
          ⟨some 5, .val (.t 16), none⟩] [])))))))
   (.seq (.ops 7 false [
     ⟨some 17, .sliceA 8 1 (.t 3) none none, none⟩,
     ⟨some 18, .call 133 [(.t 17)], none⟩,
     ⟨some 2, .val (.t 18), none⟩] [])
    (.ret))))
def rs132 : List RR := [.tmp 2]
theorem fun132 : FunR Tryd.prog 132 rc132 rs132 19 := ⟨Tryd.f132, Tryd.func132, by kernel_rfl, by kernel_rfl, by kernel_rfl⟩
/-- causeway/wire.short -/
def rc133 : RC :=
 .seq (.ops 0 false [
  ⟨some 2, .val (.c (.slice none 0 0)), none⟩] [])
 (.seq (.block 0 (.loop (.seq (.seq (.ops 1 false [
       ⟨some 3, .val (.t 0), none⟩,
       ⟨some 4, .len (.t 3), none⟩,
       ⟨some 5, .bin .gtr (.t 4) (.c (.int .i64 0)), none⟩,
       ⟨some 6, .val (.t 5), none⟩,
       ⟨some 7, .val (.t 0), some (6, true)⟩,
       ⟨some 8, .indexS 1 (.t 7) (.c (.int .i64 0)), some (6, true)⟩,
       ⟨some 9, .load (.t 8), some (6, true)⟩,
       ⟨some 10, .bin .eql (.t 9) (.c (.int .u8 0)), some (6, true)⟩,
       ⟨some 11, .pick (.t 6) (.t 10) (.c (.bool false)), none⟩] [])
      (.cond (.t 11) (.skip)
       (.exit 0)))
     (.block 1 (.ops 2 false [
       ⟨some 12, .val (.t 0), none⟩,
       ⟨some 13, .slice 1 (.t 12) (some (.c (.int .i64 1))) none none, none⟩,
       ⟨some 0, .val (.t 13), none⟩] [])))))
  (.seq (.ops 3 false [
    ⟨some 14, .val (.t 0), none⟩,
    ⟨some 15, .len (.t 14), none⟩,
    ⟨some 16, .conv .u8 (.t 15), none⟩,
    ⟨some 17, .buildS 5 1 [(.int .u8 0)] [(0, 1, (.t 16))], none⟩,
    ⟨some 18, .val (.t 0), none⟩,
    ⟨some 19, .blt .append #[79, 79] 79 [(.t 17), (.t 18)], none⟩,
    ⟨some 2, .val (.t 19), none⟩] [])
   (.ret)))
def rs133 : List RR := [.tmp 2]
theorem fun133 : FunR Tryd.prog 133 rc133 rs133 20 := ⟨Tryd.f133, Tryd.func133, by kernel_rfl, by kernel_rfl, by kernel_rfl⟩
/-- causeway/digest.Parts -/
def rc135 : RC :=
 .seq (.ops 0 false [
  ⟨some 2, .alloc 25 (List.replicate 32 (.int .u8 0)), none⟩] [])
 (.seq (.ops 1 false [
   ⟨some 6, .call 155 [], none⟩,
   ⟨some 3, .val (.t 6), none⟩] [])
  (.seq (.seq (.ops 2 false [
     ⟨some 7, .val (.t 0), none⟩,
     ⟨some 8, .len (.t 7), none⟩,
     ⟨some 9, .val (.c (.int .i64 0)), none⟩] [])
    (.block 0 (.loop (.seq (.ops 3 false [
        ⟨some 10, .bin .lss (.t 9) (.t 8), none⟩] [])
       (.seq (.cond (.t 10) (.skip)
         (.exit 0))
        (.seq (.block 1 (.seq (.ops 4 false [
            ⟨some 11, .indexS 1 (.t 7) (.t 9), none⟩,
            ⟨some 12, .load (.t 11), none⟩,
            ⟨some 5, .val (.t 12), none⟩] [])
           (.ops 5 false [
            ⟨some 13, .val (.t 3), none⟩,
            ⟨some 14, .val (.t 5), none⟩,
            ⟨some 15, .call 156 [(.t 13), (.t 14)], none⟩] [])))
         (.ops 6 false [
          ⟨some 16, .bin .add (.t 9) (.c (.int .i64 1)), none⟩,
          ⟨some 9, .val (.t 16), none⟩] [])))))))
   (.seq (.ops 7 false [
     ⟨some 17, .val (.t 3), none⟩,
     ⟨some 18, .call 157 [(.t 17)], none⟩,
     ⟨none, .store 32 (.t 2) (.t 18), none⟩] [])
    (.ret))))
def rs135 : List RR := [.cell 2 (some 32)]
theorem fun135 : FunR Tryd.prog 135 rc135 rs135 19 := ⟨Tryd.f135, Tryd.func135, by kernel_rfl, by kernel_rfl, by kernel_rfl⟩
/-- causeway/digest.Sum -/
def rc137 : RC :=
 .seq (.ops 0 false [
  ⟨some 2, .alloc 25 (List.replicate 32 (.int .u8 0)), none⟩] [])
 (.seq (.ops 1 false [
   ⟨some 3, .val (.t 0), none⟩,
   ⟨some 4, .buildS 79 1 [(.slice none 0 0)] [(0, 1, (.t 3))], none⟩,
   ⟨some 5, .call 135 [(.t 4)], none⟩,
   ⟨none, .store 32 (.t 2) (.t 5), none⟩] [])
  (.ret))
def rs137 : List RR := [.cell 2 (some 32)]
theorem fun137 : FunR Tryd.prog 137 rc137 rs137 6 := ⟨Tryd.f137, Tryd.func137, by kernel_rfl, by kernel_rfl, by kernel_rfl⟩
/-- slices.BinarySearch[[]string,string] -/
def rc143 : RC :=
 .seq (.ops 0 false [
  ⟨some 4, .val (.c (.int .i64 0)), none⟩,
  ⟨some 5, .val (.c (.bool false)), none⟩] [])
 (.seq (.ops 1 false [
   ⟨some 10, .val (.t 0), none⟩,
   ⟨some 11, .len (.t 10), none⟩,
   ⟨some 6, .val (.t 11), none⟩] [])
  (.seq (.ops 2 false [
    ⟨some 12, .val (.t 6), none⟩,
    ⟨some 7, .val (.c (.int .i64 0)), none⟩,
    ⟨some 8, .val (.t 12), none⟩] [])
   (.seq (.block 0 (.loop (.seq (.seq (.ops 3 false [
         ⟨some 13, .val (.t 7), none⟩,
         ⟨some 14, .val (.t 8), none⟩,
         ⟨some 15, .bin .lss (.t 13) (.t 14), none⟩] [])
        (.cond (.t 15) (.skip)
         (.exit 0)))
       (.block 1 (.seq (.ops 4 false [
          ⟨some 16, .val (.t 7), none⟩,
          ⟨some 17, .val (.t 8), none⟩,
          ⟨some 18, .bin .add (.t 16) (.t 17), none⟩,
          ⟨some 19, .conv .u64 (.t 18), none⟩,
          ⟨some 20, .bin .shr (.t 19) (.c (.int .u64 1)), none⟩,
          ⟨some 21, .conv .i64 (.t 20), none⟩,
          ⟨some 9, .val (.t 21), none⟩] [])
         (.seq (.ops 5 false [
           ⟨some 22, .val (.t 0), none⟩,
           ⟨some 23, .val (.t 9), none⟩,
           ⟨some 24, .indexS 1 (.t 22) (.t 23), none⟩,
           ⟨some 25, .load (.t 24), none⟩,
           ⟨some 26, .val (.t 1), none⟩,
           ⟨some 27, .call 162 [(.t 25), (.t 26)], none⟩] [])
          (.cond (.t 27) (.ops 6 false [
            ⟨some 28, .val (.t 9), none⟩,
            ⟨some 29, .bin .add (.t 28) (.c (.int .i64 1)), none⟩,
            ⟨some 7, .val (.t 29), none⟩] [])
           (.ops 7 false [
            ⟨some 30, .val (.t 9), none⟩,
            ⟨some 8, .val (.t 30), none⟩] []))))))))
    (.seq (.ops 8 false [
      ⟨some 31, .val (.t 7), none⟩,
      ⟨some 32, .val (.t 7), none⟩,
      ⟨some 33, .val (.t 6), none⟩,
      ⟨some 34, .bin .lss (.t 32) (.t 33), none⟩,
      ⟨some 35, .val (.t 34), none⟩,
      ⟨some 36, .val (.t 0), some (35, true)⟩,
      ⟨some 37, .val (.t 7), some (35, true)⟩,
      ⟨some 38, .indexS 1 (.t 36) (.t 37), some (35, true)⟩,
      ⟨some 39, .load (.t 38), some (35, true)⟩,
      ⟨some 40, .val (.t 1), some (35, true)⟩,
      ⟨some 41, .eqp .str false (.t 39) (.t 40), some (35, true)⟩,
      ⟨some 42, .val (.t 41), some (35, true)⟩,
      ⟨some 43, .val (.t 0), some (42, false)⟩,
      ⟨some 44, .val (.t 7), some (42, false)⟩,
      ⟨some 45, .indexS 1 (.t 43) (.t 44), some (42, false)⟩,
      ⟨some 46, .load (.t 45), some (42, false)⟩,
      ⟨some 47, .call 163 [(.t 46)], some (42, false)⟩,
      ⟨some 48, .val (.t 47), some (42, false)⟩,
      ⟨some 49, .val (.t 1), some (48, true)⟩,
      ⟨some 50, .call 163 [(.t 49)], some (48, true)⟩,
      ⟨some 51, .pick (.t 48) (.t 50) (.c (.bool false)), some (42, false)⟩,
      ⟨some 52, .pick (.t 42) (.c (.bool true)) (.t 51), some (35, true)⟩,
      ⟨some 53, .pick (.t 35) (.t 52) (.c (.bool false)), none⟩,
      ⟨some 4, .val (.t 31), none⟩,
      ⟨some 5, .val (.t 53), none⟩] [])
     (.ret)))))
def rs143 : List RR := [.tmp 4, .tmp 5]
theorem fun143 : FunR Tryd.prog 143 rc143 rs143 54 := ⟨Tryd.f143, Tryd.func143, by kernel_rfl, by kernel_rfl, by kernel_rfl⟩
/-- slices.Insert[[]string,string] -/
def rc144 : RC :=
 .seq (.ops 0 false [
  ⟨some 6, .val (.c (.slice none 0 0)), none⟩] [])
 (.seq (.ops 1 false [
   ⟨some 10, .val (.t 0), none⟩,
   ⟨some 11, .val (.t 1), none⟩,
   ⟨some 12, .slice 1 (.t 10) (some (.t 11)) none none, none⟩] [])
  (.seq (.ops 2 false [
    ⟨some 13, .val (.t 2), none⟩,
    ⟨some 14, .len (.t 13), none⟩,
    ⟨some 7, .val (.t 14), none⟩] [])
   (.seq (.seq (.ops 3 false [
      ⟨some 15, .val (.t 7), none⟩,
      ⟨some 16, .bin .eql (.t 15) (.c (.int .i64 0)), none⟩] [])
     (.cond (.t 16) (.seq (.ops 4 false [
        ⟨some 17, .val (.t 0), none⟩,
        ⟨some 6, .val (.t 17), none⟩] [])
       (.ret))
      (.skip)))
    (.seq (.ops 5 false [
      ⟨some 18, .val (.t 0), none⟩,
      ⟨some 19, .len (.t 18), none⟩,
      ⟨some 8, .val (.t 19), none⟩] [])
     (.seq (.seq (.ops 6 false [
        ⟨some 20, .val (.t 1), none⟩,
        ⟨some 21, .val (.t 8), none⟩,
        ⟨some 22, .bin .eql (.t 20) (.t 21), none⟩] [])
       (.cond (.t 22) (.seq (.ops 7 false [
          ⟨some 23, .val (.t 0), none⟩,
          ⟨some 24, .val (.t 2), none⟩,
          ⟨some 25, .blt .append #[218, 218] 218 [(.t 23), (.t 24)], none⟩,
          ⟨some 6, .val (.t 25), none⟩] [])
         (.ret))
        (.skip)))
      (.seq (.seq (.ops 8 false [
         ⟨some 26, .val (.t 8), none⟩,
         ⟨some 27, .val (.t 7), none⟩,
         ⟨some 28, .bin .add (.t 26) (.t 27), none⟩,
         ⟨some 29, .val (.t 0), none⟩,
         ⟨some 30, .blt .cap #[218] 3 [(.t 29)], none⟩,
         ⟨some 31, .bin .gtr (.t 28) (.t 30), none⟩] [])
        (.cond (.t 31) (.seq (.ops 9 false [
           ⟨some 32, .val (.t 0), none⟩,
           ⟨some 33, .val (.t 1), none⟩,
           ⟨some 34, .slice 1 (.t 32) none (some (.t 33)) none, none⟩,
           ⟨some 35, .val (.t 8), none⟩,
           ⟨some 36, .val (.t 7), none⟩,
           ⟨some 37, .bin .add (.t 35) (.t 36), none⟩,
           ⟨some 38, .val (.t 1), none⟩,
           ⟨some 39, .bin .sub (.t 37) (.t 38), none⟩,
           ⟨some 40, .blt .append #[218, 3] 218 [(.t 34), (.t 39)], none⟩,
           ⟨some 9, .val (.t 40), none⟩] [])
          (.seq (.ops 10 false [
            ⟨some 41, .val (.t 9), none⟩,
            ⟨some 42, .val (.t 1), none⟩,
            ⟨some 43, .slice 1 (.t 41) (some (.t 42)) none none, none⟩,
            ⟨some 44, .val (.t 2), none⟩,
            ⟨some 45, .blt .copy #[218, 218] 3 [(.t 43), (.t 44)], none⟩] [])
           (.seq (.ops 11 true [
             ⟨some 46, .val (.t 9), none⟩,
             ⟨some 47, .val (.t 1), none⟩,
             ⟨some 48, .val (.t 7), none⟩,
             ⟨some 49, .bin .add (.t 47) (.t 48), none⟩,
             ⟨some 50, .slice 1 (.t 46) (some (.t 49)) none none, none⟩,
             ⟨some 51, .val (.t 0), none⟩,
             ⟨some 52, .val (.t 1), none⟩,
             ⟨some 53, .slice 1 (.t 51) (some (.t 52)) none none, none⟩,
             ⟨some 54, .blt .copy #[218, 218] 3 [(.t 50), (.t 53)], none⟩] [([], []), ([], []), ([], []), ([1, 2], [1, 2]), ([0, 3], [0, 3]), ([], []), ([], []), ([5, 6], [5, 6]), ([4, 7], [4, 7])])
            (.seq (.ops 12 false [
              ⟨some 55, .val (.t 9), none⟩,
              ⟨some 6, .val (.t 55), none⟩] [])
             (.ret)))))
         (.skip)))
       (.seq (.ops 13 false [
         ⟨some 56, .val (.t 0), none⟩,
         ⟨some 57, .val (.t 8), none⟩,
         ⟨some 58, .val (.t 7), none⟩,
         ⟨some 59, .bin .add (.t 57) (.t 58), none⟩,
         ⟨some 60, .slice 1 (.t 56) none (some (.t 59)) none, none⟩,
         ⟨some 0, .val (.t 60), none⟩] [])
        (.seq (.seq (.ops 14 false [
           ⟨some 61, .val (.t 2), none⟩,
           ⟨some 62, .val (.t 0), none⟩,
           ⟨some 63, .val (.t 1), none⟩,
           ⟨some 64, .val (.t 7), none⟩,
           ⟨some 65, .bin .add (.t 63) (.t 64), none⟩,
           ⟨some 66, .slice 1 (.t 62) (some (.t 65)) none none, none⟩,
           ⟨some 67, .ext 164 [(.t 61), (.t 66)], none⟩,
           ⟨some 68, .not (.t 67), none⟩] [])
          (.cond (.t 68) (.seq (.ops 15 true [
             ⟨some 69, .val (.t 0), none⟩,
             ⟨some 70, .val (.t 1), none⟩,
             ⟨some 71, .val (.t 7), none⟩,
             ⟨some 72, .bin .add (.t 70) (.t 71), none⟩,
             ⟨some 73, .slice 1 (.t 69) (some (.t 72)) none none, none⟩,
             ⟨some 74, .val (.t 0), none⟩,
             ⟨some 75, .val (.t 1), none⟩,
             ⟨some 76, .slice 1 (.t 74) (some (.t 75)) none none, none⟩,
             ⟨some 77, .blt .copy #[218, 218] 3 [(.t 73), (.t 76)], none⟩] [([], []), ([], []), ([], []), ([1, 2], [1, 2]), ([0, 3], [0, 3]), ([], []), ([], []), ([5, 6], [5, 6]), ([4, 7], [4, 7])])
            (.seq (.ops 16 false [
              ⟨some 78, .val (.t 0), none⟩,
              ⟨some 79, .val (.t 1), none⟩,
              ⟨some 80, .slice 1 (.t 78) (some (.t 79)) none none, none⟩,
              ⟨some 81, .val (.t 2), none⟩,
              ⟨some 82, .blt .copy #[218, 218] 3 [(.t 80), (.t 81)], none⟩] [])
             (.seq (.ops 17 false [
               ⟨some 83, .val (.t 0), none⟩,
               ⟨some 6, .val (.t 83), none⟩] [])
              (.ret))))
           (.skip)))
         (.seq (.ops 18 false [
           ⟨some 84, .val (.t 0), none⟩,
           ⟨some 85, .val (.t 8), none⟩,
           ⟨some 86, .slice 1 (.t 84) (some (.t 85)) none none, none⟩,
           ⟨some 87, .val (.t 2), none⟩,
           ⟨some 88, .blt .copy #[218, 218] 3 [(.t 86), (.t 87)], none⟩] [])
          (.seq (.ops 19 false [
            ⟨some 89, .val (.t 0), none⟩,
            ⟨some 90, .val (.t 1), none⟩,
            ⟨some 91, .slice 1 (.t 89) (some (.t 90)) none none, none⟩,
            ⟨some 92, .val (.t 7), none⟩,
            ⟨some 93, .call 165 [(.t 91), (.t 92)], none⟩] [])
           (.seq (.ops 20 false [
             ⟨some 94, .val (.t 0), none⟩,
             ⟨some 6, .val (.t 94), none⟩] [])
            (.ret))))))))))))
def rs144 : List RR := [.tmp 6]
theorem fun144 : FunR Tryd.prog 144 rc144 rs144 95 := ⟨Tryd.f144, Tryd.func144, by kernel_rfl, by kernel_rfl, by kernel_rfl⟩
/-- slices.Clone[[]string,string] -/
def rc145 : RC :=
 .seq (.ops 0 false [
  ⟨some 2, .val (.c (.slice none 0 0)), none⟩] [])
 (.seq (.seq (.ops 1 false [
    ⟨some 3, .val (.t 0), none⟩,
    ⟨some 4, .eqp .slc false (.t 3) (.c (.slice none 0 0)), none⟩] [])
   (.cond (.t 4) (.seq (.ops 2 false [
      ⟨some 2, .val (.c (.slice none 0 0)), none⟩] [])
     (.ret))
    (.skip)))
  (.seq (.ops 3 false [
    ⟨some 5, .buildS 9 0 [] [], none⟩,
    ⟨some 6, .val (.t 0), none⟩,
    ⟨some 7, .blt .append #[218, 218] 218 [(.t 5), (.t 6)], none⟩,
    ⟨some 2, .val (.t 7), none⟩] [])
   (.ret)))
def rs145 : List RR := [.tmp 2]
theorem fun145 : FunR Tryd.prog 145 rc145 rs145 8 := ⟨Tryd.f145, Tryd.func145, by kernel_rfl, by kernel_rfl, by kernel_rfl⟩
/-- slices.Delete[[]string,string] -/
def rc146 : RC :=
 .seq (.ops 0 false [
  ⟨some 6, .val (.c (.slice none 0 0)), none⟩] [])
 (.seq (.ops 1 false [
   ⟨some 8, .val (.t 0), none⟩,
   ⟨some 9, .val (.t 1), none⟩,
   ⟨some 10, .val (.t 2), none⟩,
   ⟨some 11, .val (.t 0), none⟩,
   ⟨some 12, .len (.t 11), none⟩,
   ⟨some 13, .slice 1 (.t 8) (some (.t 9)) (some (.t 10)) (some (.t 12)), none⟩] [])
  (.seq (.seq (.ops 2 false [
     ⟨some 14, .val (.t 1), none⟩,
     ⟨some 15, .val (.t 2), none⟩,
     ⟨some 16, .bin .eql (.t 14) (.t 15), none⟩] [])
    (.cond (.t 16) (.seq (.ops 3 false [
       ⟨some 17, .val (.t 0), none⟩,
       ⟨some 6, .val (.t 17), none⟩] [])
      (.ret))
     (.skip)))
   (.seq (.ops 4 false [
     ⟨some 18, .val (.t 0), none⟩,
     ⟨some 19, .len (.t 18), none⟩,
     ⟨some 7, .val (.t 19), none⟩] [])
    (.seq (.ops 5 true [
      ⟨some 20, .val (.t 0), none⟩,
      ⟨some 21, .val (.t 1), none⟩,
      ⟨some 22, .slice 1 (.t 20) none (some (.t 21)) none, none⟩,
      ⟨some 23, .val (.t 0), none⟩,
      ⟨some 24, .val (.t 2), none⟩,
      ⟨some 25, .slice 1 (.t 23) (some (.t 24)) none none, none⟩,
      ⟨some 26, .blt .append #[218, 218] 218 [(.t 22), (.t 25)], none⟩,
      ⟨some 0, .val (.t 26), none⟩] [([], []), ([], []), ([0, 1], [0, 1]), ([], []), ([], []), ([3, 4], [3, 4]), ([2, 5], [2, 5]), ([6, 6, 0, 1, 2, 3, 4, 5, 6], [0, 3, 6])])
     (.seq (.ops 6 false [
       ⟨some 27, .val (.t 0), none⟩,
       ⟨some 28, .val (.t 0), none⟩,
       ⟨some 29, .len (.t 28), none⟩,
       ⟨some 30, .val (.t 7), none⟩,
       ⟨some 31, .slice 1 (.t 27) (some (.t 29)) (some (.t 30)) none, none⟩,
       ⟨none, .blt .clear #[218] 0 [(.t 31)], none⟩] [])
      (.seq (.ops 7 false [
        ⟨some 32, .val (.t 0), none⟩,
        ⟨some 6, .val (.t 32), none⟩] [])
       (.ret)))))))
def rs146 : List RR := [.tmp 6]
theorem fun146 : FunR Tryd.prog 146 rc146 rs146 33 := ⟨Tryd.f146, Tryd.func146, by kernel_rfl, by kernel_rfl, by kernel_rfl⟩
/-- (*causeway/sparse.Map).Put -/
def rc147 : RC :=
 .seq (.ops 0 false [
  ⟨some 4, .box 25 (.t 1), none⟩,
  ⟨some 5, .box 25 (.t 2), none⟩] [])
 (.seq (.ops 1 false [
   ⟨some 8, .build (List.replicate 32 (.int .u8 0)) [], none⟩,
   ⟨some 6, .alloc 25 (List.replicate 32 (.int .u8 0)), none⟩,
   ⟨none, .store 32 (.t 6) (.t 8), none⟩] [])
  (.seq (.ops 2 true [
    ⟨some 9, .val (.t 0), none⟩,
    ⟨some 10, .nilCheck (.t 9), none⟩,
    ⟨some 11, .fieldA 0 (.t 10), none⟩,
    ⟨some 12, .load (.t 11), none⟩,
    ⟨some 13, .loadN 32 (.t 4), none⟩,
    ⟨some 14, .call 166 [(.t 12), (.t 13)], none⟩,
    ⟨some 7, .alloc 25 (List.replicate 32 (.int .u8 0)), none⟩,
    ⟨none, .store 32 (.t 7) (.t 14), none⟩] [([], []), ([0], [0]), ([1], [1]), ([2], [2]), ([], []), ([3, 4], [3, 4]), ([], []), ([6, 5, 5, 0, 1, 2, 3, 4, 5, 6], [5, 6])])
   (.seq (.seq (.ops 3 false [
      ⟨some 15, .loadN 32 (.t 7), none⟩,
      ⟨some 16, .loadN 32 (.t 6), none⟩,
      ⟨some 17, .eqn true 25 (.t 15) (.t 16), none⟩] [])
     (.cond (.t 17) (.ops 4 false [
       ⟨some 18, .val (.t 0), none⟩,
       ⟨some 19, .nilCheck (.t 18), none⟩,
       ⟨some 20, .fieldA 1 (.t 19), none⟩,
       ⟨some 21, .load (.t 20), none⟩,
       ⟨some 22, .bin .sub (.t 21) (.c (.int .i64 1)), none⟩,
       ⟨some 23, .nilCheck (.t 18), none⟩,
       ⟨some 24, .fieldA 1 (.t 23), none⟩,
       ⟨none, .store 1 (.t 24) (.t 22), none⟩] [])
      (.skip)))
    (.seq (.seq (.ops 5 false [
       ⟨some 25, .loadN 32 (.t 5), none⟩,
       ⟨some 26, .loadN 32 (.t 6), none⟩,
       ⟨some 27, .eqn true 25 (.t 25) (.t 26), none⟩] [])
      (.cond (.t 27) (.ops 6 false [
        ⟨some 28, .val (.t 0), none⟩,
        ⟨some 29, .nilCheck (.t 28), none⟩,
        ⟨some 30, .fieldA 1 (.t 29), none⟩,
        ⟨some 31, .load (.t 30), none⟩,
        ⟨some 32, .bin .add (.t 31) (.c (.int .i64 1)), none⟩,
        ⟨some 33, .nilCheck (.t 28), none⟩,
        ⟨some 34, .fieldA 1 (.t 33), none⟩,
        ⟨none, .store 1 (.t 34) (.t 32), none⟩] [])
       (.skip)))
     (.ops 7 true [
      ⟨some 35, .val (.t 0), none⟩,
      ⟨some 36, .val (.t 0), none⟩,
      ⟨some 37, .nilCheck (.t 36), none⟩,
      ⟨some 38, .fieldA 0 (.t 37), none⟩,
      ⟨some 39, .load (.t 38), none⟩,
      ⟨some 40, .loadN 32 (.t 4), none⟩,
      ⟨some 41, .loadN 32 (.t 5), none⟩,
      ⟨some 42, .call 167 [(.t 39), (.t 40), (.t 41), (.c (.int .i64 0))], none⟩,
      ⟨some 43, .nilCheck (.t 35), none⟩,
      ⟨some 44, .fieldA 0 (.t 43), none⟩,
      ⟨none, .store 1 (.t 44) (.t 42), none⟩] [([], []), ([], []), ([1], [1]), ([2], [2]), ([3], [3]), ([], []), ([], []), ([4, 5, 6], [4, 5, 6]), ([0, 0, 1, 2, 3, 4, 5, 6, 7], [0]), ([8, 0, 1, 2, 3, 4, 5, 6, 7], [8]), ([9, 7, 7, 0, 1, 2, 3, 4, 5, 6, 7], [7, 9])])))))
def rs147 : List RR := []
theorem fun147 : FunR Tryd.prog 147 rc147 rs147 45 := ⟨Tryd.f147, Tryd.func147, by kernel_rfl, by kernel_rfl, by kernel_rfl⟩
/-- causeway/digest.New -/
def rc155 : RC :=
 .seq (.ops 0 false [
  ⟨some 0, .val (.c (.pointer none)), none⟩] [])
 (.seq (.ops 1 false [
   ⟨some 1, .call 171 [], none⟩,
   ⟨some 2, .build [(.int .u32 0), (.int .u32 0), (.int .u32 0), (.int .u32 0), (.int .u32 0), (.int .u32 0), (.int .u32 0), (.int .u32 0), (.int .u8 0), (.int .u8 0), (.int .u8 0), (.int .u8 0), (.int .u8 0), (.int .u8 0), (.int .u8 0), (.int .u8 0), (.int .u8 0), (.int .u8 0), (.int .u8 0), (.int .u8 0), (.int .u8 0), (.int .u8 0), (.int .u8 0), (.int .u8 0), (.int .u8 0), (.int .u8 0), (.int .u8 0), (.int .u8 0), (.int .u8 0), (.int .u8 0), (.int .u8 0), (.int .u8 0), (.int .u8 0), (.int .u8 0), (.int .u8 0), (.int .u8 0), (.int .u8 0), (.int .u8 0), (.int .u8 0), (.int .u8 0), (.int .u8 0), (.int .u8 0), (.int .u8 0), (.int .u8 0), (.int .u8 0), (.int .u8 0), (.int .u8 0), (.int .u8 0), (.int .u8 0), (.int .u8 0), (.int .u8 0), (.int .u8 0), (.int .u8 0), (.int .u8 0), (.int .u8 0), (.int .u8 0), (.int .u8 0), (.int .u8 0), (.int .u8 0), (.int .u8 0), (.int .u8 0), (.int .u8 0), (.int .u8 0), (.int .u8 0), (.int .u8 0), (.int .u8 0), (.int .u8 0), (.int .u8 0), (.int .u8 0), (.int .u8 0), (.int .u8 0), (.int .u8 0), (.int .i64 0)] [(0, 8, (.t 1))], none⟩,
   ⟨some 3, .box 245 (.t 2), none⟩,
   ⟨some 0, .val (.t 3), none⟩] [])
  (.ret))
def rs155 : List RR := [.tmp 0]
theorem fun155 : FunR Tryd.prog 155 rc155 rs155 4 := ⟨Tryd.f155, Tryd.func155, by kernel_rfl, by kernel_rfl, by kernel_rfl⟩
/-- (*causeway/digest.Hasher).Write -/
def rc156 : RC :=
 .block 0 (.loop (.seq (.seq (.ops 0 false [
     ⟨some 6, .val (.t 1), none⟩,
     ⟨some 7, .len (.t 6), none⟩,
     ⟨some 8, .bin .gtr (.t 7) (.c (.int .i64 0)), none⟩] [])
    (.cond (.t 8) (.skip)
     (.exit 0)))
   (.block 1 (.seq (.ops 1 false [
      ⟨some 9, .val (.t 0), none⟩,
      ⟨some 10, .nilCheck (.t 9), none⟩,
      ⟨some 11, .fieldA 72 (.t 10), none⟩,
      ⟨some 12, .load (.t 11), none⟩,
      ⟨some 13, .bin .rem (.t 12) (.c (.int .i64 64)), none⟩,
      ⟨some 4, .val (.t 13), none⟩] [])
     (.seq (.ops 2 false [
       ⟨some 14, .val (.t 0), none⟩,
       ⟨some 15, .nilCheck (.t 14), none⟩,
       ⟨some 16, .fieldA 8 (.t 15), none⟩,
       ⟨some 17, .val (.t 4), none⟩,
       ⟨some 18, .sliceA 64 1 (.t 16) (some (.t 17)) none, none⟩,
       ⟨some 19, .val (.t 1), none⟩,
       ⟨some 20, .blt .copy #[79, 79] 3 [(.t 18), (.t 19)], none⟩,
       ⟨some 5, .val (.t 20), none⟩] [])
      (.seq (.ops 3 false [
        ⟨some 21, .val (.t 1), none⟩,
        ⟨some 22, .val (.t 5), none⟩,
        ⟨some 23, .slice 1 (.t 21) (some (.t 22)) none none, none⟩,
        ⟨some 1, .val (.t 23), none⟩] [])
       (.seq (.ops 4 false [
         ⟨some 24, .val (.t 0), none⟩,
         ⟨some 25, .nilCheck (.t 24), none⟩,
         ⟨some 26, .fieldA 72 (.t 25), none⟩,
         ⟨some 27, .load (.t 26), none⟩,
         ⟨some 28, .val (.t 5), none⟩,
         ⟨some 29, .bin .add (.t 27) (.t 28), none⟩,
         ⟨some 30, .nilCheck (.t 24), none⟩,
         ⟨some 31, .fieldA 72 (.t 30), none⟩,
         ⟨none, .store 1 (.t 31) (.t 29), none⟩] [])
        (.seq (.ops 5 false [
          ⟨some 32, .val (.t 4), none⟩,
          ⟨some 33, .val (.t 5), none⟩,
          ⟨some 34, .bin .add (.t 32) (.t 33), none⟩,
          ⟨some 35, .bin .eql (.t 34) (.c (.int .i64 64)), none⟩] [])
         (.cond (.t 35) (.ops 6 true [
           ⟨some 36, .val (.t 0), none⟩,
           ⟨some 37, .val (.t 0), none⟩,
           ⟨some 38, .nilCheck (.t 37), none⟩,
           ⟨some 39, .fieldA 0 (.t 38), none⟩,
           ⟨some 40, .loadN 8 (.t 39), none⟩,
           ⟨some 41, .val (.t 0), none⟩,
           ⟨some 42, .nilCheck (.t 41), none⟩,
           ⟨some 43, .fieldA 8 (.t 42), none⟩,
           ⟨some 44, .loadN 64 (.t 43), none⟩,
           ⟨some 45, .call 172 [(.t 40), (.t 44)], none⟩,
           ⟨some 46, .nilCheck (.t 36), none⟩,
           ⟨some 47, .fieldA 0 (.t 46), none⟩,
           ⟨none, .store 8 (.t 47) (.t 45), none⟩] [([], []), ([], []), ([1], [1]), ([2], [2]), ([3], [3]), ([], []), ([5], [5]), ([6], [6]), ([7], [7]), ([4, 8], [4, 8]), ([0, 0, 1, 2, 3, 4, 5, 6, 7, 8, 9], [0]), ([10, 0, 1, 2, 3, 4, 5, 6, 7, 8, 9], [10]), ([11, 9, 9, 0, 1, 2, 3, 4, 5, 6, 7, 8, 9], [9, 11])])
          (.skip))))))))))
def rs156 : List RR := []
theorem fun156 : FunR Tryd.prog 156 rc156 rs156 48 := ⟨Tryd.f156, Tryd.func156, by kernel_rfl, by kernel_rfl, by kernel_rfl⟩
/-- (*causeway/digest.Hasher).Sum -/
def rc157 : RC :=
 .seq (.ops 0 false [
  ⟨some 2, .alloc 25 (List.replicate 32 (.int .u8 0)), none⟩] [])
 (.seq (.ops 1 false [
   ⟨some 3, .val (.t 0), none⟩,
   ⟨some 4, .call 173 [(.t 3), (.c (.int .u8 0)), (.c (.int .i64 0))], none⟩,
   ⟨none, .store 32 (.t 2) (.t 4), none⟩] [])
  (.ret))
def rs157 : List RR := [.cell 2 (some 32)]
theorem fun157 : FunR Tryd.prog 157 rc157 rs157 5 := ⟨Tryd.f157, Tryd.func157, by kernel_rfl, by kernel_rfl, by kernel_rfl⟩
/-- cmp.Less[string] -/
def rc162 : RC :=
 .seq (.ops 0 false [
  ⟨some 4, .val (.c (.bool false)), none⟩] [])
 (.seq (.ops 1 false [
   ⟨some 5, .val (.t 0), none⟩,
   ⟨some 6, .call 174 [(.t 5)], none⟩,
   ⟨some 7, .val (.t 6), none⟩,
   ⟨some 8, .val (.t 1), some (7, true)⟩,
   ⟨some 9, .call 174 [(.t 8)], some (7, true)⟩,
   ⟨some 10, .not (.t 9), some (7, true)⟩,
   ⟨some 11, .pick (.t 7) (.t 10) (.c (.bool false)), none⟩,
   ⟨some 12, .val (.t 11), none⟩,
   ⟨some 13, .val (.t 0), some (12, false)⟩,
   ⟨some 14, .val (.t 1), some (12, false)⟩,
   ⟨some 15, .sbin .lss (.t 13) (.t 14), some (12, false)⟩,
   ⟨some 16, .pick (.t 12) (.c (.bool true)) (.t 15), none⟩,
   ⟨some 4, .val (.t 16), none⟩] [])
  (.ret))
def rs162 : List RR := [.tmp 4]
theorem fun162 : FunR Tryd.prog 162 rc162 rs162 17 := ⟨Tryd.f162, Tryd.func162, by kernel_rfl, by kernel_rfl, by kernel_rfl⟩
/-- slices.isNaN[string] -/
def rc163 : RC :=
 .seq (.ops 0 false [
  ⟨some 2, .val (.c (.bool false)), none⟩] [])
 (.seq (.ops 1 false [
   ⟨some 3, .val (.t 0), none⟩,
   ⟨some 4, .val (.t 0), none⟩,
   ⟨some 5, .eqp .str true (.t 3) (.t 4), none⟩,
   ⟨some 2, .val (.t 5), none⟩] [])
  (.ret))
def rs163 : List RR := [.tmp 2]
theorem fun163 : FunR Tryd.prog 163 rc163 rs163 6 := ⟨Tryd.f163, Tryd.func163, by kernel_rfl, by kernel_rfl, by kernel_rfl⟩
/-- causeway/sparse.find -/
def rc166 : RC :=
 .seq (.ops 0 false [
  ⟨some 3, .box 25 (.t 1), none⟩,
  ⟨some 4, .alloc 25 (List.replicate 32 (.int .u8 0)), none⟩] [])
 (.seq (.seq (.ops 1 false [
    ⟨some 5, .val (.c (.int .i64 0)), none⟩] [])
   (.block 0 (.loop (.seq (.seq (.ops 2 false [
        ⟨some 6, .val (.t 0), none⟩,
        ⟨some 7, .eqp .ptr true (.t 6) (.c (.pointer none)), none⟩] [])
       (.cond (.t 7) (.skip)
        (.exit 0)))
      (.seq (.block 1 (.seq (.seq (.ops 4 false [
           ⟨some 10, .val (.t 0), none⟩,
           ⟨some 11, .call 176 [(.t 10)], none⟩] [])
          (.cond (.t 11) (.seq (.seq (.ops 5 true [
              ⟨some 12, .val (.t 0), none⟩,
              ⟨some 13, .nilCheck (.t 12), none⟩,
              ⟨some 14, .fieldA 32 (.t 13), none⟩,
              ⟨some 15, .loadN 32 (.t 14), none⟩,
              ⟨some 16, .loadN 32 (.t 3), none⟩,
              ⟨some 17, .eqn false 25 (.t 15) (.t 16), none⟩] [([], []), ([0], [0]), ([1], [1]), ([2], [2]), ([], []), ([3, 4], [3, 4])])
             (.cond (.t 17) (.seq (.ops 6 false [
                ⟨some 18, .val (.t 0), none⟩,
                ⟨some 19, .nilCheck (.t 18), none⟩,
                ⟨some 20, .fieldA 64 (.t 19), none⟩,
                ⟨some 21, .loadN 32 (.t 20), none⟩,
                ⟨none, .store 32 (.t 4) (.t 21), none⟩] [])
               (.ret))
              (.skip)))
            (.exit 0))
           (.skip)))
         (.seq (.ops 7 false [
           ⟨some 22, .loadN 32 (.t 3), none⟩,
           ⟨some 23, .val (.t 5), none⟩,
           ⟨some 24, .call 177 [(.t 22), (.t 23)], none⟩] [])
          (.cond (.t 24) (.ops 8 false [
            ⟨some 25, .val (.t 0), none⟩,
            ⟨some 26, .nilCheck (.t 25), none⟩,
            ⟨some 27, .fieldA 97 (.t 26), none⟩,
            ⟨some 28, .load (.t 27), none⟩,
            ⟨some 0, .val (.t 28), none⟩] [])
           (.ops 9 false [
            ⟨some 29, .val (.t 0), none⟩,
            ⟨some 30, .nilCheck (.t 29), none⟩,
            ⟨some 31, .fieldA 96 (.t 30), none⟩,
            ⟨some 32, .load (.t 31), none⟩,
            ⟨some 0, .val (.t 32), none⟩] [])))))
       (.ops 3 false [
        ⟨some 8, .val (.t 5), none⟩,
        ⟨some 9, .bin .add (.t 8) (.c (.int .i64 1)), none⟩,
        ⟨some 5, .val (.t 9), none⟩] []))))))
  (.seq (.ops 10 false [
    ⟨some 33, .build (List.replicate 32 (.int .u8 0)) [], none⟩,
    ⟨none, .store 32 (.t 4) (.t 33), none⟩] [])
   (.ret)))
def rs166 : List RR := [.cell 4 (some 32)]
theorem fun166 : FunR Tryd.prog 166 rc166 rs166 34 := ⟨Tryd.f166, Tryd.func166, by kernel_rfl, by kernel_rfl, by kernel_rfl⟩
/-- causeway/sparse.put -/
def rc167 : RC :=
 .seq (.ops 0 false [
  ⟨some 5, .box 25 (.t 1), none⟩,
  ⟨some 6, .box 25 (.t 2), none⟩,
  ⟨some 8, .val (.c (.pointer none)), none⟩] [])
 (.seq (.ops 1 false [
   ⟨some 12, .loadN 32 (.t 6), none⟩,
   ⟨some 13, .build (List.replicate 32 (.int .u8 0)) [], none⟩,
   ⟨some 14, .eqn false 25 (.t 12) (.t 13), none⟩,
   ⟨some 9, .val (.t 14), none⟩] [])
  (.seq (.block 0 (.seq (.ops 2 false [
      ⟨some 16, .val (.t 0), none⟩,
      ⟨some 17, .eqp .ptr false (.t 16) (.c (.pointer none)), none⟩,
      ⟨some 18, .val (.t 17), none⟩,
      ⟨some 19, .val (.t 9), some (18, true)⟩,
      ⟨some 20, .pick (.t 18) (.t 19) (.c (.bool false)), none⟩,
      ⟨some 15, .val (.t 20), none⟩] [])
     (.cond (.t 15) (.seq (.ops 3 false [
        ⟨some 8, .val (.c (.pointer none)), none⟩] [])
       (.ret))
      (.seq (.ops 4 false [
        ⟨some 22, .val (.t 0), none⟩,
        ⟨some 23, .eqp .ptr false (.t 22) (.c (.pointer none)), none⟩,
        ⟨some 21, .val (.t 23), none⟩] [])
       (.cond (.t 21) (.seq (.ops 5 false [
          ⟨some 24, .loadN 32 (.t 5), none⟩,
          ⟨some 25, .loadN 32 (.t 6), none⟩,
          ⟨some 26, .call 178 [(.t 24), (.t 25)], none⟩,
          ⟨some 8, .val (.t 26), none⟩] [])
         (.ret))
        (.seq (.ops 6 true [
          ⟨some 28, .val (.t 0), none⟩,
          ⟨some 29, .call 176 [(.t 28)], none⟩,
          ⟨some 30, .val (.t 29), none⟩,
          ⟨some 31, .val (.t 0), some (30, true)⟩,
          ⟨some 32, .nilCheck (.t 31), some (30, true)⟩,
          ⟨some 33, .fieldA 32 (.t 32), some (30, true)⟩,
          ⟨some 34, .loadN 32 (.t 33), some (30, true)⟩,
          ⟨some 35, .loadN 32 (.t 5), some (30, true)⟩,
          ⟨some 36, .eqn false 25 (.t 34) (.t 35), some (30, true)⟩,
          ⟨some 37, .pick (.t 30) (.t 36) (.c (.bool false)), none⟩,
          ⟨some 38, .val (.t 37), none⟩,
          ⟨some 39, .val (.t 9), some (38, true)⟩,
          ⟨some 40, .pick (.t 38) (.t 39) (.c (.bool false)), none⟩,
          ⟨some 27, .val (.t 40), none⟩] [([], []), ([0], [0]), ([1, 1], [1]), ([2], [2]), ([3, 2], [2, 3]), ([4, 2], [2, 4]), ([5, 2], [2, 5]), ([2], [2]), ([6, 7, 2], [2, 6, 7]), ([2, 8], [2, 8]), ([9, 2], [9]), ([10], [10]), ([10, 11], [10, 11]), ([12, 10], [12])])
         (.cond (.t 27) (.seq (.ops 7 false [
            ⟨some 8, .val (.c (.pointer none)), none⟩] [])
           (.ret))
          (.seq (.ops 8 true [
            ⟨some 42, .val (.t 0), none⟩,
            ⟨some 43, .call 176 [(.t 42)], none⟩,
            ⟨some 44, .val (.t 43), none⟩,
            ⟨some 45, .val (.t 0), some (44, true)⟩,
            ⟨some 46, .nilCheck (.t 45), some (44, true)⟩,
            ⟨some 47, .fieldA 32 (.t 46), some (44, true)⟩,
            ⟨some 48, .loadN 32 (.t 47), some (44, true)⟩,
            ⟨some 49, .loadN 32 (.t 5), some (44, true)⟩,
            ⟨some 50, .eqn false 25 (.t 48) (.t 49), some (44, true)⟩,
            ⟨some 51, .pick (.t 44) (.t 50) (.c (.bool false)), none⟩,
            ⟨some 41, .val (.t 51), none⟩] [([], []), ([0], [0]), ([1, 1], [1]), ([2], [2]), ([3, 2], [2, 3]), ([4, 2], [2, 4]), ([5, 2], [2, 5]), ([2], [2]), ([6, 7, 2], [2, 6, 7]), ([2, 8], [2, 8]), ([9, 2], [9])])
           (.cond (.t 41) (.seq (.ops 9 false [
              ⟨some 52, .loadN 32 (.t 5), none⟩,
              ⟨some 53, .loadN 32 (.t 6), none⟩,
              ⟨some 54, .call 178 [(.t 52), (.t 53)], none⟩,
              ⟨some 8, .val (.t 54), none⟩] [])
             (.ret))
            (.seq (.ops 10 false [
              ⟨some 56, .val (.t 0), none⟩,
              ⟨some 57, .call 176 [(.t 56)], none⟩,
              ⟨some 58, .val (.t 57), none⟩,
              ⟨some 59, .val (.t 9), some (58, true)⟩,
              ⟨some 60, .pick (.t 58) (.t 59) (.c (.bool false)), none⟩,
              ⟨some 55, .val (.t 60), none⟩] [])
             (.cond (.t 55) (.seq (.ops 11 false [
                ⟨some 61, .val (.t 0), none⟩,
                ⟨some 8, .val (.t 61), none⟩] [])
               (.ret))
              (.skip))))))))))))
   (.seq (.ops 12 true [
     ⟨some 62, .val (.t 0), none⟩,
     ⟨some 63, .nilCheck (.t 62), none⟩,
     ⟨some 64, .fieldA 96 (.t 63), none⟩,
     ⟨some 65, .load (.t 64), none⟩,
     ⟨some 66, .val (.t 0), none⟩,
     ⟨some 67, .nilCheck (.t 66), none⟩,
     ⟨some 68, .fieldA 97 (.t 67), none⟩,
     ⟨some 69, .load (.t 68), none⟩,
     ⟨some 10, .val (.t 65), none⟩,
     ⟨some 11, .val (.t 69), none⟩] [([], []), ([0], [0]), ([1], [1]), ([2], [2]), ([], []), ([4], [4]), ([5], [5]), ([6], [6]), ([3, 0, 1, 2, 3], [3]), ([7, 8, 0, 1, 2, 3, 4, 5, 6, 7, 8], [7])])
    (.seq (.seq (.ops 13 false [
       ⟨some 70, .val (.t 0), none⟩,
       ⟨some 71, .call 176 [(.t 70)], none⟩] [])
      (.cond (.t 71) (.seq (.ops 14 false [
         ⟨some 72, .val (.t 0), none⟩,
         ⟨some 73, .nilCheck (.t 72), none⟩,
         ⟨some 74, .fieldA 32 (.t 73), none⟩,
         ⟨some 75, .loadN 32 (.t 74), none⟩,
         ⟨some 76, .val (.t 3), none⟩,
         ⟨some 77, .call 177 [(.t 75), (.t 76)], none⟩] [])
        (.cond (.t 77) (.ops 15 false [
          ⟨some 78, .val (.t 0), none⟩,
          ⟨some 11, .val (.t 78), none⟩] [])
         (.ops 16 false [
          ⟨some 79, .val (.t 0), none⟩,
          ⟨some 10, .val (.t 79), none⟩] [])))
       (.skip)))
     (.seq (.seq (.ops 17 false [
        ⟨some 80, .loadN 32 (.t 5), none⟩,
        ⟨some 81, .val (.t 3), none⟩,
        ⟨some 82, .call 177 [(.t 80), (.t 81)], none⟩] [])
       (.cond (.t 82) (.ops 18 false [
         ⟨some 83, .val (.t 11), none⟩,
         ⟨some 84, .loadN 32 (.t 5), none⟩,
         ⟨some 85, .loadN 32 (.t 6), none⟩,
         ⟨some 86, .val (.t 3), none⟩,
         ⟨some 87, .bin .add (.t 86) (.c (.int .i64 1)), none⟩,
         ⟨some 88, .call 167 [(.t 83), (.t 84), (.t 85), (.t 87)], none⟩,
         ⟨some 11, .val (.t 88), none⟩] [])
        (.ops 19 false [
         ⟨some 89, .val (.t 10), none⟩,
         ⟨some 90, .loadN 32 (.t 5), none⟩,
         ⟨some 91, .loadN 32 (.t 6), none⟩,
         ⟨some 92, .val (.t 3), none⟩,
         ⟨some 93, .bin .add (.t 92) (.c (.int .i64 1)), none⟩,
         ⟨some 94, .call 167 [(.t 89), (.t 90), (.t 91), (.t 93)], none⟩,
         ⟨some 10, .val (.t 94), none⟩] [])))
      (.seq (.ops 20 false [
        ⟨some 95, .val (.t 10), none⟩,
        ⟨some 96, .val (.t 11), none⟩,
        ⟨some 97, .call 179 [(.t 95), (.t 96)], none⟩,
        ⟨some 8, .val (.t 97), none⟩] [])
       (.ret)))))))
def rs167 : List RR := [.tmp 8]
theorem fun167 : FunR Tryd.prog 167 rc167 rs167 98 := ⟨Tryd.f167, Tryd.func167, by kernel_rfl, by kernel_rfl, by kernel_rfl⟩
/-- causeway/digest.begin -/
def rc171 : RC :=
 .seq (.ops 0 false [
  ⟨some 0, .alloc 242 (List.replicate 8 (.int .u32 0)), none⟩] [])
 (.seq (.ops 1 false [
   ⟨some 1, .build (List.replicate 8 (.int .u32 0)) [(0, 1, (.c (.int .u32 1779033703))), (1, 1, (.c (.int .u32 3144134277))), (2, 1, (.c (.int .u32 1013904242))), (3, 1, (.c (.int .u32 2773480762))), (4, 1, (.c (.int .u32 1359893119))), (5, 1, (.c (.int .u32 2600822924))), (6, 1, (.c (.int .u32 528734635))), (7, 1, (.c (.int .u32 1541459225)))], none⟩,
   ⟨none, .store 8 (.t 0) (.t 1), none⟩] [])
  (.ret))
def rs171 : List RR := [.cell 0 (some 8)]
theorem fun171 : FunR Tryd.prog 171 rc171 rs171 2 := ⟨Tryd.f171, Tryd.func171, by kernel_rfl, by kernel_rfl, by kernel_rfl⟩
/-- (causeway/digest.state).take -/
def rc172 : RC :=
 .seq (.ops 0 false [
  ⟨some 2, .box 242 (.t 0), none⟩,
  ⟨some 3, .box 241 (.t 1), none⟩,
  ⟨some 4, .alloc 242 (List.replicate 8 (.int .u32 0)), none⟩] [])
 (.seq (.ops 1 false [
   ⟨some 20, .loadN 64 (.t 3), none⟩,
   ⟨some 21, .call 181 [(.t 20)], none⟩,
   ⟨some 5, .alloc 232 (List.replicate 64 (.int .u32 0)), none⟩,
   ⟨none, .store 64 (.t 5) (.t 21), none⟩] [])
  (.seq (.ops 2 true [
    ⟨some 22, .indexA 8 1 (.t 2) (.c (.int .i64 0)), none⟩,
    ⟨some 23, .load (.t 22), none⟩,
    ⟨some 24, .indexA 8 1 (.t 2) (.c (.int .i64 1)), none⟩,
    ⟨some 25, .load (.t 24), none⟩,
    ⟨some 26, .indexA 8 1 (.t 2) (.c (.int .i64 2)), none⟩,
    ⟨some 27, .load (.t 26), none⟩,
    ⟨some 28, .indexA 8 1 (.t 2) (.c (.int .i64 3)), none⟩,
    ⟨some 29, .load (.t 28), none⟩,
    ⟨some 30, .indexA 8 1 (.t 2) (.c (.int .i64 4)), none⟩,
    ⟨some 31, .load (.t 30), none⟩,
    ⟨some 32, .indexA 8 1 (.t 2) (.c (.int .i64 5)), none⟩,
    ⟨some 33, .load (.t 32), none⟩,
    ⟨some 34, .indexA 8 1 (.t 2) (.c (.int .i64 6)), none⟩,
    ⟨some 35, .load (.t 34), none⟩,
    ⟨some 36, .indexA 8 1 (.t 2) (.c (.int .i64 7)), none⟩,
    ⟨some 37, .load (.t 36), none⟩,
    ⟨some 6, .val (.t 23), none⟩,
    ⟨some 7, .val (.t 25), none⟩,
    ⟨some 8, .val (.t 27), none⟩,
    ⟨some 9, .val (.t 29), none⟩,
    ⟨some 10, .val (.t 31), none⟩,
    ⟨some 11, .val (.t 33), none⟩,
    ⟨some 12, .val (.t 35), none⟩,
    ⟨some 13, .val (.t 37), none⟩] [([], []), ([0], [0]), ([], []), ([2], [2]), ([], []), ([4], [4]), ([], []), ([6], [6]), ([], []), ([8], [8]), ([], []), ([10], [10]), ([], []), ([12], [12]), ([], []), ([14], [14]), ([1, 0, 1], [1]), ([3, 16, 0, 1, 2, 3, 16], [3]), ([5, 17, 0, 1, 2, 3, 4, 5, 16, 17], [5]), ([7, 18, 0, 1, 2, 3, 4, 5, 6, 7, 16, 17, 18], [7]), ([9, 19, 0, 1, 2, 3, 4, 5, 6, 7, 8, 9, 16, 17, 18, 19], [9]), ([11, 20, 0, 1, 2, 3, 4, 5, 6, 7, 8, 9, 10, 11, 16, 17, 18, 19, 20], [11]), ([13, 21, 0, 1, 2, 3, 4, 5, 6, 7, 8, 9, 10, 11, 12, 13, 16, 17, 18, 19, 20, 21], [13]), ([15, 22, 0, 1, 2, 3, 4, 5, 6, 7, 8, 9, 10, 11, 12, 13, 14, 15, 16, 17, 18, 19, 20, 21, 22], [15])])
   (.seq (.seq (.ops 3 false [
      ⟨some 38, .loadN 64 (.c (.pointer (some ⟨4, 0, none⟩))), none⟩,
      ⟨some 39, .val (.c (.int .i64 0)), none⟩] [])
     (.block 0 (.loop (.seq (.ops 4 false [
         ⟨some 40, .bin .lss (.t 39) (.c (.int .i64 64)), none⟩] [])
        (.seq (.cond (.t 40) (.skip)
          (.exit 0))
         (.seq (.block 1 (.seq (.ops 5 false [
             ⟨some 41, .val (.t 39), none⟩,
             ⟨some 42, .idx 232 (.t 38) (.t 39), none⟩,
             ⟨some 14, .val (.t 41), none⟩,
             ⟨some 15, .val (.t 42), none⟩] [])
            (.seq (.ops 6 false [
              ⟨some 43, .val (.t 10), none⟩,
              ⟨some 44, .call 182 [(.t 43), (.c (.int .i64 (-6)))], none⟩,
              ⟨some 45, .val (.t 10), none⟩,
              ⟨some 46, .call 182 [(.t 45), (.c (.int .i64 (-11)))], none⟩,
              ⟨some 47, .bin .xor (.t 44) (.t 46), none⟩,
              ⟨some 48, .val (.t 10), none⟩,
              ⟨some 49, .call 182 [(.t 48), (.c (.int .i64 (-25)))], none⟩,
              ⟨some 50, .bin .xor (.t 47) (.t 49), none⟩,
              ⟨some 16, .val (.t 50), none⟩] [])
             (.seq (.ops 7 false [
               ⟨some 51, .val (.t 16), none⟩,
               ⟨some 52, .val (.t 13), none⟩,
               ⟨some 53, .val (.t 10), none⟩,
               ⟨some 54, .val (.t 11), none⟩,
               ⟨some 55, .bin .and (.t 53) (.t 54), none⟩,
               ⟨some 56, .val (.t 10), none⟩,
               ⟨some 57, .bnot (.t 56), none⟩,
               ⟨some 58, .val (.t 12), none⟩,
               ⟨some 59, .bin .and (.t 57) (.t 58), none⟩,
               ⟨some 60, .bin .xor (.t 55) (.t 59), none⟩,
               ⟨some 61, .bin .add (.t 52) (.t 60), none⟩,
               ⟨some 62, .val (.t 15), none⟩,
               ⟨some 63, .bin .add (.t 61) (.t 62), none⟩,
               ⟨some 64, .val (.t 14), none⟩,
               ⟨some 65, .indexA 64 1 (.t 5) (.t 64), none⟩,
               ⟨some 66, .load (.t 65), none⟩,
               ⟨some 67, .bin .add (.t 63) (.t 66), none⟩,
               ⟨some 68, .bin .add (.t 51) (.t 67), none⟩,
               ⟨some 16, .val (.t 68), none⟩] [])
              (.seq (.ops 8 false [
                ⟨some 69, .val (.t 6), none⟩,
                ⟨some 70, .call 182 [(.t 69), (.c (.int .i64 (-2)))], none⟩,
                ⟨some 71, .val (.t 6), none⟩,
                ⟨some 72, .call 182 [(.t 71), (.c (.int .i64 (-13)))], none⟩,
                ⟨some 73, .bin .xor (.t 70) (.t 72), none⟩,
                ⟨some 74, .val (.t 6), none⟩,
                ⟨some 75, .call 182 [(.t 74), (.c (.int .i64 (-22)))], none⟩,
                ⟨some 76, .bin .xor (.t 73) (.t 75), none⟩,
                ⟨some 17, .val (.t 76), none⟩] [])
               (.seq (.ops 9 false [
                 ⟨some 77, .val (.t 17), none⟩,
                 ⟨some 78, .val (.t 6), none⟩,
                 ⟨some 79, .val (.t 7), none⟩,
                 ⟨some 80, .bin .and (.t 78) (.t 79), none⟩,
                 ⟨some 81, .val (.t 6), none⟩,
                 ⟨some 82, .val (.t 8), none⟩,
                 ⟨some 83, .bin .and (.t 81) (.t 82), none⟩,
                 ⟨some 84, .bin .xor (.t 80) (.t 83), none⟩,
                 ⟨some 85, .val (.t 7), none⟩,
                 ⟨some 86, .val (.t 8), none⟩,
                 ⟨some 87, .bin .and (.t 85) (.t 86), none⟩,
                 ⟨some 88, .bin .xor (.t 84) (.t 87), none⟩,
                 ⟨some 89, .bin .add (.t 77) (.t 88), none⟩,
                 ⟨some 17, .val (.t 89), none⟩] [])
                (.ops 10 false [
                 ⟨some 90, .val (.t 16), none⟩,
                 ⟨some 91, .val (.t 17), none⟩,
                 ⟨some 92, .bin .add (.t 90) (.t 91), none⟩,
                 ⟨some 93, .val (.t 6), none⟩,
                 ⟨some 94, .val (.t 7), none⟩,
                 ⟨some 95, .val (.t 8), none⟩,
                 ⟨some 96, .val (.t 9), none⟩,
                 ⟨some 97, .val (.t 16), none⟩,
                 ⟨some 98, .bin .add (.t 96) (.t 97), none⟩,
                 ⟨some 99, .val (.t 10), none⟩,
                 ⟨some 100, .val (.t 11), none⟩,
                 ⟨some 101, .val (.t 12), none⟩,
                 ⟨some 6, .val (.t 92), none⟩,
                 ⟨some 7, .val (.t 93), none⟩,
                 ⟨some 8, .val (.t 94), none⟩,
                 ⟨some 9, .val (.t 95), none⟩,
                 ⟨some 10, .val (.t 98), none⟩,
                 ⟨some 11, .val (.t 99), none⟩,
                 ⟨some 12, .val (.t 100), none⟩,
                 ⟨some 13, .val (.t 101), none⟩] [])))))))
          (.ops 11 false [
           ⟨some 102, .bin .add (.t 39) (.c (.int .i64 1)), none⟩,
           ⟨some 39, .val (.t 102), none⟩] [])))))))
    (.seq (.seq (.ops 12 false [
       ⟨some 103, .val (.t 6), none⟩,
       ⟨some 104, .val (.t 7), none⟩,
       ⟨some 105, .val (.t 8), none⟩,
       ⟨some 106, .val (.t 9), none⟩,
       ⟨some 107, .val (.t 10), none⟩,
       ⟨some 108, .val (.t 11), none⟩,
       ⟨some 109, .val (.t 12), none⟩,
       ⟨some 110, .val (.t 13), none⟩,
       ⟨some 111, .build (List.replicate 8 (.int .u32 0)) [(0, 1, (.t 103)), (1, 1, (.t 104)), (2, 1, (.t 105)), (3, 1, (.t 106)), (4, 1, (.t 107)), (5, 1, (.t 108)), (6, 1, (.t 109)), (7, 1, (.t 110))], none⟩,
       ⟨some 112, .val (.c (.int .i64 0)), none⟩] [])
      (.block 2 (.loop (.seq (.ops 13 false [
          ⟨some 113, .bin .lss (.t 112) (.c (.int .i64 8)), none⟩] [])
         (.seq (.cond (.t 113) (.skip)
           (.exit 2))
          (.seq (.block 3 (.seq (.ops 14 false [
              ⟨some 114, .val (.t 112), none⟩,
              ⟨some 115, .idx 216 (.t 111) (.t 112), none⟩,
              ⟨some 18, .val (.t 114), none⟩,
              ⟨some 19, .val (.t 115), none⟩] [])
             (.ops 15 false [
              ⟨some 116, .val (.t 18), none⟩,
              ⟨some 117, .indexA 8 1 (.t 2) (.t 116), none⟩,
              ⟨some 118, .load (.t 117), none⟩,
              ⟨some 119, .val (.t 19), none⟩,
              ⟨some 120, .bin .add (.t 118) (.t 119), none⟩,
              ⟨some 121, .indexA 8 1 (.t 2) (.t 116), none⟩,
              ⟨none, .store 1 (.t 121) (.t 120), none⟩] [])))
           (.ops 16 false [
            ⟨some 122, .bin .add (.t 112) (.c (.int .i64 1)), none⟩,
            ⟨some 112, .val (.t 122), none⟩] [])))))))
     (.seq (.ops 17 false [
       ⟨some 123, .loadN 8 (.t 2), none⟩,
       ⟨none, .store 8 (.t 4) (.t 123), none⟩] [])
      (.ret))))))
def rs172 : List RR := [.cell 4 (some 8)]
theorem fun172 : FunR Tryd.prog 172 rc172 rs172 124 := ⟨Tryd.f172, Tryd.func172, by kernel_rfl, by kernel_rfl, by kernel_rfl⟩
/-- (*causeway/digest.Hasher).end -/
def rc173 : RC :=
 .seq (.ops 0 false [
  ⟨some 6, .alloc 25 (List.replicate 32 (.int .u8 0)), none⟩] [])
 (.seq (.ops 1 true [
   ⟨some 14, .val (.t 0), none⟩,
   ⟨some 15, .nilCheck (.t 14), none⟩,
   ⟨some 16, .fieldA 0 (.t 15), none⟩,
   ⟨some 17, .loadN 8 (.t 16), none⟩,
   ⟨some 18, .val (.t 0), none⟩,
   ⟨some 19, .nilCheck (.t 18), none⟩,
   ⟨some 20, .fieldA 8 (.t 19), none⟩,
   ⟨some 21, .loadN 64 (.t 20), none⟩,
   ⟨some 7, .alloc 242 (List.replicate 8 (.int .u32 0)), none⟩,
   ⟨some 8, .alloc 241 (List.replicate 64 (.int .u8 0)), none⟩,
   ⟨none, .store 8 (.t 7) (.t 17), none⟩,
   ⟨none, .store 64 (.t 8) (.t 21), none⟩] [([], []), ([0], [0]), ([1], [1]), ([2], [2]), ([], []), ([4], [4]), ([5], [5]), ([6], [6]), ([], []), ([], []), ([8, 3, 0, 1, 2, 3, 8, 9], [3, 8]), ([9, 7, 10, 0, 1, 2, 3, 4, 5, 6, 7, 8, 9, 10], [7, 9])])
  (.seq (.ops 2 false [
    ⟨some 22, .val (.t 0), none⟩,
    ⟨some 23, .nilCheck (.t 22), none⟩,
    ⟨some 24, .fieldA 72 (.t 23), none⟩,
    ⟨some 25, .load (.t 24), none⟩,
    ⟨some 26, .bin .rem (.t 25) (.c (.int .i64 64)), none⟩,
    ⟨some 9, .val (.t 26), none⟩] [])
   (.seq (.ops 3 false [
     ⟨some 27, .val (.t 9), none⟩,
     ⟨some 28, .sliceA 64 1 (.t 8) (some (.t 27)) none, none⟩,
     ⟨none, .blt .clear #[79] 0 [(.t 28)], none⟩] [])
    (.seq (.ops 4 true [
      ⟨some 29, .val (.t 9), none⟩,
      ⟨some 30, .val (.t 1), none⟩,
      ⟨some 31, .val (.t 2), none⟩,
      ⟨some 32, .bin .shr (.c (.int .u8 255)) (.t 31), none⟩,
      ⟨some 33, .bin .andNot (.t 30) (.t 32), none⟩,
      ⟨some 34, .val (.t 2), none⟩,
      ⟨some 35, .bin .shr (.c (.int .u8 128)) (.t 34), none⟩,
      ⟨some 36, .bin .or (.t 33) (.t 35), none⟩,
      ⟨some 37, .indexA 64 1 (.t 8) (.t 29), none⟩,
      ⟨none, .store 1 (.t 37) (.t 36), none⟩] [([], []), ([], []), ([], []), ([2], [2]), ([1, 3], [1, 3]), ([], []), ([5], [5]), ([4, 6], [4, 6]), ([0, 0, 1, 2, 3, 4, 5, 6, 7], [0]), ([8, 7, 0, 1, 2, 3, 4, 5, 6, 7], [7, 8])])
     (.seq (.seq (.ops 5 false [
        ⟨some 38, .val (.t 9), none⟩,
        ⟨some 39, .bin .geq (.t 38) (.c (.int .i64 56)), none⟩] [])
       (.cond (.t 39) (.ops 6 false [
         ⟨some 40, .loadN 8 (.t 7), none⟩,
         ⟨some 41, .loadN 64 (.t 8), none⟩,
         ⟨some 42, .call 172 [(.t 40), (.t 41)], none⟩,
         ⟨some 43, .build (List.replicate 64 (.int .u8 0)) [], none⟩,
         ⟨none, .store 8 (.t 7) (.t 42), none⟩,
         ⟨none, .store 64 (.t 8) (.t 43), none⟩] [])
        (.skip)))
      (.seq (.ops 7 false [
        ⟨some 44, .val (.t 0), none⟩,
        ⟨some 45, .nilCheck (.t 44), none⟩,
        ⟨some 46, .fieldA 72 (.t 45), none⟩,
        ⟨some 47, .load (.t 46), none⟩,
        ⟨some 48, .conv .u64 (.t 47), none⟩,
        ⟨some 49, .bin .mul (.t 48) (.c (.int .u64 8)), none⟩,
        ⟨some 50, .val (.t 2), none⟩,
        ⟨some 51, .conv .u64 (.t 50), none⟩,
        ⟨some 52, .bin .add (.t 49) (.t 51), none⟩,
        ⟨some 10, .val (.t 52), none⟩] [])
       (.seq (.seq (.ops 8 false [
          ⟨some 53, .val (.c (.int .i64 0)), none⟩] [])
         (.block 0 (.loop (.seq (.ops 9 false [
             ⟨some 54, .bin .lss (.t 53) (.c (.int .i64 8)), none⟩] [])
            (.seq (.cond (.t 54) (.skip)
              (.exit 0))
             (.seq (.block 1 (.seq (.ops 10 false [
                 ⟨some 55, .val (.t 53), none⟩,
                 ⟨some 11, .val (.t 55), none⟩] [])
                (.ops 11 false [
                 ⟨some 56, .val (.t 11), none⟩,
                 ⟨some 57, .bin .sub (.c (.int .i64 63)) (.t 56), none⟩,
                 ⟨some 58, .val (.t 10), none⟩,
                 ⟨some 59, .val (.t 11), none⟩,
                 ⟨some 60, .bin .mul (.c (.int .i64 8)) (.t 59), none⟩,
                 ⟨some 61, .bin .shr (.t 58) (.t 60), none⟩,
                 ⟨some 62, .conv .u8 (.t 61), none⟩,
                 ⟨some 63, .indexA 64 1 (.t 8) (.t 57), none⟩,
                 ⟨none, .store 1 (.t 63) (.t 62), none⟩] [])))
              (.ops 12 false [
               ⟨some 64, .bin .add (.t 53) (.c (.int .i64 1)), none⟩,
               ⟨some 53, .val (.t 64), none⟩] [])))))))
        (.seq (.ops 13 false [
          ⟨some 65, .loadN 8 (.t 7), none⟩,
          ⟨some 66, .loadN 64 (.t 8), none⟩,
          ⟨some 67, .call 172 [(.t 65), (.t 66)], none⟩,
          ⟨none, .store 8 (.t 7) (.t 67), none⟩] [])
         (.seq (.ops 14 false [
           ⟨some 12, .alloc 25 (List.replicate 32 (.int .u8 0)), none⟩] [])
          (.seq (.seq (.ops 15 false [
             ⟨some 68, .val (.c (.int .i64 0)), none⟩] [])
            (.block 2 (.loop (.seq (.ops 16 false [
                ⟨some 69, .bin .lss (.t 68) (.c (.int .i64 32)), none⟩] [])
               (.seq (.cond (.t 69) (.skip)
                 (.exit 2))
                (.seq (.block 3 (.seq (.ops 17 false [
                    ⟨some 70, .val (.t 68), none⟩,
                    ⟨some 13, .val (.t 70), none⟩] [])
                   (.ops 18 false [
                    ⟨some 71, .val (.t 13), none⟩,
                    ⟨some 72, .val (.t 13), none⟩,
                    ⟨some 73, .bin .quo (.t 72) (.c (.int .i64 4)), none⟩,
                    ⟨some 74, .indexA 8 1 (.t 7) (.t 73), none⟩,
                    ⟨some 75, .load (.t 74), none⟩,
                    ⟨some 76, .val (.t 13), none⟩,
                    ⟨some 77, .bin .rem (.t 76) (.c (.int .i64 4)), none⟩,
                    ⟨some 78, .bin .mul (.c (.int .i64 8)) (.t 77), none⟩,
                    ⟨some 79, .bin .sub (.c (.int .i64 24)) (.t 78), none⟩,
                    ⟨some 80, .bin .shr (.t 75) (.t 79), none⟩,
                    ⟨some 81, .conv .u8 (.t 80), none⟩,
                    ⟨some 82, .indexA 32 1 (.t 12) (.t 71), none⟩,
                    ⟨none, .store 1 (.t 82) (.t 81), none⟩] [])))
                 (.ops 19 false [
                  ⟨some 83, .bin .add (.t 68) (.c (.int .i64 1)), none⟩,
                  ⟨some 68, .val (.t 83), none⟩] [])))))))
           (.seq (.ops 20 false [
             ⟨some 84, .loadN 32 (.t 12), none⟩,
             ⟨none, .store 32 (.t 6) (.t 84), none⟩] [])
            (.ret))))))))))))
def rs173 : List RR := [.cell 6 (some 32)]
theorem fun173 : FunR Tryd.prog 173 rc173 rs173 85 := ⟨Tryd.f173, Tryd.func173, by kernel_rfl, by kernel_rfl, by kernel_rfl⟩
/-- cmp.isNaN[string] -/
def rc174 : RC :=
 .seq (.ops 0 false [
  ⟨some 2, .val (.c (.bool false)), none⟩] [])
 (.seq (.ops 1 false [
   ⟨some 3, .val (.t 0), none⟩,
   ⟨some 4, .val (.t 0), none⟩,
   ⟨some 5, .eqp .str true (.t 3) (.t 4), none⟩,
   ⟨some 2, .val (.t 5), none⟩] [])
  (.ret))
def rs174 : List RR := [.tmp 2]
theorem fun174 : FunR Tryd.prog 174 rc174 rs174 6 := ⟨Tryd.f174, Tryd.func174, by kernel_rfl, by kernel_rfl, by kernel_rfl⟩
/-- (*causeway/sparse.node).single -/
def rc176 : RC :=
 .seq (.ops 0 false [
  ⟨some 2, .val (.c (.bool false)), none⟩] [])
 (.seq (.ops 1 false [
   ⟨some 3, .val (.t 0), none⟩,
   ⟨some 4, .eqp .ptr true (.t 3) (.c (.pointer none)), none⟩,
   ⟨some 5, .val (.t 4), none⟩,
   ⟨some 6, .val (.t 0), some (5, true)⟩,
   ⟨some 7, .nilCheck (.t 6), some (5, true)⟩,
   ⟨some 8, .fieldA 96 (.t 7), some (5, true)⟩,
   ⟨some 9, .load (.t 8), some (5, true)⟩,
   ⟨some 10, .eqp .ptr false (.t 9) (.c (.pointer none)), some (5, true)⟩,
   ⟨some 11, .pick (.t 5) (.t 10) (.c (.bool false)), none⟩,
   ⟨some 12, .val (.t 11), none⟩,
   ⟨some 13, .val (.t 0), some (12, true)⟩,
   ⟨some 14, .nilCheck (.t 13), some (12, true)⟩,
   ⟨some 15, .fieldA 97 (.t 14), some (12, true)⟩,
   ⟨some 16, .load (.t 15), some (12, true)⟩,
   ⟨some 17, .eqp .ptr false (.t 16) (.c (.pointer none)), some (12, true)⟩,
   ⟨some 18, .pick (.t 12) (.t 17) (.c (.bool false)), none⟩,
   ⟨some 19, .val (.t 18), none⟩,
   ⟨some 20, .val (.t 0), some (19, true)⟩,
   ⟨some 21, .nilCheck (.t 20), some (19, true)⟩,
   ⟨some 22, .fieldA 98 (.t 21), some (19, true)⟩,
   ⟨some 23, .load (.t 22), some (19, true)⟩,
   ⟨some 24, .not (.t 23), some (19, true)⟩,
   ⟨some 25, .pick (.t 19) (.t 24) (.c (.bool false)), none⟩,
   ⟨some 2, .val (.t 25), none⟩] [])
  (.ret))
def rs176 : List RR := [.tmp 2]
theorem fun176 : FunR Tryd.prog 176 rc176 rs176 26 := ⟨Tryd.f176, Tryd.func176, by kernel_rfl, by kernel_rfl, by kernel_rfl⟩
/-- causeway/sparse.bit -/
def rc177 : RC :=
 .seq (.ops 0 false [
  ⟨some 2, .box 25 (.t 0), none⟩,
  ⟨some 4, .val (.c (.bool false)), none⟩] [])
 (.seq (.ops 1 false [
   ⟨some 5, .val (.t 1), none⟩,
   ⟨some 6, .bin .quo (.t 5) (.c (.int .i64 8)), none⟩,
   ⟨some 7, .indexA 32 1 (.t 2) (.t 6), none⟩,
   ⟨some 8, .load (.t 7), none⟩,
   ⟨some 9, .val (.t 1), none⟩,
   ⟨some 10, .bin .rem (.t 9) (.c (.int .i64 8)), none⟩,
   ⟨some 11, .bin .sub (.c (.int .i64 7)) (.t 10), none⟩,
   ⟨some 12, .bin .shr (.t 8) (.t 11), none⟩,
   ⟨some 13, .bin .and (.t 12) (.c (.int .u8 1)), none⟩,
   ⟨some 14, .bin .eql (.t 13) (.c (.int .u8 1)), none⟩,
   ⟨some 4, .val (.t 14), none⟩] [])
  (.ret))
def rs177 : List RR := [.tmp 4]
theorem fun177 : FunR Tryd.prog 177 rc177 rs177 15 := ⟨Tryd.f177, Tryd.func177, by kernel_rfl, by kernel_rfl, by kernel_rfl⟩
/-- causeway/sparse.leaf -/
def rc178 : RC :=
 .seq (.ops 0 false [
  ⟨some 2, .box 25 (.t 0), none⟩,
  ⟨some 3, .box 25 (.t 1), none⟩,
  ⟨some 4, .val (.c (.pointer none)), none⟩] [])
 (.seq (.ops 1 true [
   ⟨some 5, .buildS 5 1 [(.int .u8 0)] [(0, 1, (.c (.int .u8 2)))], none⟩,
   ⟨some 6, .sliceA 32 1 (.t 2) none none, none⟩,
   ⟨some 7, .sliceA 32 1 (.t 3) none none, none⟩,
   ⟨some 8, .buildS 79 3 [(.slice none 0 0), (.slice none 0 0), (.slice none 0 0)] [(0, 1, (.t 5)), (1, 1, (.t 6)), (2, 1, (.t 7))], none⟩,
   ⟨some 9, .call 135 [(.t 8)], none⟩,
   ⟨some 10, .loadN 32 (.t 2), none⟩,
   ⟨some 11, .loadN 32 (.t 3), none⟩,
   ⟨some 12, .build [(.int .u8 0), (.int .u8 0), (.int .u8 0), (.int .u8 0), (.int .u8 0), (.int .u8 0), (.int .u8 0), (.int .u8 0), (.int .u8 0), (.int .u8 0), (.int .u8 0), (.int .u8 0), (.int .u8 0), (.int .u8 0), (.int .u8 0), (.int .u8 0), (.int .u8 0), (.int .u8 0), (.int .u8 0), (.int .u8 0), (.int .u8 0), (.int .u8 0), (.int .u8 0), (.int .u8 0), (.int .u8 0), (.int .u8 0), (.int .u8 0), (.int .u8 0), (.int .u8 0), (.int .u8 0), (.int .u8 0), (.int .u8 0), (.int .u8 0), (.int .u8 0), (.int .u8 0), (.int .u8 0), (.int .u8 0), (.int .u8 0), (.int .u8 0), (.int .u8 0), (.int .u8 0), (.int .u8 0), (.int .u8 0), (.int .u8 0), (.int .u8 0), (.int .u8 0), (.int .u8 0), (.int .u8 0), (.int .u8 0), (.int .u8 0), (.int .u8 0), (.int .u8 0), (.int .u8 0), (.int .u8 0), (.int .u8 0), (.int .u8 0), (.int .u8 0), (.int .u8 0), (.int .u8 0), (.int .u8 0), (.int .u8 0), (.int .u8 0), (.int .u8 0), (.int .u8 0), (.int .u8 0), (.int .u8 0), (.int .u8 0), (.int .u8 0), (.int .u8 0), (.int .u8 0), (.int .u8 0), (.int .u8 0), (.int .u8 0), (.int .u8 0), (.int .u8 0), (.int .u8 0), (.int .u8 0), (.int .u8 0), (.int .u8 0), (.int .u8 0), (.int .u8 0), (.int .u8 0), (.int .u8 0), (.int .u8 0), (.int .u8 0), (.int .u8 0), (.int .u8 0), (.int .u8 0), (.int .u8 0), (.int .u8 0), (.int .u8 0), (.int .u8 0), (.int .u8 0), (.int .u8 0), (.int .u8 0), (.int .u8 0), (.pointer none), (.pointer none), (.bool false)] [(0, 32, (.t 9)), (32, 32, (.t 10)), (64, 32, (.t 11))], none⟩,
   ⟨some 13, .box 249 (.t 12), none⟩,
   ⟨some 4, .val (.t 13), none⟩] [([], []), ([], []), ([], []), ([0, 1, 2], [0, 1, 2]), ([3], [3]), ([], []), ([], []), ([4, 5, 6], [4, 5, 6]), ([7], [7]), ([8, 4, 0, 1, 2, 3, 4, 5, 6, 7, 8], [8])])
  (.ret))
def rs178 : List RR := [.tmp 4]
theorem fun178 : FunR Tryd.prog 178 rc178 rs178 14 := ⟨Tryd.f178, Tryd.func178, by kernel_rfl, by kernel_rfl, by kernel_rfl⟩
/-- causeway/sparse.joined -/
def rc179 : RC :=
 .seq (.ops 0 false [
  ⟨some 4, .val (.c (.pointer none)), none⟩] [])
 (.seq (.block 0 (.seq (.ops 1 false [
     ⟨some 8, .val (.t 0), none⟩,
     ⟨some 9, .eqp .ptr false (.t 8) (.c (.pointer none)), none⟩,
     ⟨some 10, .val (.t 9), none⟩,
     ⟨some 11, .val (.t 1), some (10, true)⟩,
     ⟨some 12, .eqp .ptr false (.t 11) (.c (.pointer none)), some (10, true)⟩,
     ⟨some 13, .val (.t 12), some (10, true)⟩,
     ⟨some 14, .val (.t 1), some (13, false)⟩,
     ⟨some 15, .call 176 [(.t 14)], some (13, false)⟩,
     ⟨some 16, .pick (.t 13) (.c (.bool true)) (.t 15), some (10, true)⟩,
     ⟨some 17, .pick (.t 10) (.t 16) (.c (.bool false)), none⟩,
     ⟨some 7, .val (.t 17), none⟩] [])
    (.cond (.t 7) (.seq (.ops 2 false [
       ⟨some 18, .val (.t 1), none⟩,
       ⟨some 4, .val (.t 18), none⟩] [])
      (.ret))
     (.seq (.ops 3 false [
       ⟨some 20, .val (.t 1), none⟩,
       ⟨some 21, .eqp .ptr false (.t 20) (.c (.pointer none)), none⟩,
       ⟨some 22, .val (.t 21), none⟩,
       ⟨some 23, .val (.t 0), some (22, true)⟩,
       ⟨some 24, .call 176 [(.t 23)], some (22, true)⟩,
       ⟨some 25, .pick (.t 22) (.t 24) (.c (.bool false)), none⟩,
       ⟨some 19, .val (.t 25), none⟩] [])
      (.cond (.t 19) (.seq (.ops 4 false [
         ⟨some 26, .val (.t 0), none⟩,
         ⟨some 4, .val (.t 26), none⟩] [])
        (.ret))
       (.skip))))))
  (.seq (.ops 5 false [
    ⟨some 27, .val (.t 0), none⟩,
    ⟨some 28, .call 184 [(.t 27)], none⟩,
    ⟨some 29, .val (.t 1), none⟩,
    ⟨some 30, .call 184 [(.t 29)], none⟩,
    ⟨some 5, .alloc 25 (List.replicate 32 (.int .u8 0)), none⟩,
    ⟨some 6, .alloc 25 (List.replicate 32 (.int .u8 0)), none⟩,
    ⟨none, .store 32 (.t 5) (.t 28), none⟩,
    ⟨none, .store 32 (.t 6) (.t 30), none⟩] [])
   (.seq (.ops 6 true [
     ⟨some 31, .buildS 5 1 [(.int .u8 0)] [(0, 1, (.c (.int .u8 3)))], none⟩,
     ⟨some 32, .sliceA 32 1 (.t 5) none none, none⟩,
     ⟨some 33, .sliceA 32 1 (.t 6) none none, none⟩,
     ⟨some 34, .buildS 79 3 [(.slice none 0 0), (.slice none 0 0), (.slice none 0 0)] [(0, 1, (.t 31)), (1, 1, (.t 32)), (2, 1, (.t 33))], none⟩,
     ⟨some 35, .call 135 [(.t 34)], none⟩,
     ⟨some 36, .val (.t 0), none⟩,
     ⟨some 37, .val (.t 1), none⟩,
     ⟨some 38, .build [(.int .u8 0), (.int .u8 0), (.int .u8 0), (.int .u8 0), (.int .u8 0), (.int .u8 0), (.int .u8 0), (.int .u8 0), (.int .u8 0), (.int .u8 0), (.int .u8 0), (.int .u8 0), (.int .u8 0), (.int .u8 0), (.int .u8 0), (.int .u8 0), (.int .u8 0), (.int .u8 0), (.int .u8 0), (.int .u8 0), (.int .u8 0), (.int .u8 0), (.int .u8 0), (.int .u8 0), (.int .u8 0), (.int .u8 0), (.int .u8 0), (.int .u8 0), (.int .u8 0), (.int .u8 0), (.int .u8 0), (.int .u8 0), (.int .u8 0), (.int .u8 0), (.int .u8 0), (.int .u8 0), (.int .u8 0), (.int .u8 0), (.int .u8 0), (.int .u8 0), (.int .u8 0), (.int .u8 0), (.int .u8 0), (.int .u8 0), (.int .u8 0), (.int .u8 0), (.int .u8 0), (.int .u8 0), (.int .u8 0), (.int .u8 0), (.int .u8 0), (.int .u8 0), (.int .u8 0), (.int .u8 0), (.int .u8 0), (.int .u8 0), (.int .u8 0), (.int .u8 0), (.int .u8 0), (.int .u8 0), (.int .u8 0), (.int .u8 0), (.int .u8 0), (.int .u8 0), (.int .u8 0), (.int .u8 0), (.int .u8 0), (.int .u8 0), (.int .u8 0), (.int .u8 0), (.int .u8 0), (.int .u8 0), (.int .u8 0), (.int .u8 0), (.int .u8 0), (.int .u8 0), (.int .u8 0), (.int .u8 0), (.int .u8 0), (.int .u8 0), (.int .u8 0), (.int .u8 0), (.int .u8 0), (.int .u8 0), (.int .u8 0), (.int .u8 0), (.int .u8 0), (.int .u8 0), (.int .u8 0), (.int .u8 0), (.int .u8 0), (.int .u8 0), (.int .u8 0), (.int .u8 0), (.int .u8 0), (.int .u8 0), (.pointer none), (.pointer none), (.bool false)] [(0, 32, (.t 35)), (96, 1, (.t 36)), (97, 1, (.t 37))], none⟩,
     ⟨some 39, .box 249 (.t 38), none⟩,
     ⟨some 4, .val (.t 39), none⟩] [([], []), ([], []), ([], []), ([0, 1, 2], [0, 1, 2]), ([3], [3]), ([], []), ([], []), ([4, 5, 6], [4, 5, 6]), ([7], [7]), ([8, 4, 0, 1, 2, 3, 4, 5, 6, 7, 8], [8])])
    (.ret))))
def rs179 : List RR := [.tmp 4]
theorem fun179 : FunR Tryd.prog 179 rc179 rs179 40 := ⟨Tryd.f179, Tryd.func179, by kernel_rfl, by kernel_rfl, by kernel_rfl⟩
/-- causeway/digest.words -/
def rc181 : RC :=
 .seq (.ops 0 false [
  ⟨some 1, .box 241 (.t 0), none⟩,
  ⟨some 2, .alloc 232 (List.replicate 64 (.int .u32 0)), none⟩] [])
 (.seq (.ops 1 false [
   ⟨some 3, .alloc 232 (List.replicate 64 (.int .u32 0)), none⟩] [])
  (.seq (.seq (.ops 2 false [
     ⟨some 8, .val (.c (.int .i64 0)), none⟩] [])
    (.block 0 (.loop (.seq (.ops 3 false [
        ⟨some 9, .bin .lss (.t 8) (.c (.int .i64 16)), none⟩] [])
       (.seq (.cond (.t 9) (.skip)
         (.exit 0))
        (.seq (.block 1 (.seq (.ops 4 false [
            ⟨some 10, .val (.t 8), none⟩,
            ⟨some 4, .val (.t 10), none⟩] [])
           (.ops 5 true [
            ⟨some 11, .val (.t 4), none⟩,
            ⟨some 12, .val (.t 4), none⟩,
            ⟨some 13, .bin .mul (.c (.int .i64 4)) (.t 12), none⟩,
            ⟨some 14, .indexA 64 1 (.t 1) (.t 13), none⟩,
            ⟨some 15, .load (.t 14), none⟩,
            ⟨some 16, .conv .u32 (.t 15), none⟩,
            ⟨some 17, .bin .shl (.t 16) (.c (.int .u64 24)), none⟩,
            ⟨some 18, .val (.t 4), none⟩,
            ⟨some 19, .bin .mul (.c (.int .i64 4)) (.t 18), none⟩,
            ⟨some 20, .bin .add (.t 19) (.c (.int .i64 1)), none⟩,
            ⟨some 21, .indexA 64 1 (.t 1) (.t 20), none⟩,
            ⟨some 22, .load (.t 21), none⟩,
            ⟨some 23, .conv .u32 (.t 22), none⟩,
            ⟨some 24, .bin .shl (.t 23) (.c (.int .u64 16)), none⟩,
            ⟨some 25, .bin .or (.t 17) (.t 24), none⟩,
            ⟨some 26, .val (.t 4), none⟩,
            ⟨some 27, .bin .mul (.c (.int .i64 4)) (.t 26), none⟩,
            ⟨some 28, .bin .add (.t 27) (.c (.int .i64 2)), none⟩,
            ⟨some 29, .indexA 64 1 (.t 1) (.t 28), none⟩,
            ⟨some 30, .load (.t 29), none⟩,
            ⟨some 31, .conv .u32 (.t 30), none⟩,
            ⟨some 32, .bin .shl (.t 31) (.c (.int .u64 8)), none⟩,
            ⟨some 33, .bin .or (.t 25) (.t 32), none⟩,
            ⟨some 34, .val (.t 4), none⟩,
            ⟨some 35, .bin .mul (.c (.int .i64 4)) (.t 34), none⟩,
            ⟨some 36, .bin .add (.t 35) (.c (.int .i64 3)), none⟩,
            ⟨some 37, .indexA 64 1 (.t 1) (.t 36), none⟩,
            ⟨some 38, .load (.t 37), none⟩,
            ⟨some 39, .conv .u32 (.t 38), none⟩,
            ⟨some 40, .bin .or (.t 33) (.t 39), none⟩,
            ⟨some 41, .indexA 64 1 (.t 3) (.t 11), none⟩,
            ⟨none, .store 1 (.t 41) (.t 40), none⟩] [([], []), ([], []), ([1], [1]), ([2], [2]), ([3], [3]), ([4], [4]), ([5], [5]), ([], []), ([7], [7]), ([8], [8]), ([9], [9]), ([10], [10]), ([11], [11]), ([12], [12]), ([6, 13], [6, 13]), ([], []), ([15], [15]), ([16], [16]), ([17], [17]), ([18], [18]), ([19], [19]), ([20], [20]), ([14, 21], [14, 21]), ([], []), ([23], [23]), ([24], [24]), ([25], [25]), ([26], [26]), ([27], [27]), ([22, 28], [22, 28]), ([0, 0, 1, 2, 3, 4, 5, 6, 7, 8, 9, 10, 11, 12, 13, 14, 15, 16, 17, 18, 19, 20, 21, 22, 23, 24, 25, 26, 27, 28, 29], [0]), ([30, 29, 0, 1, 2, 3, 4, 5, 6, 7, 8, 9, 10, 11, 12, 13, 14, 15, 16, 17, 18, 19, 20, 21, 22, 23, 24, 25, 26, 27, 28, 29], [29, 30])])))
         (.ops 6 false [
          ⟨some 42, .bin .add (.t 8) (.c (.int .i64 1)), none⟩,
          ⟨some 8, .val (.t 42), none⟩] [])))))))
   (.seq (.seq (.ops 7 false [
      ⟨some 5, .val (.c (.int .i64 16)), none⟩] [])
     (.block 2 (.loop (.seq (.seq (.ops 8 false [
          ⟨some 43, .val (.t 5), none⟩,
          ⟨some 44, .bin .lss (.t 43) (.c (.int .i64 64)), none⟩] [])
         (.cond (.t 44) (.skip)
          (.exit 2)))
        (.seq (.block 3 (.seq (.ops 10 true [
            ⟨some 47, .val (.t 5), none⟩,
            ⟨some 48, .bin .sub (.t 47) (.c (.int .i64 2)), none⟩,
            ⟨some 49, .indexA 64 1 (.t 3) (.t 48), none⟩,
            ⟨some 50, .load (.t 49), none⟩,
            ⟨some 51, .val (.t 5), none⟩,
            ⟨some 52, .bin .sub (.t 51) (.c (.int .i64 15)), none⟩,
            ⟨some 53, .indexA 64 1 (.t 3) (.t 52), none⟩,
            ⟨some 54, .load (.t 53), none⟩,
            ⟨some 6, .val (.t 50), none⟩,
            ⟨some 7, .val (.t 54), none⟩] [([], []), ([0], [0]), ([1], [1]), ([2], [2]), ([], []), ([4], [4]), ([5], [5]), ([6], [6]), ([3, 0, 1, 2, 3], [3]), ([7, 8, 0, 1, 2, 3, 4, 5, 6, 7, 8], [7])])
           (.seq (.ops 11 false [
             ⟨some 55, .val (.t 6), none⟩,
             ⟨some 56, .call 182 [(.t 55), (.c (.int .i64 (-17)))], none⟩,
             ⟨some 57, .val (.t 6), none⟩,
             ⟨some 58, .call 182 [(.t 57), (.c (.int .i64 (-19)))], none⟩,
             ⟨some 59, .bin .xor (.t 56) (.t 58), none⟩,
             ⟨some 60, .val (.t 6), none⟩,
             ⟨some 61, .bin .shr (.t 60) (.c (.int .u64 10)), none⟩,
             ⟨some 62, .bin .xor (.t 59) (.t 61), none⟩,
             ⟨some 6, .val (.t 62), none⟩] [])
            (.seq (.ops 12 false [
              ⟨some 63, .val (.t 7), none⟩,
              ⟨some 64, .call 182 [(.t 63), (.c (.int .i64 (-7)))], none⟩,
              ⟨some 65, .val (.t 7), none⟩,
              ⟨some 66, .call 182 [(.t 65), (.c (.int .i64 (-18)))], none⟩,
              ⟨some 67, .bin .xor (.t 64) (.t 66), none⟩,
              ⟨some 68, .val (.t 7), none⟩,
              ⟨some 69, .bin .shr (.t 68) (.c (.int .u64 3)), none⟩,
              ⟨some 70, .bin .xor (.t 67) (.t 69), none⟩,
              ⟨some 7, .val (.t 70), none⟩] [])
             (.ops 13 true [
              ⟨some 71, .val (.t 5), none⟩,
              ⟨some 72, .val (.t 6), none⟩,
              ⟨some 73, .val (.t 5), none⟩,
              ⟨some 74, .bin .sub (.t 73) (.c (.int .i64 7)), none⟩,
              ⟨some 75, .indexA 64 1 (.t 3) (.t 74), none⟩,
              ⟨some 76, .load (.t 75), none⟩,
              ⟨some 77, .bin .add (.t 72) (.t 76), none⟩,
              ⟨some 78, .val (.t 7), none⟩,
              ⟨some 79, .bin .add (.t 77) (.t 78), none⟩,
              ⟨some 80, .val (.t 5), none⟩,
              ⟨some 81, .bin .sub (.t 80) (.c (.int .i64 16)), none⟩,
              ⟨some 82, .indexA 64 1 (.t 3) (.t 81), none⟩,
              ⟨some 83, .load (.t 82), none⟩,
              ⟨some 84, .bin .add (.t 79) (.t 83), none⟩,
              ⟨some 85, .indexA 64 1 (.t 3) (.t 71), none⟩,
              ⟨none, .store 1 (.t 85) (.t 84), none⟩] [([], []), ([], []), ([], []), ([2], [2]), ([3], [3]), ([4], [4]), ([1, 5], [1, 5]), ([], []), ([6, 7], [6, 7]), ([], []), ([9], [9]), ([10], [10]), ([11], [11]), ([8, 12], [8, 12]), ([0, 0, 1, 2, 3, 4, 5, 6, 7, 8, 9, 10, 11, 12, 13], [0]), ([14, 13, 0, 1, 2, 3, 4, 5, 6, 7, 8, 9, 10, 11, 12, 13], [13, 14])])))))
         (.ops 9 false [
          ⟨some 45, .val (.t 5), none⟩,
          ⟨some 46, .bin .add (.t 45) (.c (.int .i64 1)), none⟩,
          ⟨some 5, .val (.t 46), none⟩] []))))))
    (.seq (.ops 14 false [
      ⟨some 86, .loadN 64 (.t 3), none⟩,
      ⟨none, .store 64 (.t 2) (.t 86), none⟩] [])
     (.ret)))))
def rs181 : List RR := [.cell 2 (some 64)]
theorem fun181 : FunR Tryd.prog 181 rc181 rs181 87 := ⟨Tryd.f181, Tryd.func181, by kernel_rfl, by kernel_rfl, by kernel_rfl⟩
/-- math/bits.RotateLeft32 -/
def rc182 : RC :=
 .seq (.ops 0 false [
  ⟨some 4, .val (.c (.int .u32 0)), none⟩] [])
 (.seq (.ops 1 false [
   ⟨some 6, .val (.t 1), none⟩,
   ⟨some 7, .conv .u64 (.t 6), none⟩,
   ⟨some 8, .bin .and (.t 7) (.c (.int .u64 31)), none⟩,
   ⟨some 5, .val (.t 8), none⟩] [])
  (.seq (.ops 2 false [
    ⟨some 9, .val (.t 0), none⟩,
    ⟨some 10, .val (.t 5), none⟩,
    ⟨some 11, .bin .shl (.t 9) (.t 10), none⟩,
    ⟨some 12, .val (.t 0), none⟩,
    ⟨some 13, .val (.t 5), none⟩,
    ⟨some 14, .bin .sub (.c (.int .u64 32)) (.t 13), none⟩,
    ⟨some 15, .bin .shr (.t 12) (.t 14), none⟩,
    ⟨some 16, .bin .or (.t 11) (.t 15), none⟩,
    ⟨some 4, .val (.t 16), none⟩] [])
   (.ret)))
def rs182 : List RR := [.tmp 4]
theorem fun182 : FunR Tryd.prog 182 rc182 rs182 17 := ⟨Tryd.f182, Tryd.func182, by kernel_rfl, by kernel_rfl, by kernel_rfl⟩
/-- causeway/sparse.over -/
def rc184 : RC :=
 .seq (.ops 0 false [
  ⟨some 2, .alloc 25 (List.replicate 32 (.int .u8 0)), none⟩] [])
 (.seq (.seq (.ops 1 false [
    ⟨some 3, .val (.t 0), none⟩,
    ⟨some 4, .eqp .ptr false (.t 3) (.c (.pointer none)), none⟩] [])
   (.cond (.t 4) (.seq (.ops 2 false [
      ⟨some 5, .build (List.replicate 32 (.int .u8 0)) [], none⟩,
      ⟨none, .store 32 (.t 2) (.t 5), none⟩] [])
     (.ret))
    (.skip)))
  (.seq (.ops 3 false [
    ⟨some 6, .val (.t 0), none⟩,
    ⟨some 7, .nilCheck (.t 6), none⟩,
    ⟨some 8, .fieldA 0 (.t 7), none⟩,
    ⟨some 9, .loadN 32 (.t 8), none⟩,
    ⟨none, .store 32 (.t 2) (.t 9), none⟩] [])
   (.ret)))
def rs184 : List RR := [.cell 2 (some 32)]
theorem fun184 : FunR Tryd.prog 184 rc184 rs184 10 := ⟨Tryd.f184, Tryd.func184, by kernel_rfl, by kernel_rfl, by kernel_rfl⟩
/-- (*causeway/store.Table).Find -/
def rc202 : RC :=
 .seq (.ops 0 false [
  ⟨some 4, .val (.c (.slice none 0 0)), none⟩,
  ⟨some 5, .val (.c (.int .i64 0)), none⟩] [])
 (.seq (.seq (.ops 1 false [
    ⟨some 7, .val (.t 1), none⟩,
    ⟨some 8, .call 75 [(.t 7), (.c (.slice none 0 0))], none⟩,
    ⟨some 6, .val (.t 8), none⟩] [])
   (.seq (.ops 2 false [
     ⟨some 9, .val (.t 6), none⟩,
     ⟨some 10, .bin .neq (.t 9) (.c (.int .i64 0)), none⟩] [])
    (.cond (.t 10) (.seq (.ops 3 false [
       ⟨some 11, .val (.t 6), none⟩,
       ⟨some 4, .val (.c (.slice none 0 0)), none⟩,
       ⟨some 5, .val (.t 11), none⟩] [])
      (.ret))
     (.skip))))
  (.seq (.ops 4 false [
    ⟨some 12, .val (.t 0), none⟩,
    ⟨some 13, .nilCheck (.t 12), none⟩,
    ⟨some 14, .fieldA 0 (.t 13), none⟩,
    ⟨some 15, .load (.t 14), none⟩,
    ⟨some 16, .val (.t 1), none⟩,
    ⟨some 17, .look 135 (.t 15) (.t 16) false, none⟩,
    ⟨some 18, .call 77 [(.t 17)], none⟩,
    ⟨some 4, .val (.t 18), none⟩,
    ⟨some 5, .val (.c (.int .i64 0)), none⟩] [])
   (.ret)))
def rs202 : List RR := [.tmp 4, .tmp 5]
theorem fun202 : FunR Tryd.prog 202 rc202 rs202 19 := ⟨Tryd.f202, Tryd.func202, by kernel_rfl, by kernel_rfl, by kernel_rfl⟩
end Go.Proofs.YthdpknlnpeaiiaaDoor
