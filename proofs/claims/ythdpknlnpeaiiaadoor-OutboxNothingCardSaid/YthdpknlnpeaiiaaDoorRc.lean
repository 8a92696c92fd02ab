/-
  The resolved texts of this seat's functions, printed by this session's own program, and that they are what the translation has.
-/
import Derived.Test.YthdpknlnpeaiiaaDoorChecked
import Derived.Test.YthdpknlnpeaiiaaDoorCd
import Derived.KernelRfl
namespace Go.Proofs.YthdpknlnpeaiiaaDoor
open Go Go.Sl
set_option maxRecDepth 100000
/-- causeway/causewaylaw11.OutboxNothing -/
def rc8 : RC :=
 .seq (.ops 0 false [
  ⟨some 1, .box 32 (.t 0), none⟩,
  ⟨some 2, .val (.c (.bool false)), none⟩] [])
 (.seq (.ops 1 false [
   ⟨some 10, .loadN 27 (.t 1), none⟩,
   ⟨some 11, .call 38 [(.c (.pointer none)), (.t 10)], none⟩,
   ⟨some 9, .val (.t 11), none⟩,
   ⟨some 12, .extract 0 (.t 9), none⟩,
   ⟨some 13, .extract 1 (.t 9), none⟩,
   ⟨some 3, .val (.t 12), none⟩,
   ⟨some 4, .val (.t 13), none⟩] [])
  (.seq (.ops 2 false [
    ⟨some 15, .call 39 [(.c (.pointer none))], none⟩,
    ⟨some 14, .val (.t 15), none⟩,
    ⟨some 16, .extract 0 (.t 14), none⟩,
    ⟨some 17, .extract 1 (.t 14), none⟩,
    ⟨some 5, .val (.t 16), none⟩,
    ⟨some 6, .val (.t 17), none⟩] [])
   (.seq (.ops 3 false [
     ⟨some 19, .call 40 [(.c (.pointer none))], none⟩,
     ⟨some 18, .val (.t 19), none⟩,
     ⟨some 20, .extract 0 (.t 18), none⟩,
     ⟨some 21, .extract 1 (.t 18), none⟩,
     ⟨some 7, .alloc 25 (List.replicate 32 (.int .u8 0)), none⟩,
     ⟨none, .store 32 (.t 7) (.t 20), none⟩,
     ⟨some 8, .val (.t 21), none⟩] [])
    (.seq (.ops 4 false [
      ⟨some 22, .val (.t 4), none⟩,
      ⟨some 23, .bin .eql (.t 22) (.c (.int .i64 1)), none⟩,
      ⟨some 24, .val (.t 23), none⟩,
      ⟨some 25, .val (.t 6), some (24, true)⟩,
      ⟨some 26, .bin .eql (.t 25) (.c (.int .i64 1)), some (24, true)⟩,
      ⟨some 27, .pick (.t 24) (.t 26) (.c (.bool false)), none⟩,
      ⟨some 28, .val (.t 27), none⟩,
      ⟨some 29, .val (.t 8), some (28, true)⟩,
      ⟨some 30, .bin .eql (.t 29) (.c (.int .i64 1)), some (28, true)⟩,
      ⟨some 31, .pick (.t 28) (.t 30) (.c (.bool false)), none⟩,
      ⟨some 32, .val (.t 31), none⟩,
      ⟨some 33, .val (.t 3), some (32, true)⟩,
      ⟨some 34, .bin .eql (.t 33) (.c (.int .i64 0)), some (32, true)⟩,
      ⟨some 35, .pick (.t 32) (.t 34) (.c (.bool false)), none⟩,
      ⟨some 36, .val (.t 35), none⟩,
      ⟨some 37, .val (.t 5), some (36, true)⟩,
      ⟨some 38, .bin .eql (.t 37) (.c (.int .i64 0)), some (36, true)⟩,
      ⟨some 39, .pick (.t 36) (.t 38) (.c (.bool false)), none⟩,
      ⟨some 40, .val (.t 39), none⟩,
      ⟨some 41, .loadN 32 (.t 7), some (40, true)⟩,
      ⟨some 42, .build (List.replicate 32 (.int .u8 0)) [], some (40, true)⟩,
      ⟨some 43, .eqn false 25 (.t 41) (.t 42), some (40, true)⟩,
      ⟨some 44, .pick (.t 40) (.t 43) (.c (.bool false)), none⟩,
      ⟨some 45, .val (.t 44), none⟩,
      ⟨some 46, .call 11 [], some (45, true)⟩,
      ⟨some 47, .pick (.t 45) (.t 46) (.c (.bool false)), none⟩,
      ⟨some 2, .val (.t 47), none⟩] [])
     (.ret)))))
def rs8 : List RR := [.tmp 2]
theorem fun8 : FunR Tryd.prog 8 rc8 rs8 48 := ⟨Tryd.f8, Tryd.func8, by kernel_rfl, by kernel_rfl, by kernel_rfl⟩
/-- causeway/causewaylaw11.known -/
def rc11 : RC :=
 .seq (.ops 0 false [
  ⟨some 0, .val (.c (.bool false)), none⟩] [])
 (.seq (.ops 1 false [
   ⟨some 8, .call 15 [], none⟩,
   ⟨some 1, .val (.t 8), none⟩] [])
  (.seq (.seq (.ops 2 false [
     ⟨some 9, .val (.t 1), none⟩,
     ⟨some 10, .eqp .ptr false (.t 9) (.c (.pointer none)), none⟩] [])
    (.cond (.t 10) (.seq (.ops 3 false [
       ⟨some 0, .val (.c (.bool false)), none⟩] [])
      (.ret))
     (.skip)))
   (.seq (.ops 4 false [
     ⟨some 11, .build [(.int .u64 0), (.int .u64 0), (.int .u64 0), (.int .u64 0)] [(0, 1, (.c (.int .u64 256)))], none⟩,
     ⟨some 12, .build [(.int .i64 0), (.int .i64 0), (.int .i64 0), (.int .u8 0), (.int .u8 0), (.int .u8 0), (.int .u8 0), (.int .u8 0), (.int .u8 0), (.int .u8 0), (.int .u8 0), (.int .u8 0), (.int .u8 0), (.int .u8 0), (.int .u8 0), (.int .u8 0), (.int .u8 0), (.int .u8 0), (.int .u8 0), (.int .u8 0), (.int .u8 0), (.int .u8 0), (.int .u8 0), (.int .u64 0), (.int .u64 0), (.int .u64 0), (.int .u64 0)] [(1, 1, (.c (.int .i64 5))), (2, 1, (.c (.int .i64 3))), (23, 4, (.t 11))], none⟩,
     ⟨some 2, .alloc 32 [(.int .i64 0), (.int .i64 0), (.int .i64 0), (.int .u8 0), (.int .u8 0), (.int .u8 0), (.int .u8 0), (.int .u8 0), (.int .u8 0), (.int .u8 0), (.int .u8 0), (.int .u8 0), (.int .u8 0), (.int .u8 0), (.int .u8 0), (.int .u8 0), (.int .u8 0), (.int .u8 0), (.int .u8 0), (.int .u8 0), (.int .u8 0), (.int .u8 0), (.int .u8 0), (.int .u64 0), (.int .u64 0), (.int .u64 0), (.int .u64 0)], none⟩,
     ⟨none, .store 27 (.t 2) (.t 12), none⟩] [])
    (.seq (.ops 5 false [
      ⟨some 14, .loadN 27 (.t 2), none⟩,
      ⟨some 15, .call 47 [(.t 14)], none⟩,
      ⟨some 13, .val (.t 15), none⟩,
      ⟨some 16, .extract 0 (.t 13), none⟩,
      ⟨some 17, .extract 1 (.t 13), none⟩,
      ⟨some 3, .val (.t 16), none⟩,
      ⟨some 4, .val (.t 17), none⟩] [])
     (.seq (.ops 6 false [
       ⟨some 18, .val (.t 1), none⟩,
       ⟨some 19, .loadN 27 (.t 2), none⟩,
       ⟨some 20, .call 25 [(.t 18), (.t 19)], none⟩,
       ⟨some 5, .val (.t 20), none⟩] [])
      (.seq (.ops 7 false [
        ⟨some 22, .val (.t 1), none⟩,
        ⟨some 23, .call 27 [(.t 22), (.c (.int .i64 0))], none⟩,
        ⟨some 21, .val (.t 23), none⟩,
        ⟨some 24, .extract 0 (.t 21), none⟩,
        ⟨some 25, .extract 1 (.t 21), none⟩,
        ⟨some 6, .alloc 32 [(.int .i64 0), (.int .i64 0), (.int .i64 0), (.int .u8 0), (.int .u8 0), (.int .u8 0), (.int .u8 0), (.int .u8 0), (.int .u8 0), (.int .u8 0), (.int .u8 0), (.int .u8 0), (.int .u8 0), (.int .u8 0), (.int .u8 0), (.int .u8 0), (.int .u8 0), (.int .u8 0), (.int .u8 0), (.int .u8 0), (.int .u8 0), (.int .u8 0), (.int .u8 0), (.int .u64 0), (.int .u64 0), (.int .u64 0), (.int .u64 0)], none⟩,
        ⟨none, .store 27 (.t 6) (.t 24), none⟩,
        ⟨some 7, .val (.t 25), none⟩] [])
       (.seq (.ops 8 false [
         ⟨some 26, .val (.t 4), none⟩,
         ⟨some 27, .bin .eql (.t 26) (.c (.int .i64 0)), none⟩,
         ⟨some 28, .val (.t 27), none⟩,
         ⟨some 29, .val (.t 3), some (28, true)⟩,
         ⟨some 30, .len (.t 29), some (28, true)⟩,
         ⟨some 31, .bin .eql (.t 30) (.c (.int .i64 29)), some (28, true)⟩,
         ⟨some 32, .pick (.t 28) (.t 31) (.c (.bool false)), none⟩,
         ⟨some 33, .val (.t 32), none⟩,
         ⟨some 34, .val (.t 3), some (33, true)⟩,
         ⟨some 35, .indexS 1 (.t 34) (.c (.int .i64 0)), some (33, true)⟩,
         ⟨some 36, .load (.t 35), some (33, true)⟩,
         ⟨some 37, .bin .eql (.t 36) (.c (.int .u8 76)), some (33, true)⟩,
         ⟨some 38, .pick (.t 33) (.t 37) (.c (.bool false)), none⟩,
         ⟨some 39, .val (.t 38), none⟩,
         ⟨some 40, .val (.t 3), some (39, true)⟩,
         ⟨some 41, .indexS 1 (.t 40) (.c (.int .i64 1)), some (39, true)⟩,
         ⟨some 42, .load (.t 41), some (39, true)⟩,
         ⟨some 43, .bin .eql (.t 42) (.c (.int .u8 0)), some (39, true)⟩,
         ⟨some 44, .pick (.t 39) (.t 43) (.c (.bool false)), none⟩,
         ⟨some 45, .val (.t 44), none⟩,
         ⟨some 46, .val (.t 3), some (45, true)⟩,
         ⟨some 47, .indexS 1 (.t 46) (.c (.int .i64 2)), some (45, true)⟩,
         ⟨some 48, .load (.t 47), some (45, true)⟩,
         ⟨some 49, .bin .eql (.t 48) (.c (.int .u8 1)), some (45, true)⟩,
         ⟨some 50, .pick (.t 45) (.t 49) (.c (.bool false)), none⟩,
         ⟨some 51, .val (.t 50), none⟩,
         ⟨some 52, .val (.t 3), some (51, true)⟩,
         ⟨some 53, .indexS 1 (.t 52) (.c (.int .i64 3)), some (51, true)⟩,
         ⟨some 54, .load (.t 53), some (51, true)⟩,
         ⟨some 55, .bin .eql (.t 54) (.c (.int .u8 5)), some (51, true)⟩,
         ⟨some 56, .pick (.t 51) (.t 55) (.c (.bool false)), none⟩,
         ⟨some 57, .val (.t 56), none⟩,
         ⟨some 58, .val (.t 5), some (57, true)⟩,
         ⟨some 59, .bin .eql (.t 58) (.c (.int .i64 0)), some (57, true)⟩,
         ⟨some 60, .pick (.t 57) (.t 59) (.c (.bool false)), none⟩,
         ⟨some 61, .val (.t 60), none⟩,
         ⟨some 62, .val (.t 7), some (61, true)⟩,
         ⟨some 63, .bin .eql (.t 62) (.c (.int .i64 0)), some (61, true)⟩,
         ⟨some 64, .pick (.t 61) (.t 63) (.c (.bool false)), none⟩,
         ⟨some 65, .val (.t 64), none⟩,
         ⟨some 66, .loadN 27 (.t 6), some (65, true)⟩,
         ⟨some 67, .loadN 27 (.t 2), some (65, true)⟩,
         ⟨some 68, .eqn false 32 (.t 66) (.t 67), some (65, true)⟩,
         ⟨some 69, .pick (.t 65) (.t 68) (.c (.bool false)), none⟩,
         ⟨some 70, .val (.t 69), none⟩,
         ⟨some 71, .val (.t 1), some (70, true)⟩,
         ⟨some 72, .nilCheck (.t 71), some (70, true)⟩,
         ⟨some 73, .fieldA 0 (.t 72), some (70, true)⟩,
         ⟨some 74, .call 19 [(.t 73)], some (70, true)⟩,
         ⟨some 75, .bin .eql (.t 74) (.c (.int .i64 1)), some (70, true)⟩,
         ⟨some 76, .pick (.t 70) (.t 75) (.c (.bool false)), none⟩,
         ⟨some 0, .val (.t 76), none⟩] [])
        (.ret))))))))
def rs11 : List RR := [.tmp 0]
theorem fun11 : FunR Tryd.prog 11 rc11 rs11 77 := ⟨Tryd.f11, Tryd.func11, by kernel_rfl, by kernel_rfl, by kernel_rfl⟩
/-- causeway/outbox.New -/
def rc15 : RC :=
 .seq (.ops 0 false [
  ⟨some 0, .val (.c (.pointer none)), none⟩] [])
 (.seq (.ops 1 false [
   ⟨some 1, .build [(.slice none 0 0), (.slice none 0 0)] [], none⟩,
   ⟨some 2, .box 60 (.t 1), none⟩,
   ⟨some 0, .val (.t 2), none⟩] [])
  (.ret))
def rs15 : List RR := [.tmp 0]
theorem fun15 : FunR Tryd.prog 15 rc15 rs15 3 := ⟨Tryd.f15, Tryd.func15, by kernel_rfl, by kernel_rfl, by kernel_rfl⟩
/-- (*causeway/outbox.rows).Len -/
def rc19 : RC :=
 .seq (.ops 0 false [
  ⟨some 2, .val (.c (.int .i64 0)), none⟩] [])
 (.seq (.ops 1 false [
   ⟨some 3, .val (.t 0), none⟩,
   ⟨some 4, .nilCheck (.t 3), none⟩,
   ⟨some 5, .fieldA 0 (.t 4), none⟩,
   ⟨some 6, .load (.t 5), none⟩,
   ⟨some 7, .len (.t 6), none⟩,
   ⟨some 2, .val (.t 7), none⟩] [])
  (.ret))
def rs19 : List RR := [.tmp 2]
theorem fun19 : FunR Tryd.prog 19 rc19 rs19 8 := ⟨Tryd.f19, Tryd.func19, by kernel_rfl, by kernel_rfl, by kernel_rfl⟩
/-- (*causeway/outbox.Book).Put -/
def rc25 : RC :=
 .seq (.ops 0 false [
  ⟨some 3, .box 32 (.t 1), none⟩,
  ⟨some 4, .val (.c (.int .i64 0)), none⟩] [])
 (.seq (.ops 1 false [
   ⟨some 8, .loadN 27 (.t 3), none⟩,
   ⟨some 9, .call 47 [(.t 8)], none⟩,
   ⟨some 7, .val (.t 9), none⟩,
   ⟨some 10, .extract 0 (.t 7), none⟩,
   ⟨some 11, .extract 1 (.t 7), none⟩,
   ⟨some 5, .val (.t 10), none⟩,
   ⟨some 6, .val (.t 11), none⟩] [])
  (.seq (.block 0 (.seq (.ops 2 false [
      ⟨some 13, .val (.t 6), none⟩,
      ⟨some 14, .bin .neq (.t 13) (.c (.int .i64 0)), none⟩,
      ⟨some 12, .val (.t 14), none⟩] [])
     (.cond (.t 12) (.seq (.ops 3 false [
        ⟨some 15, .val (.t 6), none⟩,
        ⟨some 4, .val (.t 15), none⟩] [])
       (.ret))
      (.seq (.ops 4 true [
        ⟨some 17, .fieldA 0 (.t 3), none⟩,
        ⟨some 18, .load (.t 17), none⟩,
        ⟨some 19, .val (.t 0), none⟩,
        ⟨some 20, .nilCheck (.t 19), none⟩,
        ⟨some 21, .fieldA 0 (.t 20), none⟩,
        ⟨some 22, .call 19 [(.t 21)], none⟩,
        ⟨some 23, .bin .neq (.t 18) (.t 22), none⟩,
        ⟨some 16, .val (.t 23), none⟩] [([], []), ([0], [0]), ([], []), ([2], [2]), ([3], [3]), ([4], [4]), ([1, 5], [1, 5]), ([6, 5], [6])])
       (.cond (.t 16) (.seq (.ops 5 false [
          ⟨some 4, .val (.c (.int .i64 111)), none⟩] [])
         (.ret))
        (.skip))))))
   (.seq (.ops 6 true [
     ⟨some 24, .val (.t 0), none⟩,
     ⟨some 25, .val (.t 0), none⟩,
     ⟨some 26, .nilCheck (.t 25), none⟩,
     ⟨some 27, .fieldA 0 (.t 26), none⟩,
     ⟨some 28, .fieldA 0 (.t 27), none⟩,
     ⟨some 29, .load (.t 28), none⟩,
     ⟨some 30, .loadN 27 (.t 3), none⟩,
     ⟨some 31, .buildS 32 1 [(.int .i64 0), (.int .i64 0), (.int .i64 0), (.int .u8 0), (.int .u8 0), (.int .u8 0), (.int .u8 0), (.int .u8 0), (.int .u8 0), (.int .u8 0), (.int .u8 0), (.int .u8 0), (.int .u8 0), (.int .u8 0), (.int .u8 0), (.int .u8 0), (.int .u8 0), (.int .u8 0), (.int .u8 0), (.int .u8 0), (.int .u8 0), (.int .u8 0), (.int .u8 0), (.int .u64 0), (.int .u64 0), (.int .u64 0), (.int .u64 0)] [(0, 27, (.t 30))], none⟩,
     ⟨some 32, .blt .append #[48, 48] 48 [(.t 29), (.t 31)], none⟩,
     ⟨some 33, .nilCheck (.t 24), none⟩,
     ⟨some 34, .fieldA 0 (.t 33), none⟩,
     ⟨some 35, .fieldA 0 (.t 34), none⟩,
     ⟨none, .store 1 (.t 35) (.t 32), none⟩] [([], []), ([], []), ([1], [1]), ([2], [2]), ([3], [3]), ([4], [4]), ([], []), ([6], [6]), ([5, 7], [5, 7]), ([0, 0, 1, 2, 3, 4, 5, 6, 7, 8], [0]), ([9, 0, 1, 2, 3, 4, 5, 6, 7, 8], [9]), ([10, 0, 1, 2, 3, 4, 5, 6, 7, 8], [10]), ([11, 8, 8, 0, 1, 2, 3, 4, 5, 6, 7, 8], [8, 11])])
    (.seq (.ops 7 false [
      ⟨some 36, .val (.t 0), none⟩,
      ⟨some 37, .val (.t 0), none⟩,
      ⟨some 38, .nilCheck (.t 37), none⟩,
      ⟨some 39, .fieldA 0 (.t 38), none⟩,
      ⟨some 40, .fieldA 1 (.t 39), none⟩,
      ⟨some 41, .load (.t 40), none⟩,
      ⟨some 42, .val (.t 5), none⟩,
      ⟨some 43, .buildS 79 1 [(.slice none 0 0)] [(0, 1, (.t 42))], none⟩,
      ⟨some 44, .blt .append #[44, 44] 44 [(.t 41), (.t 43)], none⟩,
      ⟨some 45, .nilCheck (.t 36), none⟩,
      ⟨some 46, .fieldA 0 (.t 45), none⟩,
      ⟨some 47, .fieldA 1 (.t 46), none⟩,
      ⟨none, .store 1 (.t 47) (.t 44), none⟩] [])
     (.seq (.ops 8 false [
       ⟨some 4, .val (.c (.int .i64 0)), none⟩] [])
      (.ret))))))
def rs25 : List RR := [.tmp 4]
theorem fun25 : FunR Tryd.prog 25 rc25 rs25 48 := ⟨Tryd.f25, Tryd.func25, by kernel_rfl, by kernel_rfl, by kernel_rfl⟩
/-- (*causeway/outbox.Book).Leaf -/
def rc27 : RC :=
 .seq (.ops 0 false [
  ⟨some 4, .alloc 32 [(.int .i64 0), (.int .i64 0), (.int .i64 0), (.int .u8 0), (.int .u8 0), (.int .u8 0), (.int .u8 0), (.int .u8 0), (.int .u8 0), (.int .u8 0), (.int .u8 0), (.int .u8 0), (.int .u8 0), (.int .u8 0), (.int .u8 0), (.int .u8 0), (.int .u8 0), (.int .u8 0), (.int .u8 0), (.int .u8 0), (.int .u8 0), (.int .u8 0), (.int .u8 0), (.int .u64 0), (.int .u64 0), (.int .u64 0), (.int .u64 0)], none⟩,
  ⟨some 5, .val (.c (.int .i64 0)), none⟩] [])
 (.seq (.seq (.ops 1 false [
    ⟨some 6, .val (.t 1), none⟩,
    ⟨some 7, .bin .lss (.t 6) (.c (.int .i64 0)), none⟩,
    ⟨some 8, .val (.t 7), none⟩,
    ⟨some 9, .val (.t 1), some (8, false)⟩,
    ⟨some 10, .val (.t 0), some (8, false)⟩,
    ⟨some 11, .nilCheck (.t 10), some (8, false)⟩,
    ⟨some 12, .fieldA 0 (.t 11), some (8, false)⟩,
    ⟨some 13, .call 19 [(.t 12)], some (8, false)⟩,
    ⟨some 14, .bin .geq (.t 9) (.t 13), some (8, false)⟩,
    ⟨some 15, .pick (.t 8) (.c (.bool true)) (.t 14), none⟩] [])
   (.cond (.t 15) (.seq (.ops 2 false [
      ⟨some 16, .build [(.int .i64 0), (.int .i64 0), (.int .i64 0), (.int .u8 0), (.int .u8 0), (.int .u8 0), (.int .u8 0), (.int .u8 0), (.int .u8 0), (.int .u8 0), (.int .u8 0), (.int .u8 0), (.int .u8 0), (.int .u8 0), (.int .u8 0), (.int .u8 0), (.int .u8 0), (.int .u8 0), (.int .u8 0), (.int .u8 0), (.int .u8 0), (.int .u8 0), (.int .u8 0), (.int .u64 0), (.int .u64 0), (.int .u64 0), (.int .u64 0)] [], none⟩,
      ⟨none, .store 27 (.t 4) (.t 16), none⟩,
      ⟨some 5, .val (.c (.int .i64 111)), none⟩] [])
     (.ret))
    (.skip)))
  (.seq (.ops 3 false [
    ⟨some 17, .val (.t 0), none⟩,
    ⟨some 18, .nilCheck (.t 17), none⟩,
    ⟨some 19, .fieldA 0 (.t 18), none⟩,
    ⟨some 20, .fieldA 0 (.t 19), none⟩,
    ⟨some 21, .load (.t 20), none⟩,
    ⟨some 22, .val (.t 1), none⟩,
    ⟨some 23, .indexS 27 (.t 21) (.t 22), none⟩,
    ⟨some 24, .loadN 27 (.t 23), none⟩,
    ⟨none, .store 27 (.t 4) (.t 24), none⟩,
    ⟨some 5, .val (.c (.int .i64 0)), none⟩] [])
   (.ret)))
def rs27 : List RR := [.cell 4 (some 27), .tmp 5]
theorem fun27 : FunR Tryd.prog 27 rc27 rs27 25 := ⟨Tryd.f27, Tryd.func27, by kernel_rfl, by kernel_rfl, by kernel_rfl⟩
/-- causeway/outbox.Add -/
def rc38 : RC :=
 .seq (.ops 0 false [
  ⟨some 3, .box 32 (.t 1), none⟩,
  ⟨some 4, .val (.c (.int .i64 0)), none⟩,
  ⟨some 5, .val (.c (.int .i64 0)), none⟩] [])
 (.seq (.block 0 (.seq (.ops 1 false [
     ⟨some 11, .val (.t 0), none⟩,
     ⟨some 12, .eqp .ptr false (.t 11) (.c (.pointer none)), none⟩,
     ⟨some 10, .val (.t 12), none⟩] [])
    (.cond (.t 10) (.seq (.ops 2 false [
       ⟨some 4, .val (.c (.int .i64 0)), none⟩,
       ⟨some 5, .val (.c (.int .i64 1)), none⟩] [])
      (.ret))
     (.seq (.ops 3 false [
       ⟨some 14, .fieldA 0 (.t 3), none⟩,
       ⟨some 15, .load (.t 14), none⟩,
       ⟨some 16, .bin .neq (.t 15) (.c (.int .i64 0)), none⟩,
       ⟨some 17, .val (.t 16), none⟩,
       ⟨some 18, .loadN 27 (.t 3), some (17, false)⟩,
       ⟨some 19, .call 78 [(.t 18)], some (17, false)⟩,
       ⟨some 20, .not (.t 19), some (17, false)⟩,
       ⟨some 21, .pick (.t 17) (.c (.bool true)) (.t 20), none⟩,
       ⟨some 13, .val (.t 21), none⟩] [])
      (.cond (.t 13) (.seq (.ops 4 false [
         ⟨some 4, .val (.c (.int .i64 0)), none⟩,
         ⟨some 5, .val (.c (.int .i64 110)), none⟩] [])
        (.ret))
       (.skip))))))
  (.seq (.ops 5 false [
    ⟨some 23, .val (.t 0), none⟩,
    ⟨some 24, .call 79 [(.t 23)], none⟩,
    ⟨some 22, .val (.t 24), none⟩,
    ⟨some 25, .extract 0 (.t 22), none⟩,
    ⟨some 26, .extract 1 (.t 22), none⟩,
    ⟨some 6, .alloc 151 [(.pointer none)], none⟩,
    ⟨none, .store 1 (.t 6) (.t 25), none⟩,
    ⟨some 7, .val (.t 26), none⟩] [])
   (.seq (.block 1 (.seq (.ops 6 false [
       ⟨some 28, .val (.t 7), none⟩,
       ⟨some 29, .bin .neq (.t 28) (.c (.int .i64 0)), none⟩,
       ⟨some 27, .val (.t 29), none⟩] [])
      (.cond (.t 27) (.seq (.ops 7 false [
         ⟨some 30, .val (.t 7), none⟩,
         ⟨some 4, .val (.c (.int .i64 0)), none⟩,
         ⟨some 5, .val (.t 30), none⟩] [])
        (.ret))
       (.seq (.ops 8 false [
         ⟨some 32, .fieldA 0 (.t 6), none⟩,
         ⟨some 33, .load (.t 32), none⟩,
         ⟨some 34, .call 80 [(.t 33)], none⟩,
         ⟨some 35, .bin .geq (.t 34) (.c (.int .i64 1099511627776)), none⟩,
         ⟨some 31, .val (.t 35), none⟩] [])
        (.cond (.t 31) (.seq (.ops 9 false [
           ⟨some 4, .val (.c (.int .i64 0)), none⟩,
           ⟨some 5, .val (.c (.int .i64 114)), none⟩] [])
          (.ret))
         (.skip))))))
    (.seq (.ops 10 false [
      ⟨some 36, .fieldA 0 (.t 6), none⟩,
      ⟨some 37, .load (.t 36), none⟩,
      ⟨some 38, .call 80 [(.t 37)], none⟩,
      ⟨some 39, .fieldA 0 (.t 3), none⟩,
      ⟨none, .store 1 (.t 39) (.t 38), none⟩] [])
     (.seq (.ops 11 false [
       ⟨some 41, .loadN 27 (.t 3), none⟩,
       ⟨some 42, .call 47 [(.t 41)], none⟩,
       ⟨some 40, .val (.t 42), none⟩,
       ⟨some 43, .extract 0 (.t 40), none⟩,
       ⟨some 44, .extract 1 (.t 40), none⟩,
       ⟨some 8, .val (.t 43), none⟩,
       ⟨some 7, .val (.t 44), none⟩] [])
      (.seq (.seq (.ops 12 false [
         ⟨some 45, .val (.t 7), none⟩,
         ⟨some 46, .bin .neq (.t 45) (.c (.int .i64 0)), none⟩] [])
        (.cond (.t 46) (.seq (.ops 13 false [
           ⟨some 47, .val (.t 7), none⟩,
           ⟨some 4, .val (.c (.int .i64 0)), none⟩,
           ⟨some 5, .val (.t 47), none⟩] [])
          (.ret))
         (.skip)))
       (.seq (.ops 14 false [
         ⟨some 48, .fieldA 0 (.t 6), none⟩,
         ⟨some 49, .load (.t 48), none⟩,
         ⟨some 50, .val (.t 8), none⟩,
         ⟨some 51, .call 81 [(.t 49), (.t 50)], none⟩] [])
        (.seq (.seq (.ops 15 false [
           ⟨some 52, .val (.t 0), none⟩,
           ⟨some 53, .loadN 1 (.t 6), none⟩,
           ⟨some 54, .call 82 [(.t 53)], none⟩,
           ⟨some 55, .call 35 [(.t 52), (.c (.string ⟨#[111]⟩)), (.t 54)], none⟩,
           ⟨some 9, .val (.t 55), none⟩] [])
          (.seq (.ops 16 false [
            ⟨some 56, .val (.t 9), none⟩,
            ⟨some 57, .bin .neq (.t 56) (.c (.int .i64 0)), none⟩] [])
           (.cond (.t 57) (.seq (.ops 17 false [
              ⟨some 58, .val (.t 9), none⟩,
              ⟨some 4, .val (.c (.int .i64 0)), none⟩,
              ⟨some 5, .val (.t 58), none⟩] [])
             (.ret))
            (.skip))))
         (.seq (.ops 18 false [
           ⟨some 59, .fieldA 0 (.t 3), none⟩,
           ⟨some 60, .load (.t 59), none⟩,
           ⟨some 4, .val (.t 60), none⟩,
           ⟨some 5, .val (.c (.int .i64 0)), none⟩] [])
          (.ret))))))))))
def rs38 : List RR := [.tmp 4, .tmp 5]
theorem fun38 : FunR Tryd.prog 38 rc38 rs38 61 := ⟨Tryd.f38, Tryd.func38, by kernel_rfl, by kernel_rfl, by kernel_rfl⟩
/-- causeway/outbox.Size -/
def rc39 : RC :=
 .seq (.ops 0 false [
  ⟨some 2, .val (.c (.int .i64 0)), none⟩,
  ⟨some 3, .val (.c (.int .i64 0)), none⟩] [])
 (.seq (.ops 1 false [
   ⟨some 7, .val (.t 0), none⟩,
   ⟨some 8, .call 79 [(.t 7)], none⟩,
   ⟨some 6, .val (.t 8), none⟩,
   ⟨some 9, .extract 0 (.t 6), none⟩,
   ⟨some 10, .extract 1 (.t 6), none⟩,
   ⟨some 4, .alloc 151 [(.pointer none)], none⟩,
   ⟨none, .store 1 (.t 4) (.t 9), none⟩,
   ⟨some 5, .val (.t 10), none⟩] [])
  (.seq (.seq (.ops 2 false [
     ⟨some 11, .val (.t 5), none⟩,
     ⟨some 12, .bin .neq (.t 11) (.c (.int .i64 0)), none⟩] [])
    (.cond (.t 12) (.seq (.ops 3 false [
       ⟨some 13, .val (.t 5), none⟩,
       ⟨some 2, .val (.c (.int .i64 0)), none⟩,
       ⟨some 3, .val (.t 13), none⟩] [])
      (.ret))
     (.skip)))
   (.seq (.ops 4 false [
     ⟨some 14, .fieldA 0 (.t 4), none⟩,
     ⟨some 15, .load (.t 14), none⟩,
     ⟨some 16, .call 80 [(.t 15)], none⟩,
     ⟨some 2, .val (.t 16), none⟩,
     ⟨some 3, .val (.c (.int .i64 0)), none⟩] [])
    (.ret))))
def rs39 : List RR := [.tmp 2, .tmp 3]
theorem fun39 : FunR Tryd.prog 39 rc39 rs39 17 := ⟨Tryd.f39, Tryd.func39, by kernel_rfl, by kernel_rfl, by kernel_rfl⟩
/-- causeway/outbox.Root -/
def rc40 : RC :=
 .seq (.ops 0 false [
  ⟨some 2, .alloc 25 (List.replicate 32 (.int .u8 0)), none⟩,
  ⟨some 3, .val (.c (.int .i64 0)), none⟩] [])
 (.seq (.ops 1 false [
   ⟨some 7, .val (.t 0), none⟩,
   ⟨some 8, .call 79 [(.t 7)], none⟩,
   ⟨some 6, .val (.t 8), none⟩,
   ⟨some 9, .extract 0 (.t 6), none⟩,
   ⟨some 10, .extract 1 (.t 6), none⟩,
   ⟨some 4, .alloc 151 [(.pointer none)], none⟩,
   ⟨none, .store 1 (.t 4) (.t 9), none⟩,
   ⟨some 5, .val (.t 10), none⟩] [])
  (.seq (.seq (.ops 2 false [
     ⟨some 11, .val (.t 5), none⟩,
     ⟨some 12, .bin .neq (.t 11) (.c (.int .i64 0)), none⟩] [])
    (.cond (.t 12) (.seq (.ops 3 false [
       ⟨some 13, .build (List.replicate 32 (.int .u8 0)) [], none⟩,
       ⟨some 14, .val (.t 5), none⟩,
       ⟨none, .store 32 (.t 2) (.t 13), none⟩,
       ⟨some 3, .val (.t 14), none⟩] [])
      (.ret))
     (.skip)))
   (.seq (.ops 4 false [
     ⟨some 15, .fieldA 0 (.t 4), none⟩,
     ⟨some 16, .load (.t 15), none⟩,
     ⟨some 17, .call 83 [(.t 16)], none⟩,
     ⟨none, .store 32 (.t 2) (.t 17), none⟩,
     ⟨some 3, .val (.c (.int .i64 0)), none⟩] [])
    (.ret))))
def rs40 : List RR := [.cell 2 (some 32), .tmp 3]
theorem fun40 : FunR Tryd.prog 40 rc40 rs40 18 := ⟨Tryd.f40, Tryd.func40, by kernel_rfl, by kernel_rfl, by kernel_rfl⟩
/-- causeway/outbox.Bytes -/
def rc47 : RC :=
 .seq (.ops 0 false [
  ⟨some 1, .box 32 (.t 0), none⟩,
  ⟨some 2, .val (.c (.slice none 0 0)), none⟩,
  ⟨some 3, .val (.c (.int .i64 0)), none⟩] [])
 (.seq (.seq (.ops 1 false [
    ⟨some 5, .loadN 27 (.t 1), none⟩,
    ⟨some 6, .call 78 [(.t 5)], none⟩,
    ⟨some 7, .not (.t 6), none⟩] [])
   (.cond (.t 7) (.seq (.ops 2 false [
      ⟨some 2, .val (.c (.slice none 0 0)), none⟩,
      ⟨some 3, .val (.c (.int .i64 110)), none⟩] [])
     (.ret))
    (.skip)))
  (.seq (.ops 3 false [
    ⟨some 8, .call 92 [], none⟩,
    ⟨some 4, .val (.t 8), none⟩] [])
   (.seq (.ops 4 false [
     ⟨some 9, .val (.t 4), none⟩,
     ⟨some 10, .call 93 [(.t 9), (.c (.int .u8 76))], none⟩] [])
    (.seq (.ops 5 false [
      ⟨some 11, .val (.t 4), none⟩,
      ⟨some 12, .fieldA 0 (.t 1), none⟩,
      ⟨some 13, .load (.t 12), none⟩,
      ⟨some 14, .call 94 [(.t 11), (.t 13)], none⟩] [])
     (.seq (.ops 6 false [
       ⟨some 15, .val (.t 4), none⟩,
       ⟨some 16, .fieldA 1 (.t 1), none⟩,
       ⟨some 17, .load (.t 16), none⟩,
       ⟨some 18, .call 94 [(.t 15), (.t 17)], none⟩] [])
      (.seq (.ops 7 false [
        ⟨some 19, .val (.t 4), none⟩,
        ⟨some 20, .fieldA 2 (.t 1), none⟩,
        ⟨some 21, .load (.t 20), none⟩,
        ⟨some 22, .call 94 [(.t 19), (.t 21)], none⟩] [])
       (.seq (.ops 8 false [
         ⟨some 23, .val (.t 4), none⟩,
         ⟨some 24, .fieldA 3 (.t 1), none⟩,
         ⟨some 25, .loadN 20 (.t 24), none⟩,
         ⟨some 26, .call 95 [(.t 23), (.t 25)], none⟩] [])
        (.seq (.ops 9 false [
          ⟨some 27, .val (.t 4), none⟩,
          ⟨some 28, .fieldA 23 (.t 1), none⟩,
          ⟨some 29, .loadN 4 (.t 28), none⟩,
          ⟨some 30, .call 96 [(.t 27), (.t 29)], none⟩] [])
         (.seq (.ops 10 false [
           ⟨some 31, .val (.t 4), none⟩,
           ⟨some 32, .call 97 [(.t 31)], none⟩,
           ⟨some 33, .extract 0 (.t 32), none⟩,
           ⟨some 34, .extract 1 (.t 32), none⟩,
           ⟨some 2, .val (.t 33), none⟩,
           ⟨some 3, .val (.t 34), none⟩] [])
          (.ret))))))))))
def rs47 : List RR := [.tmp 2, .tmp 3]
theorem fun47 : FunR Tryd.prog 47 rc47 rs47 35 := ⟨Tryd.f47, Tryd.func47, by kernel_rfl, by kernel_rfl, by kernel_rfl⟩
/-- slices.Clone[[]byte,byte] -/
def rc77 : RC :=
 .seq (.ops 0 false [
  ⟨some 2, .val (.c (.slice none 0 0)), none⟩] [])
 (.seq (.seq (.ops 1 false [
    ⟨some 3, .val (.t 0), none⟩,
    ⟨some 4, .eqp .slc false (.t 3) (.c (.slice none 0 0)), none⟩] [])
   (.cond (.t 4) (.seq (.ops 2 false [
      ⟨some 2, .val (.c (.slice none 0 0)), none⟩] [])
     (.ret))
    (.skip)))
  (.seq (.ops 3 false [
    ⟨some 5, .buildS 5 0 [] [], none⟩,
    ⟨some 6, .val (.t 0), none⟩,
    ⟨some 7, .blt .append #[79, 79] 79 [(.t 5), (.t 6)], none⟩,
    ⟨some 2, .val (.t 7), none⟩] [])
   (.ret)))
def rs77 : List RR := [.tmp 2]
theorem fun77 : FunR Tryd.prog 77 rc77 rs77 8 := ⟨Tryd.f77, Tryd.func77, by kernel_rfl, by kernel_rfl, by kernel_rfl⟩
/-- causeway/outbox.may -/
def rc78 : RC :=
 .seq (.ops 0 false [
  ⟨some 1, .box 32 (.t 0), none⟩,
  ⟨some 2, .val (.c (.bool false)), none⟩] [])
 (.seq (.ops 1 false [
   ⟨some 3, .fieldA 0 (.t 1), none⟩,
   ⟨some 4, .load (.t 3), none⟩,
   ⟨some 5, .call 116 [(.t 4)], none⟩,
   ⟨some 6, .val (.t 5), none⟩,
   ⟨some 7, .fieldA 1 (.t 1), some (6, true)⟩,
   ⟨some 8, .load (.t 7), some (6, true)⟩,
   ⟨some 9, .call 116 [(.t 8)], some (6, true)⟩,
   ⟨some 10, .pick (.t 6) (.t 9) (.c (.bool false)), none⟩,
   ⟨some 11, .val (.t 10), none⟩,
   ⟨some 12, .fieldA 2 (.t 1), some (11, true)⟩,
   ⟨some 13, .load (.t 12), some (11, true)⟩,
   ⟨some 14, .bin .geq (.t 13) (.c (.int .i64 0)), some (11, true)⟩,
   ⟨some 15, .pick (.t 11) (.t 14) (.c (.bool false)), none⟩,
   ⟨some 16, .val (.t 15), none⟩,
   ⟨some 17, .fieldA 2 (.t 1), some (16, true)⟩,
   ⟨some 18, .load (.t 17), some (16, true)⟩,
   ⟨some 19, .bin .lss (.t 18) (.c (.int .i64 64)), some (16, true)⟩,
   ⟨some 20, .pick (.t 16) (.t 19) (.c (.bool false)), none⟩,
   ⟨some 21, .val (.t 20), none⟩,
   ⟨some 22, .fieldA 23 (.t 1), some (21, true)⟩,
   ⟨some 23, .loadN 4 (.t 22), some (21, true)⟩,
   ⟨some 24, .call 117 [(.t 23)], some (21, true)⟩,
   ⟨some 25, .not (.t 24), some (21, true)⟩,
   ⟨some 26, .pick (.t 21) (.t 25) (.c (.bool false)), none⟩,
   ⟨some 2, .val (.t 26), none⟩] [])
  (.ret))
def rs78 : List RR := [.tmp 2]
theorem fun78 : FunR Tryd.prog 78 rc78 rs78 27 := ⟨Tryd.f78, Tryd.func78, by kernel_rfl, by kernel_rfl, by kernel_rfl⟩
/-- causeway/outbox.ask -/
def rc79 : RC :=
 .seq (.ops 0 false [
  ⟨some 2, .alloc 151 [(.pointer none)], none⟩,
  ⟨some 3, .val (.c (.int .i64 0)), none⟩] [])
 (.seq (.seq (.ops 1 false [
    ⟨some 11, .val (.t 0), none⟩,
    ⟨some 12, .eqp .ptr false (.t 11) (.c (.pointer none)), none⟩] [])
   (.cond (.t 12) (.seq (.ops 2 false [
      ⟨some 13, .build [(.pointer none)] [], none⟩,
      ⟨none, .store 1 (.t 2) (.t 13), none⟩,
      ⟨some 3, .val (.c (.int .i64 1)), none⟩] [])
     (.ret))
    (.skip)))
  (.seq (.ops 3 false [
    ⟨some 15, .val (.t 0), none⟩,
    ⟨some 16, .call 73 [(.t 15), (.c (.string ⟨#[111]⟩))], none⟩,
    ⟨some 14, .val (.t 16), none⟩,
    ⟨some 17, .extract 0 (.t 14), none⟩,
    ⟨some 18, .extract 1 (.t 14), none⟩,
    ⟨some 4, .val (.t 17), none⟩,
    ⟨some 5, .val (.t 18), none⟩] [])
   (.seq (.block 0 (.seq (.ops 4 false [
       ⟨some 20, .val (.t 5), none⟩,
       ⟨some 21, .bin .neq (.t 20) (.c (.int .i64 0)), none⟩,
       ⟨some 19, .val (.t 21), none⟩] [])
      (.cond (.t 19) (.seq (.ops 5 false [
         ⟨some 22, .build [(.pointer none)] [], none⟩,
         ⟨some 23, .val (.t 5), none⟩,
         ⟨none, .store 1 (.t 2) (.t 22), none⟩,
         ⟨some 3, .val (.t 23), none⟩] [])
        (.ret))
       (.seq (.ops 6 false [
         ⟨some 25, .val (.t 4), none⟩,
         ⟨some 26, .len (.t 25), none⟩,
         ⟨some 27, .bin .eql (.t 26) (.c (.int .i64 0)), none⟩,
         ⟨some 24, .val (.t 27), none⟩] [])
        (.cond (.t 24) (.seq (.ops 7 false [
           ⟨some 28, .call 118 [], none⟩,
           ⟨some 29, .build [(.pointer none)] [(0, 1, (.t 28))], none⟩,
           ⟨none, .store 1 (.t 2) (.t 29), none⟩,
           ⟨some 3, .val (.c (.int .i64 0)), none⟩] [])
          (.ret))
         (.seq (.ops 8 false [
           ⟨some 31, .val (.t 4), none⟩,
           ⟨some 32, .len (.t 31), none⟩,
           ⟨some 33, .bin .rem (.t 32) (.c (.int .i64 32)), none⟩,
           ⟨some 34, .bin .neq (.t 33) (.c (.int .i64 8)), none⟩,
           ⟨some 35, .val (.t 34), none⟩,
           ⟨some 36, .val (.t 4), some (35, false)⟩,
           ⟨some 37, .indexS 1 (.t 36) (.c (.int .i64 0)), some (35, false)⟩,
           ⟨some 38, .load (.t 37), some (35, false)⟩,
           ⟨some 39, .bin .neq (.t 38) (.c (.int .u8 0)), some (35, false)⟩,
           ⟨some 40, .pick (.t 35) (.c (.bool true)) (.t 39), none⟩,
           ⟨some 41, .val (.t 40), none⟩,
           ⟨some 42, .val (.t 4), some (41, false)⟩,
           ⟨some 43, .indexS 1 (.t 42) (.c (.int .i64 1)), some (41, false)⟩,
           ⟨some 44, .load (.t 43), some (41, false)⟩,
           ⟨some 45, .bin .neq (.t 44) (.c (.int .u8 0)), some (41, false)⟩,
           ⟨some 46, .pick (.t 41) (.c (.bool true)) (.t 45), none⟩,
           ⟨some 30, .val (.t 46), none⟩] [])
          (.cond (.t 30) (.seq (.ops 9 false [
             ⟨some 47, .build [(.pointer none)] [], none⟩,
             ⟨none, .store 1 (.t 2) (.t 47), none⟩,
             ⟨some 3, .val (.c (.int .i64 75)), none⟩] [])
            (.ret))
           (.skip))))))))
    (.seq (.ops 10 false [
      ⟨some 6, .val (.c (.int .i64 0)), none⟩] [])
     (.seq (.seq (.ops 11 false [
        ⟨some 48, .val (.t 4), none⟩,
        ⟨some 49, .slice 1 (.t 48) none (some (.c (.int .i64 8))) none, none⟩,
        ⟨some 50, .len (.t 49), none⟩,
        ⟨some 51, .val (.c (.int .i64 0)), none⟩] [])
       (.block 1 (.loop (.seq (.ops 12 false [
           ⟨some 52, .bin .lss (.t 51) (.t 50), none⟩] [])
          (.seq (.cond (.t 52) (.skip)
            (.exit 1))
           (.seq (.block 2 (.seq (.ops 13 false [
               ⟨some 53, .indexS 1 (.t 49) (.t 51), none⟩,
               ⟨some 54, .load (.t 53), none⟩,
               ⟨some 8, .val (.t 54), none⟩] [])
              (.ops 14 false [
               ⟨some 55, .val (.t 6), none⟩,
               ⟨some 56, .bin .shl (.t 55) (.c (.int .u64 8)), none⟩,
               ⟨some 57, .val (.t 8), none⟩,
               ⟨some 58, .conv .i64 (.t 57), none⟩,
               ⟨some 59, .bin .or (.t 56) (.t 58), none⟩,
               ⟨some 6, .val (.t 59), none⟩] [])))
            (.ops 15 false [
             ⟨some 60, .bin .add (.t 51) (.c (.int .i64 1)), none⟩,
             ⟨some 51, .val (.t 60), none⟩] [])))))))
      (.seq (.ops 16 false [
        ⟨some 9, .val (.c (.slice none 0 0)), none⟩] [])
       (.seq (.seq (.ops 17 false [
          ⟨some 61, .val (.t 4), none⟩,
          ⟨some 62, .slice 1 (.t 61) (some (.c (.int .i64 8))) none none, none⟩,
          ⟨some 4, .val (.t 62), none⟩] [])
         (.block 3 (.loop (.seq (.seq (.ops 18 false [
              ⟨some 63, .val (.t 4), none⟩,
              ⟨some 64, .len (.t 63), none⟩,
              ⟨some 65, .bin .gtr (.t 64) (.c (.int .i64 0)), none⟩] [])
             (.cond (.t 65) (.skip)
              (.exit 3)))
            (.seq (.block 4 (.ops 20 false [
               ⟨some 68, .val (.t 9), none⟩,
               ⟨some 69, .val (.t 4), none⟩,
               ⟨some 70, .slice 1 (.t 69) none (some (.c (.int .i64 32))) none, none⟩,
               ⟨some 71, .arrp 25 (.t 70), none⟩,
               ⟨some 72, .loadN 32 (.t 71), none⟩,
               ⟨some 73, .buildS 25 1 (List.replicate 32 (.int .u8 0)) [(0, 32, (.t 72))], none⟩,
               ⟨some 74, .blt .append #[33, 33] 33 [(.t 68), (.t 73)], none⟩,
               ⟨some 9, .val (.t 74), none⟩] []))
             (.ops 19 false [
              ⟨some 66, .val (.t 4), none⟩,
              ⟨some 67, .slice 1 (.t 66) (some (.c (.int .i64 32))) none none, none⟩,
              ⟨some 4, .val (.t 67), none⟩] []))))))
        (.seq (.ops 21 false [
          ⟨some 76, .val (.t 6), none⟩,
          ⟨some 77, .val (.t 9), none⟩,
          ⟨some 78, .call 119 [(.t 76), (.t 77)], none⟩,
          ⟨some 75, .val (.t 78), none⟩,
          ⟨some 79, .extract 0 (.t 75), none⟩,
          ⟨some 80, .extract 1 (.t 75), none⟩,
          ⟨some 10, .val (.t 79), none⟩,
          ⟨some 5, .val (.t 80), none⟩] [])
         (.seq (.seq (.ops 22 false [
            ⟨some 81, .val (.t 5), none⟩,
            ⟨some 82, .bin .neq (.t 81) (.c (.int .i64 0)), none⟩,
            ⟨some 83, .val (.t 82), none⟩,
            ⟨some 84, .val (.t 6), some (83, false)⟩,
            ⟨some 85, .bin .eql (.t 84) (.c (.int .i64 0)), some (83, false)⟩,
            ⟨some 86, .pick (.t 83) (.c (.bool true)) (.t 85), none⟩] [])
           (.cond (.t 86) (.seq (.ops 23 false [
              ⟨some 87, .build [(.pointer none)] [], none⟩,
              ⟨none, .store 1 (.t 2) (.t 87), none⟩,
              ⟨some 3, .val (.c (.int .i64 75)), none⟩] [])
             (.ret))
            (.skip)))
          (.seq (.ops 24 false [
            ⟨some 88, .val (.t 10), none⟩,
            ⟨some 89, .build [(.pointer none)] [(0, 1, (.t 88))], none⟩,
            ⟨none, .store 1 (.t 2) (.t 89), none⟩,
            ⟨some 3, .val (.c (.int .i64 0)), none⟩] [])
           (.ret)))))))))))
def rs79 : List RR := [.cell 2 (some 1), .tmp 3]
theorem fun79 : FunR Tryd.prog 79 rc79 rs79 90 := ⟨Tryd.f79, Tryd.func79, by kernel_rfl, by kernel_rfl, by kernel_rfl⟩
/-- causeway/wire.NewWriter -/
def rc92 : RC :=
 .seq (.ops 0 false [
  ⟨some 0, .val (.c (.pointer none)), none⟩] [])
 (.seq (.ops 1 false [
   ⟨some 1, .build [(.slice none 0 0), (.int .i64 0)] [], none⟩,
   ⟨some 2, .box 209 (.t 1), none⟩,
   ⟨some 0, .val (.t 2), none⟩] [])
  (.ret))
def rs92 : List RR := [.tmp 0]
theorem fun92 : FunR Tryd.prog 92 rc92 rs92 3 := ⟨Tryd.f92, Tryd.func92, by kernel_rfl, by kernel_rfl, by kernel_rfl⟩
/-- (*causeway/wire.Writer).Byte -/
def rc93 : RC :=
 .ops 0 false [
 ⟨some 4, .val (.t 0), none⟩,
 ⟨some 5, .val (.t 1), none⟩,
 ⟨some 6, .buildS 5 1 [(.int .u8 0)] [(0, 1, (.t 5))], none⟩,
 ⟨some 7, .buildS 79 1 [(.slice none 0 0)] [(0, 1, (.t 6))], none⟩,
 ⟨some 8, .call 131 [(.t 4), (.t 7)], none⟩] []
def rs93 : List RR := []
theorem fun93 : FunR Tryd.prog 93 rc93 rs93 9 := ⟨Tryd.f93, Tryd.func93, by kernel_rfl, by kernel_rfl, by kernel_rfl⟩
/-- (*causeway/wire.Writer).Number -/
def rc94 : RC :=
 .seq (.seq (.ops 0 false [
   ⟨some 4, .val (.t 1), none⟩,
   ⟨some 5, .bin .lss (.t 4) (.c (.int .i64 0)), none⟩] [])
  (.cond (.t 5) (.seq (.seq (.ops 1 false [
      ⟨some 6, .val (.t 0), none⟩,
      ⟨some 7, .nilCheck (.t 6), none⟩,
      ⟨some 8, .fieldA 1 (.t 7), none⟩,
      ⟨some 9, .load (.t 8), none⟩,
      ⟨some 10, .bin .eql (.t 9) (.c (.int .i64 0)), none⟩] [])
     (.cond (.t 10) (.ops 2 false [
       ⟨some 11, .val (.t 0), none⟩,
       ⟨some 12, .nilCheck (.t 11), none⟩,
       ⟨some 13, .fieldA 1 (.t 12), none⟩,
       ⟨none, .store 1 (.t 13) (.c (.int .i64 32)), none⟩] [])
      (.skip)))
    (.ret))
   (.skip)))
 (.ops 3 false [
  ⟨some 14, .val (.t 0), none⟩,
  ⟨some 15, .val (.t 1), none⟩,
  ⟨some 16, .call 132 [(.t 15)], none⟩,
  ⟨some 17, .buildS 79 1 [(.slice none 0 0)] [(0, 1, (.t 16))], none⟩,
  ⟨some 18, .call 131 [(.t 14), (.t 17)], none⟩] [])
def rs94 : List RR := []
theorem fun94 : FunR Tryd.prog 94 rc94 rs94 19 := ⟨Tryd.f94, Tryd.func94, by kernel_rfl, by kernel_rfl, by kernel_rfl⟩
/-- (*causeway/wire.Writer).Address -/
def rc95 : RC :=
 .seq (.ops 0 false [
  ⟨some 3, .box 27 (.t 1), none⟩] [])
 (.ops 1 false [
  ⟨some 4, .val (.t 0), none⟩,
  ⟨some 5, .sliceA 20 1 (.t 3) none none, none⟩,
  ⟨some 6, .buildS 79 1 [(.slice none 0 0)] [(0, 1, (.t 5))], none⟩,
  ⟨some 7, .call 131 [(.t 4), (.t 6)], none⟩] [])
def rs95 : List RR := []
theorem fun95 : FunR Tryd.prog 95 rc95 rs95 8 := ⟨Tryd.f95, Tryd.func95, by kernel_rfl, by kernel_rfl, by kernel_rfl⟩
/-- (*causeway/wire.Writer).Wide -/
def rc96 : RC :=
 .seq (.ops 0 false [
  ⟨some 3, .box 30 (.t 1), none⟩] [])
 (.seq (.ops 1 false [
   ⟨some 4, .alloc 24 (List.replicate 32 (.int .u8 0)), none⟩] [])
  (.seq (.seq (.ops 2 false [
     ⟨some 6, .val (.c (.int .i64 0)), none⟩] [])
    (.block 0 (.loop (.seq (.ops 3 false [
        ⟨some 7, .bin .lss (.t 6) (.c (.int .i64 32)), none⟩] [])
       (.seq (.cond (.t 7) (.skip)
         (.exit 0))
        (.seq (.block 1 (.seq (.ops 4 false [
            ⟨some 8, .val (.t 6), none⟩,
            ⟨some 5, .val (.t 8), none⟩] [])
           (.ops 5 false [
            ⟨some 9, .val (.t 5), none⟩,
            ⟨some 10, .val (.t 5), none⟩,
            ⟨some 11, .bin .quo (.t 10) (.c (.int .i64 8)), none⟩,
            ⟨some 12, .bin .sub (.c (.int .i64 3)) (.t 11), none⟩,
            ⟨some 13, .indexA 4 1 (.t 3) (.t 12), none⟩,
            ⟨some 14, .load (.t 13), none⟩,
            ⟨some 15, .val (.t 5), none⟩,
            ⟨some 16, .bin .rem (.t 15) (.c (.int .i64 8)), none⟩,
            ⟨some 17, .bin .mul (.c (.int .i64 8)) (.t 16), none⟩,
            ⟨some 18, .bin .sub (.c (.int .i64 56)) (.t 17), none⟩,
            ⟨some 19, .bin .shr (.t 14) (.t 18), none⟩,
            ⟨some 20, .conv .u8 (.t 19), none⟩,
            ⟨some 21, .indexA 32 1 (.t 4) (.t 9), none⟩,
            ⟨none, .store 1 (.t 21) (.t 20), none⟩] [])))
         (.ops 6 false [
          ⟨some 22, .bin .add (.t 6) (.c (.int .i64 1)), none⟩,
          ⟨some 6, .val (.t 22), none⟩] [])))))))
   (.ops 7 false [
    ⟨some 23, .val (.t 0), none⟩,
    ⟨some 24, .sliceA 32 1 (.t 4) none none, none⟩,
    ⟨some 25, .call 133 [(.t 24)], none⟩,
    ⟨some 26, .buildS 79 1 [(.slice none 0 0)] [(0, 1, (.t 25))], none⟩,
    ⟨some 27, .call 131 [(.t 23), (.t 26)], none⟩] [])))
def rs96 : List RR := []
theorem fun96 : FunR Tryd.prog 96 rc96 rs96 28 := ⟨Tryd.f96, Tryd.func96, by kernel_rfl, by kernel_rfl, by kernel_rfl⟩
/-- (*causeway/wire.Writer).Done -/
def rc97 : RC :=
 .seq (.ops 0 false [
  ⟨some 2, .val (.c (.slice none 0 0)), none⟩,
  ⟨some 3, .val (.c (.int .i64 0)), none⟩] [])
 (.seq (.seq (.ops 1 false [
    ⟨some 4, .val (.t 0), none⟩,
    ⟨some 5, .nilCheck (.t 4), none⟩,
    ⟨some 6, .fieldA 1 (.t 5), none⟩,
    ⟨some 7, .load (.t 6), none⟩,
    ⟨some 8, .bin .neq (.t 7) (.c (.int .i64 0)), none⟩] [])
   (.cond (.t 8) (.seq (.ops 2 true [
      ⟨some 9, .val (.t 0), none⟩,
      ⟨some 10, .nilCheck (.t 9), none⟩,
      ⟨some 11, .fieldA 1 (.t 10), none⟩,
      ⟨some 12, .load (.t 11), none⟩,
      ⟨some 2, .val (.c (.slice none 0 0)), none⟩,
      ⟨some 3, .val (.t 12), none⟩] [([], []), ([0], [0]), ([1], [1]), ([2], [2]), ([], []), ([3, 4, 0, 1, 2, 3, 4], [3])])
     (.ret))
    (.skip)))
  (.seq (.ops 3 false [
    ⟨some 13, .val (.t 0), none⟩,
    ⟨some 14, .nilCheck (.t 13), none⟩,
    ⟨some 15, .fieldA 0 (.t 14), none⟩,
    ⟨some 16, .load (.t 15), none⟩,
    ⟨some 17, .call 77 [(.t 16)], none⟩,
    ⟨some 2, .val (.t 17), none⟩,
    ⟨some 3, .val (.c (.int .i64 0)), none⟩] [])
   (.ret)))
def rs97 : List RR := [.tmp 2, .tmp 3]
theorem fun97 : FunR Tryd.prog 97 rc97 rs97 18 := ⟨Tryd.f97, Tryd.func97, by kernel_rfl, by kernel_rfl, by kernel_rfl⟩
/-- causeway/outbox.count -/
def rc116 : RC :=
 .seq (.ops 0 false [
  ⟨some 2, .val (.c (.bool false)), none⟩] [])
 (.seq (.ops 1 false [
   ⟨some 3, .val (.t 0), none⟩,
   ⟨some 4, .bin .geq (.t 3) (.c (.int .i64 0)), none⟩,
   ⟨some 5, .val (.t 4), none⟩,
   ⟨some 6, .val (.t 0), some (5, true)⟩,
   ⟨some 7, .bin .lss (.t 6) (.c (.int .i64 1099511627776)), some (5, true)⟩,
   ⟨some 8, .pick (.t 5) (.t 7) (.c (.bool false)), none⟩,
   ⟨some 2, .val (.t 8), none⟩] [])
  (.ret))
def rs116 : List RR := [.tmp 2]
theorem fun116 : FunR Tryd.prog 116 rc116 rs116 9 := ⟨Tryd.f116, Tryd.func116, by kernel_rfl, by kernel_rfl, by kernel_rfl⟩
/-- causeway/wide.IsZero -/
def rc117 : RC :=
 .seq (.ops 0 false [
  ⟨some 1, .box 30 (.t 0), none⟩,
  ⟨some 2, .val (.c (.bool false)), none⟩] [])
 (.seq (.ops 1 false [
   ⟨some 3, .loadN 4 (.t 1), none⟩,
   ⟨some 4, .build [(.int .u64 0), (.int .u64 0), (.int .u64 0), (.int .u64 0)] [], none⟩,
   ⟨some 5, .eqn false 30 (.t 3) (.t 4), none⟩,
   ⟨some 2, .val (.t 5), none⟩] [])
  (.ret))
def rs117 : List RR := [.tmp 2]
theorem fun117 : FunR Tryd.prog 117 rc117 rs117 6 := ⟨Tryd.f117, Tryd.func117, by kernel_rfl, by kernel_rfl, by kernel_rfl⟩
/-- (*causeway/wire.Writer).lay -/
def rc131 : RC :=
 .seq (.ops 0 false [
  ⟨some 9, .val (.t 0), none⟩,
  ⟨some 10, .nilCheck (.t 9), none⟩,
  ⟨some 11, .fieldA 0 (.t 10), none⟩,
  ⟨some 12, .load (.t 11), none⟩,
  ⟨some 13, .len (.t 12), none⟩,
  ⟨some 4, .val (.t 13), none⟩] [])
 (.seq (.seq (.ops 1 false [
    ⟨some 14, .val (.t 1), none⟩,
    ⟨some 15, .len (.t 14), none⟩,
    ⟨some 16, .val (.c (.int .i64 0)), none⟩] [])
   (.block 0 (.loop (.seq (.ops 2 false [
       ⟨some 17, .bin .lss (.t 16) (.t 15), none⟩] [])
      (.seq (.cond (.t 17) (.skip)
        (.exit 0))
       (.seq (.block 1 (.seq (.ops 3 false [
           ⟨some 18, .indexS 1 (.t 14) (.t 16), none⟩,
           ⟨some 19, .load (.t 18), none⟩,
           ⟨some 6, .val (.t 19), none⟩] [])
          (.ops 4 false [
           ⟨some 20, .val (.t 4), none⟩,
           ⟨some 21, .val (.t 6), none⟩,
           ⟨some 22, .len (.t 21), none⟩,
           ⟨some 23, .bin .add (.t 20) (.t 22), none⟩,
           ⟨some 4, .val (.t 23), none⟩] [])))
        (.ops 5 false [
         ⟨some 24, .bin .add (.t 16) (.c (.int .i64 1)), none⟩,
         ⟨some 16, .val (.t 24), none⟩] [])))))))
  (.block 2 (.seq (.ops 11 false [
     ⟨some 42, .val (.t 0), none⟩,
     ⟨some 43, .nilCheck (.t 42), none⟩,
     ⟨some 44, .fieldA 1 (.t 43), none⟩,
     ⟨some 45, .load (.t 44), none⟩,
     ⟨some 46, .bin .neq (.t 45) (.c (.int .i64 0)), none⟩,
     ⟨some 41, .val (.t 46), none⟩] [])
    (.cond (.t 41) (.skip)
     (.seq (.ops 12 false [
       ⟨some 48, .val (.t 4), none⟩,
       ⟨some 49, .bin .gtr (.t 48) (.c (.int .i64 4194304)), none⟩,
       ⟨some 47, .val (.t 49), none⟩] [])
      (.cond (.t 47) (.ops 13 false [
        ⟨some 50, .val (.t 0), none⟩,
        ⟨some 51, .nilCheck (.t 50), none⟩,
        ⟨some 52, .fieldA 1 (.t 51), none⟩,
        ⟨none, .store 1 (.t 52) (.c (.int .i64 30)), none⟩] [])
       (.seq (.ops 6 false [
         ⟨some 25, .val (.t 1), none⟩,
         ⟨some 26, .len (.t 25), none⟩,
         ⟨some 27, .val (.c (.int .i64 0)), none⟩] [])
        (.block 3 (.loop (.seq (.ops 7 false [
            ⟨some 28, .bin .lss (.t 27) (.t 26), none⟩] [])
           (.seq (.cond (.t 28) (.skip)
             (.exit 3))
            (.seq (.block 4 (.seq (.ops 8 false [
                ⟨some 29, .indexS 1 (.t 25) (.t 27), none⟩,
                ⟨some 30, .load (.t 29), none⟩,
                ⟨some 8, .val (.t 30), none⟩] [])
               (.ops 9 false [
                ⟨some 31, .val (.t 0), none⟩,
                ⟨some 32, .val (.t 0), none⟩,
                ⟨some 33, .nilCheck (.t 32), none⟩,
                ⟨some 34, .fieldA 0 (.t 33), none⟩,
                ⟨some 35, .load (.t 34), none⟩,
                ⟨some 36, .val (.t 8), none⟩,
                ⟨some 37, .blt .append #[79, 79] 79 [(.t 35), (.t 36)], none⟩,
                ⟨some 38, .nilCheck (.t 31), none⟩,
                ⟨some 39, .fieldA 0 (.t 38), none⟩,
                ⟨none, .store 1 (.t 39) (.t 37), none⟩] [])))
             (.ops 10 false [
              ⟨some 40, .bin .add (.t 27) (.c (.int .i64 1)), none⟩,
              ⟨some 27, .val (.t 40), none⟩] [])))))))))))))
def rs131 : List RR := []
theorem fun131 : FunR Tryd.prog 131 rc131 rs131 53 := ⟨Tryd.f131, Tryd.func131, by kernel_rfl, by kernel_rfl, by kernel_rfl⟩
/-- causeway/wire.form -/
def rc132 : RC :=
 .seq (.ops 0 false [
  ⟨some 2, .val (.c (.slice none 0 0)), none⟩] [])
 (.seq (.ops 1 false [
   ⟨some 3, .alloc 196 (List.replicate 8 (.int .u8 0)), none⟩] [])
  (.seq (.seq (.ops 2 false [
     ⟨some 5, .val (.c (.int .i64 0)), none⟩] [])
    (.block 0 (.loop (.seq (.ops 3 false [
        ⟨some 6, .bin .lss (.t 5) (.c (.int .i64 8)), none⟩] [])
       (.seq (.cond (.t 6) (.skip)
         (.exit 0))
        (.seq (.block 1 (.seq (.ops 4 false [
            ⟨some 7, .val (.t 5), none⟩,
            ⟨some 4, .val (.t 7), none⟩] [])
           (.ops 5 false [
            ⟨some 8, .val (.t 4), none⟩,
            ⟨some 9, .val (.t 0), none⟩,
            ⟨some 10, .val (.t 4), none⟩,
            ⟨some 11, .bin .mul (.c (.int .i64 8)) (.t 10), none⟩,
            ⟨some 12, .bin .sub (.c (.int .i64 56)) (.t 11), none⟩,
            ⟨some 13, .bin .shr (.t 9) (.t 12), none⟩,
            ⟨some 14, .conv .u8 (.t 13), none⟩,
            ⟨some 15, .indexA 8 1 (.t 3) (.t 8), none⟩,
            ⟨none, .store 1 (.t 15) (.t 14), none⟩] [])))
         (.ops 6 false [
          ⟨some 16, .bin .add (.t 5) (.c (.int .i64 1)), none⟩,
          ⟨some 5, .val (.t 16), none⟩] [])))))))
   (.seq (.ops 7 false [
     ⟨some 17, .sliceA 8 1 (.t 3) none none, none⟩,
     ⟨some 18, .call 133 [(.t 17)], none⟩,
     ⟨some 2, .val (.t 18), none⟩] [])
    (.ret))))
def rs132 : List RR := [.tmp 2]
theorem fun132 : FunR Tryd.prog 132 rc132 rs132 19 := ⟨Tryd.f132, Tryd.func132, by kernel_rfl, by kernel_rfl, by kernel_rfl⟩
/-- causeway/wire.short -/
def rc133 : RC :=
 .seq (.ops 0 false [
  ⟨some 2, .val (.c (.slice none 0 0)), none⟩] [])
 (.seq (.block 0 (.loop (.seq (.seq (.ops 1 false [
       ⟨some 3, .val (.t 0), none⟩,
       ⟨some 4, .len (.t 3), none⟩,
       ⟨some 5, .bin .gtr (.t 4) (.c (.int .i64 0)), none⟩,
       ⟨some 6, .val (.t 5), none⟩,
       ⟨some 7, .val (.t 0), some (6, true)⟩,
       ⟨some 8, .indexS 1 (.t 7) (.c (.int .i64 0)), some (6, true)⟩,
       ⟨some 9, .load (.t 8), some (6, true)⟩,
       ⟨some 10, .bin .eql (.t 9) (.c (.int .u8 0)), some (6, true)⟩,
       ⟨some 11, .pick (.t 6) (.t 10) (.c (.bool false)), none⟩] [])
      (.cond (.t 11) (.skip)
       (.exit 0)))
     (.block 1 (.ops 2 false [
       ⟨some 12, .val (.t 0), none⟩,
       ⟨some 13, .slice 1 (.t 12) (some (.c (.int .i64 1))) none none, none⟩,
       ⟨some 0, .val (.t 13), none⟩] [])))))
  (.seq (.ops 3 false [
    ⟨some 14, .val (.t 0), none⟩,
    ⟨some 15, .len (.t 14), none⟩,
    ⟨some 16, .conv .u8 (.t 15), none⟩,
    ⟨some 17, .buildS 5 1 [(.int .u8 0)] [(0, 1, (.t 16))], none⟩,
    ⟨some 18, .val (.t 0), none⟩,
    ⟨some 19, .blt .append #[79, 79] 79 [(.t 17), (.t 18)], none⟩,
    ⟨some 2, .val (.t 19), none⟩] [])
   (.ret)))
def rs133 : List RR := [.tmp 2]
theorem fun133 : FunR Tryd.prog 133 rc133 rs133 20 := ⟨Tryd.f133, Tryd.func133, by kernel_rfl, by kernel_rfl, by kernel_rfl⟩
end Go.Proofs.YthdpknlnpeaiiaaDoor
