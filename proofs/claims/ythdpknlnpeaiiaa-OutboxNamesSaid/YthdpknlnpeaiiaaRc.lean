/-
  The resolved texts of this seat's functions, printed by this session's own program, and that they are what the translation has.
-/
import Derived.Test.YthdpknlnpeaiiaaChecked
import Derived.Test.YthdpknlnpeaiiaaCd
import Derived.KernelRfl
namespace Go.Proofs.Ythdpknlnpeaiiaa
open Go Go.Sl
set_option maxRecDepth 100000
/-- causeway/causewaylaw11.OutboxNames -/
def rc3 : RC :=
 .seq (.ops 0 false [
  ⟨some 0, .val (.c (.bool false)), none⟩] [])
 (.seq (.ops 1 false [
   ⟨some 1, .val (.c (.bool true)), none⟩] [])
  (.seq (.ops 2 false [
    ⟨some 2, .val (.t 1), none⟩,
    ⟨some 3, .val (.t 2), none⟩,
    ⟨some 4, .pick (.t 3) (.c (.bool true)) (.c (.bool false)), none⟩,
    ⟨some 5, .val (.t 4), none⟩,
    ⟨some 6, .pick (.t 5) (.c (.bool true)) (.c (.bool false)), none⟩,
    ⟨some 7, .val (.t 6), none⟩,
    ⟨some 8, .call 4 [], some (7, true)⟩,
    ⟨some 9, .pick (.t 7) (.t 8) (.c (.bool false)), none⟩,
    ⟨some 0, .val (.t 9), none⟩] [])
   (.ret)))
def rs3 : List RR := [.tmp 0]
theorem fun3 : FunR Try.prog 3 rc3 rs3 10 := ⟨Try.f3, Try.func3, by kernel_rfl, by kernel_rfl, by kernel_rfl⟩
/-- causeway/causewaylaw11.known -/
def rc4 : RC :=
 .seq (.ops 0 false [
  ⟨some 0, .val (.c (.bool false)), none⟩] [])
 (.seq (.ops 1 false [
   ⟨some 8, .call 5 [], none⟩,
   ⟨some 1, .val (.t 8), none⟩] [])
  (.seq (.seq (.ops 2 false [
     ⟨some 9, .val (.t 1), none⟩,
     ⟨some 10, .eqp .ptr false (.t 9) (.c (.pointer none)), none⟩] [])
    (.cond (.t 10) (.seq (.ops 3 false [
       ⟨some 0, .val (.c (.bool false)), none⟩] [])
      (.ret))
     (.skip)))
   (.seq (.ops 4 false [
     ⟨some 11, .build [(.int .u64 0), (.int .u64 0), (.int .u64 0), (.int .u64 0)] [(0, 1, (.c (.int .u64 256)))], none⟩,
     ⟨some 12, .build [(.int .i64 0), (.int .i64 0), (.int .i64 0), (.int .u8 0), (.int .u8 0), (.int .u8 0), (.int .u8 0), (.int .u8 0), (.int .u8 0), (.int .u8 0), (.int .u8 0), (.int .u8 0), (.int .u8 0), (.int .u8 0), (.int .u8 0), (.int .u8 0), (.int .u8 0), (.int .u8 0), (.int .u8 0), (.int .u8 0), (.int .u8 0), (.int .u8 0), (.int .u8 0), (.int .u64 0), (.int .u64 0), (.int .u64 0), (.int .u64 0)] [(1, 1, (.c (.int .i64 5))), (2, 1, (.c (.int .i64 3))), (23, 4, (.t 11))], none⟩,
     ⟨some 2, .alloc 31 [(.int .i64 0), (.int .i64 0), (.int .i64 0), (.int .u8 0), (.int .u8 0), (.int .u8 0), (.int .u8 0), (.int .u8 0), (.int .u8 0), (.int .u8 0), (.int .u8 0), (.int .u8 0), (.int .u8 0), (.int .u8 0), (.int .u8 0), (.int .u8 0), (.int .u8 0), (.int .u8 0), (.int .u8 0), (.int .u8 0), (.int .u8 0), (.int .u8 0), (.int .u8 0), (.int .u64 0), (.int .u64 0), (.int .u64 0), (.int .u64 0)], none⟩,
     ⟨none, .store 27 (.t 2) (.t 12), none⟩] [])
    (.seq (.ops 5 false [
      ⟨some 14, .loadN 27 (.t 2), none⟩,
      ⟨some 15, .call 6 [(.t 14)], none⟩,
      ⟨some 13, .val (.t 15), none⟩,
      ⟨some 16, .extract 0 (.t 13), none⟩,
      ⟨some 17, .extract 1 (.t 13), none⟩,
      ⟨some 3, .val (.t 16), none⟩,
      ⟨some 4, .val (.t 17), none⟩] [])
     (.seq (.ops 6 false [
       ⟨some 18, .val (.t 1), none⟩,
       ⟨some 19, .loadN 27 (.t 2), none⟩,
       ⟨some 20, .call 7 [(.t 18), (.t 19)], none⟩,
       ⟨some 5, .val (.t 20), none⟩] [])
      (.seq (.ops 7 false [
        ⟨some 22, .val (.t 1), none⟩,
        ⟨some 23, .call 8 [(.t 22), (.c (.int .i64 0))], none⟩,
        ⟨some 21, .val (.t 23), none⟩,
        ⟨some 24, .extract 0 (.t 21), none⟩,
        ⟨some 25, .extract 1 (.t 21), none⟩,
        ⟨some 6, .alloc 31 [(.int .i64 0), (.int .i64 0), (.int .i64 0), (.int .u8 0), (.int .u8 0), (.int .u8 0), (.int .u8 0), (.int .u8 0), (.int .u8 0), (.int .u8 0), (.int .u8 0), (.int .u8 0), (.int .u8 0), (.int .u8 0), (.int .u8 0), (.int .u8 0), (.int .u8 0), (.int .u8 0), (.int .u8 0), (.int .u8 0), (.int .u8 0), (.int .u8 0), (.int .u8 0), (.int .u64 0), (.int .u64 0), (.int .u64 0), (.int .u64 0)], none⟩,
        ⟨none, .store 27 (.t 6) (.t 24), none⟩,
        ⟨some 7, .val (.t 25), none⟩] [])
       (.seq (.ops 8 false [
         ⟨some 26, .val (.t 4), none⟩,
         ⟨some 27, .bin .eql (.t 26) (.c (.int .i64 0)), none⟩,
         ⟨some 28, .val (.t 27), none⟩,
         ⟨some 29, .val (.t 3), some (28, true)⟩,
         ⟨some 30, .len (.t 29), some (28, true)⟩,
         ⟨some 31, .bin .eql (.t 30) (.c (.int .i64 29)), some (28, true)⟩,
         ⟨some 32, .pick (.t 28) (.t 31) (.c (.bool false)), none⟩,
         ⟨some 33, .val (.t 32), none⟩,
         ⟨some 34, .val (.t 3), some (33, true)⟩,
         ⟨some 35, .indexS 1 (.t 34) (.c (.int .i64 0)), some (33, true)⟩,
         ⟨some 36, .load (.t 35), some (33, true)⟩,
         ⟨some 37, .bin .eql (.t 36) (.c (.int .u8 76)), some (33, true)⟩,
         ⟨some 38, .pick (.t 33) (.t 37) (.c (.bool false)), none⟩,
         ⟨some 39, .val (.t 38), none⟩,
         ⟨some 40, .val (.t 3), some (39, true)⟩,
         ⟨some 41, .indexS 1 (.t 40) (.c (.int .i64 1)), some (39, true)⟩,
         ⟨some 42, .load (.t 41), some (39, true)⟩,
         ⟨some 43, .bin .eql (.t 42) (.c (.int .u8 0)), some (39, true)⟩,
         ⟨some 44, .pick (.t 39) (.t 43) (.c (.bool false)), none⟩,
         ⟨some 45, .val (.t 44), none⟩,
         ⟨some 46, .val (.t 3), some (45, true)⟩,
         ⟨some 47, .indexS 1 (.t 46) (.c (.int .i64 2)), some (45, true)⟩,
         ⟨some 48, .load (.t 47), some (45, true)⟩,
         ⟨some 49, .bin .eql (.t 48) (.c (.int .u8 1)), some (45, true)⟩,
         ⟨some 50, .pick (.t 45) (.t 49) (.c (.bool false)), none⟩,
         ⟨some 51, .val (.t 50), none⟩,
         ⟨some 52, .val (.t 3), some (51, true)⟩,
         ⟨some 53, .indexS 1 (.t 52) (.c (.int .i64 3)), some (51, true)⟩,
         ⟨some 54, .load (.t 53), some (51, true)⟩,
         ⟨some 55, .bin .eql (.t 54) (.c (.int .u8 5)), some (51, true)⟩,
         ⟨some 56, .pick (.t 51) (.t 55) (.c (.bool false)), none⟩,
         ⟨some 57, .val (.t 56), none⟩,
         ⟨some 58, .val (.t 5), some (57, true)⟩,
         ⟨some 59, .bin .eql (.t 58) (.c (.int .i64 0)), some (57, true)⟩,
         ⟨some 60, .pick (.t 57) (.t 59) (.c (.bool false)), none⟩,
         ⟨some 61, .val (.t 60), none⟩,
         ⟨some 62, .val (.t 7), some (61, true)⟩,
         ⟨some 63, .bin .eql (.t 62) (.c (.int .i64 0)), some (61, true)⟩,
         ⟨some 64, .pick (.t 61) (.t 63) (.c (.bool false)), none⟩,
         ⟨some 65, .val (.t 64), none⟩,
         ⟨some 66, .loadN 27 (.t 6), some (65, true)⟩,
         ⟨some 67, .loadN 27 (.t 2), some (65, true)⟩,
         ⟨some 68, .eqn false 31 (.t 66) (.t 67), some (65, true)⟩,
         ⟨some 69, .pick (.t 65) (.t 68) (.c (.bool false)), none⟩,
         ⟨some 70, .val (.t 69), none⟩,
         ⟨some 71, .val (.t 1), some (70, true)⟩,
         ⟨some 72, .nilCheck (.t 71), some (70, true)⟩,
         ⟨some 73, .fieldA 0 (.t 72), some (70, true)⟩,
         ⟨some 74, .call 9 [(.t 73)], some (70, true)⟩,
         ⟨some 75, .bin .eql (.t 74) (.c (.int .i64 1)), some (70, true)⟩,
         ⟨some 76, .pick (.t 70) (.t 75) (.c (.bool false)), none⟩,
         ⟨some 0, .val (.t 76), none⟩] [])
        (.ret))))))))
def rs4 : List RR := [.tmp 0]
theorem fun4 : FunR Try.prog 4 rc4 rs4 77 := ⟨Try.f4, Try.func4, by kernel_rfl, by kernel_rfl, by kernel_rfl⟩
/-- causeway/outbox.New -/
def rc5 : RC :=
 .seq (.ops 0 false [
  ⟨some 0, .val (.c (.pointer none)), none⟩] [])
 (.seq (.ops 1 false [
   ⟨some 1, .build [(.slice none 0 0), (.slice none 0 0)] [], none⟩,
   ⟨some 2, .box 45 (.t 1), none⟩,
   ⟨some 0, .val (.t 2), none⟩] [])
  (.ret))
def rs5 : List RR := [.tmp 0]
theorem fun5 : FunR Try.prog 5 rc5 rs5 3 := ⟨Try.f5, Try.func5, by kernel_rfl, by kernel_rfl, by kernel_rfl⟩
/-- causeway/outbox.Bytes -/
def rc6 : RC :=
 .seq (.ops 0 false [
  ⟨some 1, .box 31 (.t 0), none⟩,
  ⟨some 2, .val (.c (.slice none 0 0)), none⟩,
  ⟨some 3, .val (.c (.int .i64 0)), none⟩] [])
 (.seq (.seq (.ops 1 false [
    ⟨some 5, .loadN 27 (.t 1), none⟩,
    ⟨some 6, .call 10 [(.t 5)], none⟩,
    ⟨some 7, .not (.t 6), none⟩] [])
   (.cond (.t 7) (.seq (.ops 2 false [
      ⟨some 2, .val (.c (.slice none 0 0)), none⟩,
      ⟨some 3, .val (.c (.int .i64 110)), none⟩] [])
     (.ret))
    (.skip)))
  (.seq (.ops 3 false [
    ⟨some 8, .call 11 [], none⟩,
    ⟨some 4, .val (.t 8), none⟩] [])
   (.seq (.ops 4 false [
     ⟨some 9, .val (.t 4), none⟩,
     ⟨some 10, .call 12 [(.t 9), (.c (.int .u8 76))], none⟩] [])
    (.seq (.ops 5 false [
      ⟨some 11, .val (.t 4), none⟩,
      ⟨some 12, .fieldA 0 (.t 1), none⟩,
      ⟨some 13, .load (.t 12), none⟩,
      ⟨some 14, .call 13 [(.t 11), (.t 13)], none⟩] [])
     (.seq (.ops 6 false [
       ⟨some 15, .val (.t 4), none⟩,
       ⟨some 16, .fieldA 1 (.t 1), none⟩,
       ⟨some 17, .load (.t 16), none⟩,
       ⟨some 18, .call 13 [(.t 15), (.t 17)], none⟩] [])
      (.seq (.ops 7 false [
        ⟨some 19, .val (.t 4), none⟩,
        ⟨some 20, .fieldA 2 (.t 1), none⟩,
        ⟨some 21, .load (.t 20), none⟩,
        ⟨some 22, .call 13 [(.t 19), (.t 21)], none⟩] [])
       (.seq (.ops 8 false [
         ⟨some 23, .val (.t 4), none⟩,
         ⟨some 24, .fieldA 3 (.t 1), none⟩,
         ⟨some 25, .loadN 20 (.t 24), none⟩,
         ⟨some 26, .call 14 [(.t 23), (.t 25)], none⟩] [])
        (.seq (.ops 9 false [
          ⟨some 27, .val (.t 4), none⟩,
          ⟨some 28, .fieldA 23 (.t 1), none⟩,
          ⟨some 29, .loadN 4 (.t 28), none⟩,
          ⟨some 30, .call 15 [(.t 27), (.t 29)], none⟩] [])
         (.seq (.ops 10 false [
           ⟨some 31, .val (.t 4), none⟩,
           ⟨some 32, .call 16 [(.t 31)], none⟩,
           ⟨some 33, .extract 0 (.t 32), none⟩,
           ⟨some 34, .extract 1 (.t 32), none⟩,
           ⟨some 2, .val (.t 33), none⟩,
           ⟨some 3, .val (.t 34), none⟩] [])
          (.ret))))))))))
def rs6 : List RR := [.tmp 2, .tmp 3]
theorem fun6 : FunR Try.prog 6 rc6 rs6 35 := ⟨Try.f6, Try.func6, by kernel_rfl, by kernel_rfl, by kernel_rfl⟩
/-- (*causeway/outbox.Book).Put -/
def rc7 : RC :=
 .seq (.ops 0 false [
  ⟨some 3, .box 31 (.t 1), none⟩,
  ⟨some 4, .val (.c (.int .i64 0)), none⟩] [])
 (.seq (.ops 1 false [
   ⟨some 8, .loadN 27 (.t 3), none⟩,
   ⟨some 9, .call 6 [(.t 8)], none⟩,
   ⟨some 7, .val (.t 9), none⟩,
   ⟨some 10, .extract 0 (.t 7), none⟩,
   ⟨some 11, .extract 1 (.t 7), none⟩,
   ⟨some 5, .val (.t 10), none⟩,
   ⟨some 6, .val (.t 11), none⟩] [])
  (.seq (.block 0 (.seq (.ops 2 false [
      ⟨some 13, .val (.t 6), none⟩,
      ⟨some 14, .bin .neq (.t 13) (.c (.int .i64 0)), none⟩,
      ⟨some 12, .val (.t 14), none⟩] [])
     (.cond (.t 12) (.seq (.ops 3 false [
        ⟨some 15, .val (.t 6), none⟩,
        ⟨some 4, .val (.t 15), none⟩] [])
       (.ret))
      (.seq (.ops 4 true [
        ⟨some 17, .fieldA 0 (.t 3), none⟩,
        ⟨some 18, .load (.t 17), none⟩,
        ⟨some 19, .val (.t 0), none⟩,
        ⟨some 20, .nilCheck (.t 19), none⟩,
        ⟨some 21, .fieldA 0 (.t 20), none⟩,
        ⟨some 22, .call 9 [(.t 21)], none⟩,
        ⟨some 23, .bin .neq (.t 18) (.t 22), none⟩,
        ⟨some 16, .val (.t 23), none⟩] [([], []), ([0], [0]), ([], []), ([2], [2]), ([3], [3]), ([4], [4]), ([1, 5], [1, 5]), ([6, 5], [6])])
       (.cond (.t 16) (.seq (.ops 5 false [
          ⟨some 4, .val (.c (.int .i64 111)), none⟩] [])
         (.ret))
        (.skip))))))
   (.seq (.ops 6 true [
     ⟨some 24, .val (.t 0), none⟩,
     ⟨some 25, .val (.t 0), none⟩,
     ⟨some 26, .nilCheck (.t 25), none⟩,
     ⟨some 27, .fieldA 0 (.t 26), none⟩,
     ⟨some 28, .fieldA 0 (.t 27), none⟩,
     ⟨some 29, .load (.t 28), none⟩,
     ⟨some 30, .loadN 27 (.t 3), none⟩,
     ⟨some 31, .buildS 31 1 [(.int .i64 0), (.int .i64 0), (.int .i64 0), (.int .u8 0), (.int .u8 0), (.int .u8 0), (.int .u8 0), (.int .u8 0), (.int .u8 0), (.int .u8 0), (.int .u8 0), (.int .u8 0), (.int .u8 0), (.int .u8 0), (.int .u8 0), (.int .u8 0), (.int .u8 0), (.int .u8 0), (.int .u8 0), (.int .u8 0), (.int .u8 0), (.int .u8 0), (.int .u8 0), (.int .u64 0), (.int .u64 0), (.int .u64 0), (.int .u64 0)] [(0, 27, (.t 30))], none⟩,
     ⟨some 32, .blt .append #[40, 40] 40 [(.t 29), (.t 31)], none⟩,
     ⟨some 33, .nilCheck (.t 24), none⟩,
     ⟨some 34, .fieldA 0 (.t 33), none⟩,
     ⟨some 35, .fieldA 0 (.t 34), none⟩,
     ⟨none, .store 1 (.t 35) (.t 32), none⟩] [([], []), ([], []), ([1], [1]), ([2], [2]), ([3], [3]), ([4], [4]), ([], []), ([6], [6]), ([5, 7], [5, 7]), ([0, 0, 1, 2, 3, 4, 5, 6, 7, 8], [0]), ([9, 0, 1, 2, 3, 4, 5, 6, 7, 8], [9]), ([10, 0, 1, 2, 3, 4, 5, 6, 7, 8], [10]), ([11, 8, 8, 0, 1, 2, 3, 4, 5, 6, 7, 8], [8, 11])])
    (.seq (.ops 7 false [
      ⟨some 36, .val (.t 0), none⟩,
      ⟨some 37, .val (.t 0), none⟩,
      ⟨some 38, .nilCheck (.t 37), none⟩,
      ⟨some 39, .fieldA 0 (.t 38), none⟩,
      ⟨some 40, .fieldA 1 (.t 39), none⟩,
      ⟨some 41, .load (.t 40), none⟩,
      ⟨some 42, .val (.t 5), none⟩,
      ⟨some 43, .buildS 32 1 [(.slice none 0 0)] [(0, 1, (.t 42))], none⟩,
      ⟨some 44, .blt .append #[41, 41] 41 [(.t 41), (.t 43)], none⟩,
      ⟨some 45, .nilCheck (.t 36), none⟩,
      ⟨some 46, .fieldA 0 (.t 45), none⟩,
      ⟨some 47, .fieldA 1 (.t 46), none⟩,
      ⟨none, .store 1 (.t 47) (.t 44), none⟩] [])
     (.seq (.ops 8 false [
       ⟨some 4, .val (.c (.int .i64 0)), none⟩] [])
      (.ret))))))
def rs7 : List RR := [.tmp 4]
theorem fun7 : FunR Try.prog 7 rc7 rs7 48 := ⟨Try.f7, Try.func7, by kernel_rfl, by kernel_rfl, by kernel_rfl⟩
/-- (*causeway/outbox.Book).Leaf -/
def rc8 : RC :=
 .seq (.ops 0 false [
  ⟨some 4, .alloc 31 [(.int .i64 0), (.int .i64 0), (.int .i64 0), (.int .u8 0), (.int .u8 0), (.int .u8 0), (.int .u8 0), (.int .u8 0), (.int .u8 0), (.int .u8 0), (.int .u8 0), (.int .u8 0), (.int .u8 0), (.int .u8 0), (.int .u8 0), (.int .u8 0), (.int .u8 0), (.int .u8 0), (.int .u8 0), (.int .u8 0), (.int .u8 0), (.int .u8 0), (.int .u8 0), (.int .u64 0), (.int .u64 0), (.int .u64 0), (.int .u64 0)], none⟩,
  ⟨some 5, .val (.c (.int .i64 0)), none⟩] [])
 (.seq (.seq (.ops 1 false [
    ⟨some 6, .val (.t 1), none⟩,
    ⟨some 7, .bin .lss (.t 6) (.c (.int .i64 0)), none⟩,
    ⟨some 8, .val (.t 7), none⟩,
    ⟨some 9, .val (.t 1), some (8, false)⟩,
    ⟨some 10, .val (.t 0), some (8, false)⟩,
    ⟨some 11, .nilCheck (.t 10), some (8, false)⟩,
    ⟨some 12, .fieldA 0 (.t 11), some (8, false)⟩,
    ⟨some 13, .call 9 [(.t 12)], some (8, false)⟩,
    ⟨some 14, .bin .geq (.t 9) (.t 13), some (8, false)⟩,
    ⟨some 15, .pick (.t 8) (.c (.bool true)) (.t 14), none⟩] [])
   (.cond (.t 15) (.seq (.ops 2 false [
      ⟨some 16, .build [(.int .i64 0), (.int .i64 0), (.int .i64 0), (.int .u8 0), (.int .u8 0), (.int .u8 0), (.int .u8 0), (.int .u8 0), (.int .u8 0), (.int .u8 0), (.int .u8 0), (.int .u8 0), (.int .u8 0), (.int .u8 0), (.int .u8 0), (.int .u8 0), (.int .u8 0), (.int .u8 0), (.int .u8 0), (.int .u8 0), (.int .u8 0), (.int .u8 0), (.int .u8 0), (.int .u64 0), (.int .u64 0), (.int .u64 0), (.int .u64 0)] [], none⟩,
      ⟨none, .store 27 (.t 4) (.t 16), none⟩,
      ⟨some 5, .val (.c (.int .i64 111)), none⟩] [])
     (.ret))
    (.skip)))
  (.seq (.ops 3 false [
    ⟨some 17, .val (.t 0), none⟩,
    ⟨some 18, .nilCheck (.t 17), none⟩,
    ⟨some 19, .fieldA 0 (.t 18), none⟩,
    ⟨some 20, .fieldA 0 (.t 19), none⟩,
    ⟨some 21, .load (.t 20), none⟩,
    ⟨some 22, .val (.t 1), none⟩,
    ⟨some 23, .indexS 27 (.t 21) (.t 22), none⟩,
    ⟨some 24, .loadN 27 (.t 23), none⟩,
    ⟨none, .store 27 (.t 4) (.t 24), none⟩,
    ⟨some 5, .val (.c (.int .i64 0)), none⟩] [])
   (.ret)))
def rs8 : List RR := [.cell 4 (some 27), .tmp 5]
theorem fun8 : FunR Try.prog 8 rc8 rs8 25 := ⟨Try.f8, Try.func8, by kernel_rfl, by kernel_rfl, by kernel_rfl⟩
/-- (*causeway/outbox.rows).Len -/
def rc9 : RC :=
 .seq (.ops 0 false [
  ⟨some 2, .val (.c (.int .i64 0)), none⟩] [])
 (.seq (.ops 1 false [
   ⟨some 3, .val (.t 0), none⟩,
   ⟨some 4, .nilCheck (.t 3), none⟩,
   ⟨some 5, .fieldA 0 (.t 4), none⟩,
   ⟨some 6, .load (.t 5), none⟩,
   ⟨some 7, .len (.t 6), none⟩,
   ⟨some 2, .val (.t 7), none⟩] [])
  (.ret))
def rs9 : List RR := [.tmp 2]
theorem fun9 : FunR Try.prog 9 rc9 rs9 8 := ⟨Try.f9, Try.func9, by kernel_rfl, by kernel_rfl, by kernel_rfl⟩
/-- causeway/outbox.may -/
def rc10 : RC :=
 .seq (.ops 0 false [
  ⟨some 1, .box 31 (.t 0), none⟩,
  ⟨some 2, .val (.c (.bool false)), none⟩] [])
 (.seq (.ops 1 false [
   ⟨some 3, .fieldA 0 (.t 1), none⟩,
   ⟨some 4, .load (.t 3), none⟩,
   ⟨some 5, .call 17 [(.t 4)], none⟩,
   ⟨some 6, .val (.t 5), none⟩,
   ⟨some 7, .fieldA 1 (.t 1), some (6, true)⟩,
   ⟨some 8, .load (.t 7), some (6, true)⟩,
   ⟨some 9, .call 17 [(.t 8)], some (6, true)⟩,
   ⟨some 10, .pick (.t 6) (.t 9) (.c (.bool false)), none⟩,
   ⟨some 11, .val (.t 10), none⟩,
   ⟨some 12, .fieldA 2 (.t 1), some (11, true)⟩,
   ⟨some 13, .load (.t 12), some (11, true)⟩,
   ⟨some 14, .bin .geq (.t 13) (.c (.int .i64 0)), some (11, true)⟩,
   ⟨some 15, .pick (.t 11) (.t 14) (.c (.bool false)), none⟩,
   ⟨some 16, .val (.t 15), none⟩,
   ⟨some 17, .fieldA 2 (.t 1), some (16, true)⟩,
   ⟨some 18, .load (.t 17), some (16, true)⟩,
   ⟨some 19, .bin .lss (.t 18) (.c (.int .i64 64)), some (16, true)⟩,
   ⟨some 20, .pick (.t 16) (.t 19) (.c (.bool false)), none⟩,
   ⟨some 21, .val (.t 20), none⟩,
   ⟨some 22, .fieldA 23 (.t 1), some (21, true)⟩,
   ⟨some 23, .loadN 4 (.t 22), some (21, true)⟩,
   ⟨some 24, .call 18 [(.t 23)], some (21, true)⟩,
   ⟨some 25, .not (.t 24), some (21, true)⟩,
   ⟨some 26, .pick (.t 21) (.t 25) (.c (.bool false)), none⟩,
   ⟨some 2, .val (.t 26), none⟩] [])
  (.ret))
def rs10 : List RR := [.tmp 2]
theorem fun10 : FunR Try.prog 10 rc10 rs10 27 := ⟨Try.f10, Try.func10, by kernel_rfl, by kernel_rfl, by kernel_rfl⟩
/-- causeway/wire.NewWriter -/
def rc11 : RC :=
 .seq (.ops 0 false [
  ⟨some 0, .val (.c (.pointer none)), none⟩] [])
 (.seq (.ops 1 false [
   ⟨some 1, .build [(.slice none 0 0), (.int .i64 0)] [], none⟩,
   ⟨some 2, .box 58 (.t 1), none⟩,
   ⟨some 0, .val (.t 2), none⟩] [])
  (.ret))
def rs11 : List RR := [.tmp 0]
theorem fun11 : FunR Try.prog 11 rc11 rs11 3 := ⟨Try.f11, Try.func11, by kernel_rfl, by kernel_rfl, by kernel_rfl⟩
/-- (*causeway/wire.Writer).Byte -/
def rc12 : RC :=
 .ops 0 false [
 ⟨some 4, .val (.t 0), none⟩,
 ⟨some 5, .val (.t 1), none⟩,
 ⟨some 6, .buildS 5 1 [(.int .u8 0)] [(0, 1, (.t 5))], none⟩,
 ⟨some 7, .buildS 32 1 [(.slice none 0 0)] [(0, 1, (.t 6))], none⟩,
 ⟨some 8, .call 19 [(.t 4), (.t 7)], none⟩] []
def rs12 : List RR := []
theorem fun12 : FunR Try.prog 12 rc12 rs12 9 := ⟨Try.f12, Try.func12, by kernel_rfl, by kernel_rfl, by kernel_rfl⟩
/-- (*causeway/wire.Writer).Number -/
def rc13 : RC :=
 .seq (.seq (.ops 0 false [
   ⟨some 4, .val (.t 1), none⟩,
   ⟨some 5, .bin .lss (.t 4) (.c (.int .i64 0)), none⟩] [])
  (.cond (.t 5) (.seq (.seq (.ops 1 false [
      ⟨some 6, .val (.t 0), none⟩,
      ⟨some 7, .nilCheck (.t 6), none⟩,
      ⟨some 8, .fieldA 1 (.t 7), none⟩,
      ⟨some 9, .load (.t 8), none⟩,
      ⟨some 10, .bin .eql (.t 9) (.c (.int .i64 0)), none⟩] [])
     (.cond (.t 10) (.ops 2 false [
       ⟨some 11, .val (.t 0), none⟩,
       ⟨some 12, .nilCheck (.t 11), none⟩,
       ⟨some 13, .fieldA 1 (.t 12), none⟩,
       ⟨none, .store 1 (.t 13) (.c (.int .i64 32)), none⟩] [])
      (.skip)))
    (.ret))
   (.skip)))
 (.ops 3 false [
  ⟨some 14, .val (.t 0), none⟩,
  ⟨some 15, .val (.t 1), none⟩,
  ⟨some 16, .call 20 [(.t 15)], none⟩,
  ⟨some 17, .buildS 32 1 [(.slice none 0 0)] [(0, 1, (.t 16))], none⟩,
  ⟨some 18, .call 19 [(.t 14), (.t 17)], none⟩] [])
def rs13 : List RR := []
theorem fun13 : FunR Try.prog 13 rc13 rs13 19 := ⟨Try.f13, Try.func13, by kernel_rfl, by kernel_rfl, by kernel_rfl⟩
/-- (*causeway/wire.Writer).Address -/
def rc14 : RC :=
 .seq (.ops 0 false [
  ⟨some 3, .box 29 (.t 1), none⟩] [])
 (.ops 1 false [
  ⟨some 4, .val (.t 0), none⟩,
  ⟨some 5, .sliceA 20 1 (.t 3) none none, none⟩,
  ⟨some 6, .buildS 32 1 [(.slice none 0 0)] [(0, 1, (.t 5))], none⟩,
  ⟨some 7, .call 19 [(.t 4), (.t 6)], none⟩] [])
def rs14 : List RR := []
theorem fun14 : FunR Try.prog 14 rc14 rs14 8 := ⟨Try.f14, Try.func14, by kernel_rfl, by kernel_rfl, by kernel_rfl⟩
/-- (*causeway/wire.Writer).Wide -/
def rc15 : RC :=
 .seq (.ops 0 false [
  ⟨some 3, .box 27 (.t 1), none⟩] [])
 (.seq (.ops 1 false [
   ⟨some 4, .alloc 61 (List.replicate 32 (.int .u8 0)), none⟩] [])
  (.seq (.seq (.ops 2 false [
     ⟨some 6, .val (.c (.int .i64 0)), none⟩] [])
    (.block 0 (.loop (.seq (.ops 3 false [
        ⟨some 7, .bin .lss (.t 6) (.c (.int .i64 32)), none⟩] [])
       (.seq (.cond (.t 7) (.skip)
         (.exit 0))
        (.seq (.block 1 (.seq (.ops 4 false [
            ⟨some 8, .val (.t 6), none⟩,
            ⟨some 5, .val (.t 8), none⟩] [])
           (.ops 5 false [
            ⟨some 9, .val (.t 5), none⟩,
            ⟨some 10, .val (.t 5), none⟩,
            ⟨some 11, .bin .quo (.t 10) (.c (.int .i64 8)), none⟩,
            ⟨some 12, .bin .sub (.c (.int .i64 3)) (.t 11), none⟩,
            ⟨some 13, .indexA 4 1 (.t 3) (.t 12), none⟩,
            ⟨some 14, .load (.t 13), none⟩,
            ⟨some 15, .val (.t 5), none⟩,
            ⟨some 16, .bin .rem (.t 15) (.c (.int .i64 8)), none⟩,
            ⟨some 17, .bin .mul (.c (.int .i64 8)) (.t 16), none⟩,
            ⟨some 18, .bin .sub (.c (.int .i64 56)) (.t 17), none⟩,
            ⟨some 19, .bin .shr (.t 14) (.t 18), none⟩,
            ⟨some 20, .conv .u8 (.t 19), none⟩,
            ⟨some 21, .indexA 32 1 (.t 4) (.t 9), none⟩,
            ⟨none, .store 1 (.t 21) (.t 20), none⟩] [])))
         (.ops 6 false [
          ⟨some 22, .bin .add (.t 6) (.c (.int .i64 1)), none⟩,
          ⟨some 6, .val (.t 22), none⟩] [])))))))
   (.ops 7 false [
    ⟨some 23, .val (.t 0), none⟩,
    ⟨some 24, .sliceA 32 1 (.t 4) none none, none⟩,
    ⟨some 25, .call 21 [(.t 24)], none⟩,
    ⟨some 26, .buildS 32 1 [(.slice none 0 0)] [(0, 1, (.t 25))], none⟩,
    ⟨some 27, .call 19 [(.t 23), (.t 26)], none⟩] [])))
def rs15 : List RR := []
theorem fun15 : FunR Try.prog 15 rc15 rs15 28 := ⟨Try.f15, Try.func15, by kernel_rfl, by kernel_rfl, by kernel_rfl⟩
/-- (*causeway/wire.Writer).Done -/
def rc16 : RC :=
 .seq (.ops 0 false [
  ⟨some 2, .val (.c (.slice none 0 0)), none⟩,
  ⟨some 3, .val (.c (.int .i64 0)), none⟩] [])
 (.seq (.seq (.ops 1 false [
    ⟨some 4, .val (.t 0), none⟩,
    ⟨some 5, .nilCheck (.t 4), none⟩,
    ⟨some 6, .fieldA 1 (.t 5), none⟩,
    ⟨some 7, .load (.t 6), none⟩,
    ⟨some 8, .bin .neq (.t 7) (.c (.int .i64 0)), none⟩] [])
   (.cond (.t 8) (.seq (.ops 2 true [
      ⟨some 9, .val (.t 0), none⟩,
      ⟨some 10, .nilCheck (.t 9), none⟩,
      ⟨some 11, .fieldA 1 (.t 10), none⟩,
      ⟨some 12, .load (.t 11), none⟩,
      ⟨some 2, .val (.c (.slice none 0 0)), none⟩,
      ⟨some 3, .val (.t 12), none⟩] [([], []), ([0], [0]), ([1], [1]), ([2], [2]), ([], []), ([3, 4, 0, 1, 2, 3, 4], [3])])
     (.ret))
    (.skip)))
  (.seq (.ops 3 false [
    ⟨some 13, .val (.t 0), none⟩,
    ⟨some 14, .nilCheck (.t 13), none⟩,
    ⟨some 15, .fieldA 0 (.t 14), none⟩,
    ⟨some 16, .load (.t 15), none⟩,
    ⟨some 17, .call 22 [(.t 16)], none⟩,
    ⟨some 2, .val (.t 17), none⟩,
    ⟨some 3, .val (.c (.int .i64 0)), none⟩] [])
   (.ret)))
def rs16 : List RR := [.tmp 2, .tmp 3]
theorem fun16 : FunR Try.prog 16 rc16 rs16 18 := ⟨Try.f16, Try.func16, by kernel_rfl, by kernel_rfl, by kernel_rfl⟩
/-- causeway/outbox.count -/
def rc17 : RC :=
 .seq (.ops 0 false [
  ⟨some 2, .val (.c (.bool false)), none⟩] [])
 (.seq (.ops 1 false [
   ⟨some 3, .val (.t 0), none⟩,
   ⟨some 4, .bin .geq (.t 3) (.c (.int .i64 0)), none⟩,
   ⟨some 5, .val (.t 4), none⟩,
   ⟨some 6, .val (.t 0), some (5, true)⟩,
   ⟨some 7, .bin .lss (.t 6) (.c (.int .i64 1099511627776)), some (5, true)⟩,
   ⟨some 8, .pick (.t 5) (.t 7) (.c (.bool false)), none⟩,
   ⟨some 2, .val (.t 8), none⟩] [])
  (.ret))
def rs17 : List RR := [.tmp 2]
theorem fun17 : FunR Try.prog 17 rc17 rs17 9 := ⟨Try.f17, Try.func17, by kernel_rfl, by kernel_rfl, by kernel_rfl⟩
/-- causeway/wide.IsZero -/
def rc18 : RC :=
 .seq (.ops 0 false [
  ⟨some 1, .box 27 (.t 0), none⟩,
  ⟨some 2, .val (.c (.bool false)), none⟩] [])
 (.seq (.ops 1 false [
   ⟨some 3, .loadN 4 (.t 1), none⟩,
   ⟨some 4, .build [(.int .u64 0), (.int .u64 0), (.int .u64 0), (.int .u64 0)] [], none⟩,
   ⟨some 5, .eqn false 27 (.t 3) (.t 4), none⟩,
   ⟨some 2, .val (.t 5), none⟩] [])
  (.ret))
def rs18 : List RR := [.tmp 2]
theorem fun18 : FunR Try.prog 18 rc18 rs18 6 := ⟨Try.f18, Try.func18, by kernel_rfl, by kernel_rfl, by kernel_rfl⟩
/-- (*causeway/wire.Writer).lay -/
def rc19 : RC :=
 .seq (.ops 0 false [
  ⟨some 9, .val (.t 0), none⟩,
  ⟨some 10, .nilCheck (.t 9), none⟩,
  ⟨some 11, .fieldA 0 (.t 10), none⟩,
  ⟨some 12, .load (.t 11), none⟩,
  ⟨some 13, .len (.t 12), none⟩,
  ⟨some 4, .val (.t 13), none⟩] [])
 (.seq (.seq (.ops 1 false [
    ⟨some 14, .val (.t 1), none⟩,
    ⟨some 15, .len (.t 14), none⟩,
    ⟨some 16, .val (.c (.int .i64 0)), none⟩] [])
   (.block 0 (.loop (.seq (.ops 2 false [
       ⟨some 17, .bin .lss (.t 16) (.t 15), none⟩] [])
      (.seq (.cond (.t 17) (.skip)
        (.exit 0))
       (.seq (.block 1 (.seq (.ops 3 false [
           ⟨some 18, .indexS 1 (.t 14) (.t 16), none⟩,
           ⟨some 19, .load (.t 18), none⟩,
           ⟨some 6, .val (.t 19), none⟩] [])
          (.ops 4 false [
           ⟨some 20, .val (.t 4), none⟩,
           ⟨some 21, .val (.t 6), none⟩,
           ⟨some 22, .len (.t 21), none⟩,
           ⟨some 23, .bin .add (.t 20) (.t 22), none⟩,
           ⟨some 4, .val (.t 23), none⟩] [])))
        (.ops 5 false [
         ⟨some 24, .bin .add (.t 16) (.c (.int .i64 1)), none⟩,
         ⟨some 16, .val (.t 24), none⟩] [])))))))
  (.block 2 (.seq (.ops 11 false [
     ⟨some 42, .val (.t 0), none⟩,
     ⟨some 43, .nilCheck (.t 42), none⟩,
     ⟨some 44, .fieldA 1 (.t 43), none⟩,
     ⟨some 45, .load (.t 44), none⟩,
     ⟨some 46, .bin .neq (.t 45) (.c (.int .i64 0)), none⟩,
     ⟨some 41, .val (.t 46), none⟩] [])
    (.cond (.t 41) (.skip)
     (.seq (.ops 12 false [
       ⟨some 48, .val (.t 4), none⟩,
       ⟨some 49, .bin .gtr (.t 48) (.c (.int .i64 4194304)), none⟩,
       ⟨some 47, .val (.t 49), none⟩] [])
      (.cond (.t 47) (.ops 13 false [
        ⟨some 50, .val (.t 0), none⟩,
        ⟨some 51, .nilCheck (.t 50), none⟩,
        ⟨some 52, .fieldA 1 (.t 51), none⟩,
        ⟨none, .store 1 (.t 52) (.c (.int .i64 30)), none⟩] [])
       (.seq (.ops 6 false [
         ⟨some 25, .val (.t 1), none⟩,
         ⟨some 26, .len (.t 25), none⟩,
         ⟨some 27, .val (.c (.int .i64 0)), none⟩] [])
        (.block 3 (.loop (.seq (.ops 7 false [
            ⟨some 28, .bin .lss (.t 27) (.t 26), none⟩] [])
           (.seq (.cond (.t 28) (.skip)
             (.exit 3))
            (.seq (.block 4 (.seq (.ops 8 false [
                ⟨some 29, .indexS 1 (.t 25) (.t 27), none⟩,
                ⟨some 30, .load (.t 29), none⟩,
                ⟨some 8, .val (.t 30), none⟩] [])
               (.ops 9 false [
                ⟨some 31, .val (.t 0), none⟩,
                ⟨some 32, .val (.t 0), none⟩,
                ⟨some 33, .nilCheck (.t 32), none⟩,
                ⟨some 34, .fieldA 0 (.t 33), none⟩,
                ⟨some 35, .load (.t 34), none⟩,
                ⟨some 36, .val (.t 8), none⟩,
                ⟨some 37, .blt .append #[32, 32] 32 [(.t 35), (.t 36)], none⟩,
                ⟨some 38, .nilCheck (.t 31), none⟩,
                ⟨some 39, .fieldA 0 (.t 38), none⟩,
                ⟨none, .store 1 (.t 39) (.t 37), none⟩] [])))
             (.ops 10 false [
              ⟨some 40, .bin .add (.t 27) (.c (.int .i64 1)), none⟩,
              ⟨some 27, .val (.t 40), none⟩] [])))))))))))))
def rs19 : List RR := []
theorem fun19 : FunR Try.prog 19 rc19 rs19 53 := ⟨Try.f19, Try.func19, by kernel_rfl, by kernel_rfl, by kernel_rfl⟩
/-- causeway/wire.form -/
def rc20 : RC :=
 .seq (.ops 0 false [
  ⟨some 2, .val (.c (.slice none 0 0)), none⟩] [])
 (.seq (.ops 1 false [
   ⟨some 3, .alloc 63 (List.replicate 8 (.int .u8 0)), none⟩] [])
  (.seq (.seq (.ops 2 false [
     ⟨some 5, .val (.c (.int .i64 0)), none⟩] [])
    (.block 0 (.loop (.seq (.ops 3 false [
        ⟨some 6, .bin .lss (.t 5) (.c (.int .i64 8)), none⟩] [])
       (.seq (.cond (.t 6) (.skip)
         (.exit 0))
        (.seq (.block 1 (.seq (.ops 4 false [
            ⟨some 7, .val (.t 5), none⟩,
            ⟨some 4, .val (.t 7), none⟩] [])
           (.ops 5 false [
            ⟨some 8, .val (.t 4), none⟩,
            ⟨some 9, .val (.t 0), none⟩,
            ⟨some 10, .val (.t 4), none⟩,
            ⟨some 11, .bin .mul (.c (.int .i64 8)) (.t 10), none⟩,
            ⟨some 12, .bin .sub (.c (.int .i64 56)) (.t 11), none⟩,
            ⟨some 13, .bin .shr (.t 9) (.t 12), none⟩,
            ⟨some 14, .conv .u8 (.t 13), none⟩,
            ⟨some 15, .indexA 8 1 (.t 3) (.t 8), none⟩,
            ⟨none, .store 1 (.t 15) (.t 14), none⟩] [])))
         (.ops 6 false [
          ⟨some 16, .bin .add (.t 5) (.c (.int .i64 1)), none⟩,
          ⟨some 5, .val (.t 16), none⟩] [])))))))
   (.seq (.ops 7 false [
     ⟨some 17, .sliceA 8 1 (.t 3) none none, none⟩,
     ⟨some 18, .call 21 [(.t 17)], none⟩,
     ⟨some 2, .val (.t 18), none⟩] [])
    (.ret))))
def rs20 : List RR := [.tmp 2]
theorem fun20 : FunR Try.prog 20 rc20 rs20 19 := ⟨Try.f20, Try.func20, by kernel_rfl, by kernel_rfl, by kernel_rfl⟩
/-- causeway/wire.short -/
def rc21 : RC :=
 .seq (.ops 0 false [
  ⟨some 2, .val (.c (.slice none 0 0)), none⟩] [])
 (.seq (.block 0 (.loop (.seq (.seq (.ops 1 false [
       ⟨some 3, .val (.t 0), none⟩,
       ⟨some 4, .len (.t 3), none⟩,
       ⟨some 5, .bin .gtr (.t 4) (.c (.int .i64 0)), none⟩,
       ⟨some 6, .val (.t 5), none⟩,
       ⟨some 7, .val (.t 0), some (6, true)⟩,
       ⟨some 8, .indexS 1 (.t 7) (.c (.int .i64 0)), some (6, true)⟩,
       ⟨some 9, .load (.t 8), some (6, true)⟩,
       ⟨some 10, .bin .eql (.t 9) (.c (.int .u8 0)), some (6, true)⟩,
       ⟨some 11, .pick (.t 6) (.t 10) (.c (.bool false)), none⟩] [])
      (.cond (.t 11) (.skip)
       (.exit 0)))
     (.block 1 (.ops 2 false [
       ⟨some 12, .val (.t 0), none⟩,
       ⟨some 13, .slice 1 (.t 12) (some (.c (.int .i64 1))) none none, none⟩,
       ⟨some 0, .val (.t 13), none⟩] [])))))
  (.seq (.ops 3 false [
    ⟨some 14, .val (.t 0), none⟩,
    ⟨some 15, .len (.t 14), none⟩,
    ⟨some 16, .conv .u8 (.t 15), none⟩,
    ⟨some 17, .buildS 5 1 [(.int .u8 0)] [(0, 1, (.t 16))], none⟩,
    ⟨some 18, .val (.t 0), none⟩,
    ⟨some 19, .blt .append #[32, 32] 32 [(.t 17), (.t 18)], none⟩,
    ⟨some 2, .val (.t 19), none⟩] [])
   (.ret)))
def rs21 : List RR := [.tmp 2]
theorem fun21 : FunR Try.prog 21 rc21 rs21 20 := ⟨Try.f21, Try.func21, by kernel_rfl, by kernel_rfl, by kernel_rfl⟩
/-- slices.Clone[[]byte,byte] -/
def rc22 : RC :=
 .seq (.ops 0 false [
  ⟨some 2, .val (.c (.slice none 0 0)), none⟩] [])
 (.seq (.seq (.ops 1 false [
    ⟨some 3, .val (.t 0), none⟩,
    ⟨some 4, .eqp .slc false (.t 3) (.c (.slice none 0 0)), none⟩] [])
   (.cond (.t 4) (.seq (.ops 2 false [
      ⟨some 2, .val (.c (.slice none 0 0)), none⟩] [])
     (.ret))
    (.skip)))
  (.seq (.ops 3 false [
    ⟨some 5, .buildS 5 0 [] [], none⟩,
    ⟨some 6, .val (.t 0), none⟩,
    ⟨some 7, .blt .append #[32, 32] 32 [(.t 5), (.t 6)], none⟩,
    ⟨some 2, .val (.t 7), none⟩] [])
   (.ret)))
def rs22 : List RR := [.tmp 2]
theorem fun22 : FunR Try.prog 22 rc22 rs22 8 := ⟨Try.f22, Try.func22, by kernel_rfl, by kernel_rfl, by kernel_rfl⟩
end Go.Proofs.Ythdpknlnpeaiiaa
