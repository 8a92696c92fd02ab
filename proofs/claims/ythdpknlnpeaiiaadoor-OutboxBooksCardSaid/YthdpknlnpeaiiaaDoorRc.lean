/-
  The resolved texts of this seat's functions, printed by this session's own program, and that they are what the translation has.
-/
import Derived.Test.YthdpknlnpeaiiaaDoorChecked
import Derived.Test.YthdpknlnpeaiiaaDoorZCd
import Derived.KernelRfl
namespace Go.Proofs.YthdpknlnpeaiiaaDoor
open Go Go.Sl
set_option maxRecDepth 100000
/-- causeway/causewaylaw11.OutboxBooks -/
def rc4 : RC :=
 .seq (.ops 0 false [
  ⟨some 4, .val (.c (.bool false)), none⟩] [])
 (.seq (.ops 1 false [
   ⟨some 16, .call 15 [], none⟩,
   ⟨some 5, .val (.t 16), none⟩] [])
  (.seq (.ops 2 false [
    ⟨some 17, .call 15 [], none⟩,
    ⟨some 6, .val (.t 17), none⟩] [])
   (.seq (.seq (.ops 3 false [
      ⟨some 18, .val (.t 5), none⟩,
      ⟨some 19, .eqp .ptr false (.t 18) (.c (.pointer none)), none⟩,
      ⟨some 20, .val (.t 19), none⟩,
      ⟨some 21, .val (.t 6), some (20, false)⟩,
      ⟨some 22, .eqp .ptr false (.t 21) (.c (.pointer none)), some (20, false)⟩,
      ⟨some 23, .pick (.t 20) (.c (.bool true)) (.t 22), none⟩,
      ⟨some 24, .val (.t 23), none⟩,
      ⟨some 25, .call 11 [], some (24, false)⟩,
      ⟨some 26, .not (.t 25), some (24, false)⟩,
      ⟨some 27, .pick (.t 24) (.c (.bool true)) (.t 26), none⟩] [])
     (.cond (.t 27) (.seq (.ops 4 false [
        ⟨some 4, .val (.c (.bool false)), none⟩] [])
       (.ret))
      (.skip)))
    (.seq (.ops 5 false [
      ⟨some 28, .build [(.slice none 0 0), (.slice none 0 0), (.slice none 0 0), (.slice none 0 0)] [], none⟩,
      ⟨some 29, .box 47 (.t 28), none⟩,
      ⟨some 7, .val (.t 29), none⟩] [])
     (.seq (.ops 6 false [
       ⟨some 8, .val (.c (.slice none 0 0)), none⟩,
       ⟨some 9, .val (.c (.slice none 0 0)), none⟩] [])
      (.seq (.ops 7 false [
        ⟨some 10, .val (.c (.bool true)), none⟩] [])
       (.seq (.seq (.ops 8 false [
          ⟨some 11, .val (.c (.int .i64 0)), none⟩] [])
         (.block 0 (.loop (.seq (.seq (.ops 9 false [
              ⟨some 30, .val (.t 11), none⟩,
              ⟨some 31, .val (.t 0), none⟩,
              ⟨some 32, .len (.t 31), none⟩,
              ⟨some 33, .bin .lss (.t 30) (.t 32), none⟩,
              ⟨some 34, .val (.t 33), none⟩,
              ⟨some 35, .val (.t 11), some (34, false)⟩,
              ⟨some 36, .val (.t 1), some (34, false)⟩,
              ⟨some 37, .len (.t 36), some (34, false)⟩,
              ⟨some 38, .bin .lss (.t 35) (.t 37), some (34, false)⟩,
              ⟨some 39, .pick (.t 34) (.c (.bool true)) (.t 38), none⟩] [])
             (.cond (.t 39) (.skip)
              (.exit 0)))
            (.seq (.block 1 (.seq (.seq (.ops 11 false [
                 ⟨some 42, .val (.t 11), none⟩,
                 ⟨some 43, .val (.t 0), none⟩,
                 ⟨some 44, .len (.t 43), none⟩,
                 ⟨some 45, .bin .lss (.t 42) (.t 44), none⟩] [])
                (.cond (.t 45) (.seq (.ops 12 false [
                   ⟨some 47, .val (.t 7), none⟩,
                   ⟨some 48, .val (.t 5), none⟩,
                   ⟨some 49, .val (.t 8), none⟩,
                   ⟨some 50, .val (.t 0), none⟩,
                   ⟨some 51, .val (.t 11), none⟩,
                   ⟨some 52, .indexS 30 (.t 50) (.t 51), none⟩,
                   ⟨some 53, .loadN 30 (.t 52), none⟩,
                   ⟨some 54, .call 16 [(.t 47), (.t 48), (.t 49), (.t 53)], none⟩,
                   ⟨some 46, .val (.t 54), none⟩,
                   ⟨some 55, .extract 0 (.t 46), none⟩,
                   ⟨some 56, .extract 1 (.t 46), none⟩,
                   ⟨some 8, .val (.t 55), none⟩,
                   ⟨some 10, .val (.t 56), none⟩] [])
                  (.seq (.ops 13 false [
                    ⟨some 57, .val (.t 10), none⟩,
                    ⟨some 58, .not (.t 57), none⟩] [])
                   (.cond (.t 58) (.seq (.ops 14 false [
                      ⟨some 4, .val (.c (.bool false)), none⟩] [])
                     (.ret))
                    (.skip))))
                 (.skip)))
               (.seq (.ops 15 false [
                 ⟨some 59, .val (.t 11), none⟩,
                 ⟨some 60, .val (.t 1), none⟩,
                 ⟨some 61, .len (.t 60), none⟩,
                 ⟨some 62, .bin .lss (.t 59) (.t 61), none⟩] [])
                (.cond (.t 62) (.seq (.ops 16 false [
                   ⟨some 64, .val (.t 7), none⟩,
                   ⟨some 65, .val (.t 6), none⟩,
                   ⟨some 66, .val (.t 9), none⟩,
                   ⟨some 67, .val (.t 1), none⟩,
                   ⟨some 68, .val (.t 11), none⟩,
                   ⟨some 69, .indexS 30 (.t 67) (.t 68), none⟩,
                   ⟨some 70, .loadN 30 (.t 69), none⟩,
                   ⟨some 71, .call 16 [(.t 64), (.t 65), (.t 66), (.t 70)], none⟩,
                   ⟨some 63, .val (.t 71), none⟩,
                   ⟨some 72, .extract 0 (.t 63), none⟩,
                   ⟨some 73, .extract 1 (.t 63), none⟩,
                   ⟨some 9, .val (.t 72), none⟩,
                   ⟨some 10, .val (.t 73), none⟩] [])
                  (.seq (.ops 17 false [
                    ⟨some 74, .val (.t 10), none⟩,
                    ⟨some 75, .not (.t 74), none⟩] [])
                   (.cond (.t 75) (.seq (.ops 18 false [
                      ⟨some 4, .val (.c (.bool false)), none⟩] [])
                     (.ret))
                    (.skip))))
                 (.skip)))))
             (.ops 10 false [
              ⟨some 40, .val (.t 11), none⟩,
              ⟨some 41, .bin .add (.t 40) (.c (.int .i64 1)), none⟩,
              ⟨some 11, .val (.t 41), none⟩] []))))))
        (.seq (.ops 19 false [
          ⟨some 77, .val (.t 5), none⟩,
          ⟨some 78, .val (.t 8), none⟩,
          ⟨some 79, .len (.t 78), none⟩,
          ⟨some 80, .call 17 [(.t 77), (.t 79)], none⟩,
          ⟨some 76, .val (.t 80), none⟩,
          ⟨some 81, .extract 0 (.t 76), none⟩,
          ⟨some 82, .extract 1 (.t 76), none⟩,
          ⟨some 12, .alloc 25 (List.replicate 32 (.int .u8 0)), none⟩,
          ⟨none, .store 32 (.t 12) (.t 81), none⟩,
          ⟨some 13, .val (.t 82), none⟩] [])
         (.seq (.ops 20 false [
           ⟨some 84, .val (.t 8), none⟩,
           ⟨some 85, .val (.t 8), none⟩,
           ⟨some 86, .len (.t 85), none⟩,
           ⟨some 87, .call 18 [(.t 84), (.t 86)], none⟩,
           ⟨some 83, .val (.t 87), none⟩,
           ⟨some 88, .extract 0 (.t 83), none⟩,
           ⟨some 89, .extract 1 (.t 83), none⟩,
           ⟨some 14, .alloc 25 (List.replicate 32 (.int .u8 0)), none⟩,
           ⟨none, .store 32 (.t 14) (.t 88), none⟩,
           ⟨some 15, .val (.t 89), none⟩] [])
          (.seq (.ops 21 false [
            ⟨some 90, .loadN 32 (.t 12), none⟩,
            ⟨some 91, .loadN 32 (.t 14), none⟩,
            ⟨some 92, .eqn false 25 (.t 90) (.t 91), none⟩,
            ⟨some 93, .val (.t 92), none⟩,
            ⟨some 94, .val (.t 13), some (93, true)⟩,
            ⟨some 95, .val (.t 15), some (93, true)⟩,
            ⟨some 96, .bin .eql (.t 94) (.t 95), some (93, true)⟩,
            ⟨some 97, .pick (.t 93) (.t 96) (.c (.bool false)), none⟩,
            ⟨some 98, .val (.t 97), none⟩,
            ⟨some 99, .val (.t 6), some (98, true)⟩,
            ⟨some 100, .nilCheck (.t 99), some (98, true)⟩,
            ⟨some 101, .fieldA 0 (.t 100), some (98, true)⟩,
            ⟨some 102, .call 19 [(.t 101)], some (98, true)⟩,
            ⟨some 103, .val (.t 9), some (98, true)⟩,
            ⟨some 104, .len (.t 103), some (98, true)⟩,
            ⟨some 105, .bin .eql (.t 102) (.t 104), some (98, true)⟩,
            ⟨some 106, .pick (.t 98) (.t 105) (.c (.bool false)), none⟩,
            ⟨some 107, .val (.t 106), none⟩,
            ⟨some 108, .val (.t 7), some (107, true)⟩,
            ⟨some 109, .call 20 [(.t 108)], some (107, true)⟩,
            ⟨some 110, .pick (.t 107) (.t 109) (.c (.bool false)), none⟩,
            ⟨some 4, .val (.t 110), none⟩] [])
           (.ret)))))))))))
def rs4 : List RR := [.tmp 4]
theorem fun4 : FunR Tryd.prog 4 rc4 rs4 111 := ⟨Tryd.f4, Tryd.func4, by kernel_rfl, by kernel_rfl, by kernel_rfl⟩
/-- causeway/causewaylaw11.known -/
def rc11 : RC :=
 .seq (.ops 0 false [
  ⟨some 0, .val (.c (.bool false)), none⟩] [])
 (.seq (.ops 1 false [
   ⟨some 8, .call 15 [], none⟩,
   ⟨some 1, .val (.t 8), none⟩] [])
  (.seq (.seq (.ops 2 false [
     ⟨some 9, .val (.t 1), none⟩,
     ⟨some 10, .eqp .ptr false (.t 9) (.c (.pointer none)), none⟩] [])
    (.cond (.t 10) (.seq (.ops 3 false [
       ⟨some 0, .val (.c (.bool false)), none⟩] [])
      (.ret))
     (.skip)))
   (.seq (.ops 4 false [
     ⟨some 11, .build [(.int .u64 0), (.int .u64 0), (.int .u64 0), (.int .u64 0)] [(0, 1, (.c (.int .u64 256)))], none⟩,
     ⟨some 12, .build [(.int .i64 0), (.int .i64 0), (.int .i64 0), (.int .u8 0), (.int .u8 0), (.int .u8 0), (.int .u8 0), (.int .u8 0), (.int .u8 0), (.int .u8 0), (.int .u8 0), (.int .u8 0), (.int .u8 0), (.int .u8 0), (.int .u8 0), (.int .u8 0), (.int .u8 0), (.int .u8 0), (.int .u8 0), (.int .u8 0), (.int .u8 0), (.int .u8 0), (.int .u8 0), (.int .u64 0), (.int .u64 0), (.int .u64 0), (.int .u64 0)] [(1, 1, (.c (.int .i64 5))), (2, 1, (.c (.int .i64 3))), (23, 4, (.t 11))], none⟩,
     ⟨some 2, .alloc 32 [(.int .i64 0), (.int .i64 0), (.int .i64 0), (.int .u8 0), (.int .u8 0), (.int .u8 0), (.int .u8 0), (.int .u8 0), (.int .u8 0), (.int .u8 0), (.int .u8 0), (.int .u8 0), (.int .u8 0), (.int .u8 0), (.int .u8 0), (.int .u8 0), (.int .u8 0), (.int .u8 0), (.int .u8 0), (.int .u8 0), (.int .u8 0), (.int .u8 0), (.int .u8 0), (.int .u64 0), (.int .u64 0), (.int .u64 0), (.int .u64 0)], none⟩,
     ⟨none, .store 27 (.t 2) (.t 12), none⟩] [])
    (.seq (.ops 5 false [
      ⟨some 14, .loadN 27 (.t 2), none⟩,
      ⟨some 15, .call 47 [(.t 14)], none⟩,
      ⟨some 13, .val (.t 15), none⟩,
      ⟨some 16, .extract 0 (.t 13), none⟩,
      ⟨some 17, .extract 1 (.t 13), none⟩,
      ⟨some 3, .val (.t 16), none⟩,
      ⟨some 4, .val (.t 17), none⟩] [])
     (.seq (.ops 6 false [
       ⟨some 18, .val (.t 1), none⟩,
       ⟨some 19, .loadN 27 (.t 2), none⟩,
       ⟨some 20, .call 25 [(.t 18), (.t 19)], none⟩,
       ⟨some 5, .val (.t 20), none⟩] [])
      (.seq (.ops 7 false [
        ⟨some 22, .val (.t 1), none⟩,
        ⟨some 23, .call 27 [(.t 22), (.c (.int .i64 0))], none⟩,
        ⟨some 21, .val (.t 23), none⟩,
        ⟨some 24, .extract 0 (.t 21), none⟩,
        ⟨some 25, .extract 1 (.t 21), none⟩,
        ⟨some 6, .alloc 32 [(.int .i64 0), (.int .i64 0), (.int .i64 0), (.int .u8 0), (.int .u8 0), (.int .u8 0), (.int .u8 0), (.int .u8 0), (.int .u8 0), (.int .u8 0), (.int .u8 0), (.int .u8 0), (.int .u8 0), (.int .u8 0), (.int .u8 0), (.int .u8 0), (.int .u8 0), (.int .u8 0), (.int .u8 0), (.int .u8 0), (.int .u8 0), (.int .u8 0), (.int .u8 0), (.int .u64 0), (.int .u64 0), (.int .u64 0), (.int .u64 0)], none⟩,
        ⟨none, .store 27 (.t 6) (.t 24), none⟩,
        ⟨some 7, .val (.t 25), none⟩] [])
       (.seq (.ops 8 false [
         ⟨some 26, .val (.t 4), none⟩,
         ⟨some 27, .bin .eql (.t 26) (.c (.int .i64 0)), none⟩,
         ⟨some 28, .val (.t 27), none⟩,
         ⟨some 29, .val (.t 3), some (28, true)⟩,
         ⟨some 30, .len (.t 29), some (28, true)⟩,
         ⟨some 31, .bin .eql (.t 30) (.c (.int .i64 29)), some (28, true)⟩,
         ⟨some 32, .pick (.t 28) (.t 31) (.c (.bool false)), none⟩,
         ⟨some 33, .val (.t 32), none⟩,
         ⟨some 34, .val (.t 3), some (33, true)⟩,
         ⟨some 35, .indexS 1 (.t 34) (.c (.int .i64 0)), some (33, true)⟩,
         ⟨some 36, .load (.t 35), some (33, true)⟩,
         ⟨some 37, .bin .eql (.t 36) (.c (.int .u8 76)), some (33, true)⟩,
         ⟨some 38, .pick (.t 33) (.t 37) (.c (.bool false)), none⟩,
         ⟨some 39, .val (.t 38), none⟩,
         ⟨some 40, .val (.t 3), some (39, true)⟩,
         ⟨some 41, .indexS 1 (.t 40) (.c (.int .i64 1)), some (39, true)⟩,
         ⟨some 42, .load (.t 41), some (39, true)⟩,
         ⟨some 43, .bin .eql (.t 42) (.c (.int .u8 0)), some (39, true)⟩,
         ⟨some 44, .pick (.t 39) (.t 43) (.c (.bool false)), none⟩,
         ⟨some 45, .val (.t 44), none⟩,
         ⟨some 46, .val (.t 3), some (45, true)⟩,
         ⟨some 47, .indexS 1 (.t 46) (.c (.int .i64 2)), some (45, true)⟩,
         ⟨some 48, .load (.t 47), some (45, true)⟩,
         ⟨some 49, .bin .eql (.t 48) (.c (.int .u8 1)), some (45, true)⟩,
         ⟨some 50, .pick (.t 45) (.t 49) (.c (.bool false)), none⟩,
         ⟨some 51, .val (.t 50), none⟩,
         ⟨some 52, .val (.t 3), some (51, true)⟩,
         ⟨some 53, .indexS 1 (.t 52) (.c (.int .i64 3)), some (51, true)⟩,
         ⟨some 54, .load (.t 53), some (51, true)⟩,
         ⟨some 55, .bin .eql (.t 54) (.c (.int .u8 5)), some (51, true)⟩,
         ⟨some 56, .pick (.t 51) (.t 55) (.c (.bool false)), none⟩,
         ⟨some 57, .val (.t 56), none⟩,
         ⟨some 58, .val (.t 5), some (57, true)⟩,
         ⟨some 59, .bin .eql (.t 58) (.c (.int .i64 0)), some (57, true)⟩,
         ⟨some 60, .pick (.t 57) (.t 59) (.c (.bool false)), none⟩,
         ⟨some 61, .val (.t 60), none⟩,
         ⟨some 62, .val (.t 7), some (61, true)⟩,
         ⟨some 63, .bin .eql (.t 62) (.c (.int .i64 0)), some (61, true)⟩,
         ⟨some 64, .pick (.t 61) (.t 63) (.c (.bool false)), none⟩,
         ⟨some 65, .val (.t 64), none⟩,
         ⟨some 66, .loadN 27 (.t 6), some (65, true)⟩,
         ⟨some 67, .loadN 27 (.t 2), some (65, true)⟩,
         ⟨some 68, .eqn false 32 (.t 66) (.t 67), some (65, true)⟩,
         ⟨some 69, .pick (.t 65) (.t 68) (.c (.bool false)), none⟩,
         ⟨some 70, .val (.t 69), none⟩,
         ⟨some 71, .val (.t 1), some (70, true)⟩,
         ⟨some 72, .nilCheck (.t 71), some (70, true)⟩,
         ⟨some 73, .fieldA 0 (.t 72), some (70, true)⟩,
         ⟨some 74, .call 19 [(.t 73)], some (70, true)⟩,
         ⟨some 75, .bin .eql (.t 74) (.c (.int .i64 1)), some (70, true)⟩,
         ⟨some 76, .pick (.t 70) (.t 75) (.c (.bool false)), none⟩,
         ⟨some 0, .val (.t 76), none⟩] [])
        (.ret))))))))
def rs11 : List RR := [.tmp 0]
theorem fun11 : FunR Tryd.prog 11 rc11 rs11 77 := ⟨Tryd.f11, Tryd.func11, by kernel_rfl, by kernel_rfl, by kernel_rfl⟩
/-- causeway/outbox.Check -/
def rc12 : RC :=
 .seq (.ops 0 false [
  ⟨some 4, .box 25 (.t 0), none⟩,
  ⟨some 6, .box 32 (.t 2), none⟩,
  ⟨some 8, .val (.c (.int .i64 0)), none⟩] [])
 (.seq (.ops 1 false [
   ⟨some 12, .loadN 27 (.t 6), none⟩,
   ⟨some 13, .call 47 [(.t 12)], none⟩,
   ⟨some 11, .val (.t 13), none⟩,
   ⟨some 14, .extract 0 (.t 11), none⟩,
   ⟨some 15, .extract 1 (.t 11), none⟩,
   ⟨some 9, .val (.t 14), none⟩,
   ⟨some 10, .val (.t 15), none⟩] [])
  (.seq (.block 0 (.seq (.ops 2 false [
      ⟨some 17, .val (.t 10), none⟩,
      ⟨some 18, .bin .neq (.t 17) (.c (.int .i64 0)), none⟩,
      ⟨some 16, .val (.t 18), none⟩] [])
     (.cond (.t 16) (.seq (.ops 3 false [
        ⟨some 19, .val (.t 10), none⟩,
        ⟨some 8, .val (.t 19), none⟩] [])
       (.ret))
      (.seq (.ops 4 false [
        ⟨some 21, .val (.t 1), none⟩,
        ⟨some 22, .bin .lss (.t 21) (.c (.int .i64 0)), none⟩,
        ⟨some 23, .val (.t 22), none⟩,
        ⟨some 24, .val (.t 1), some (23, false)⟩,
        ⟨some 25, .bin .gtr (.t 24) (.c (.int .i64 1099511627776)), some (23, false)⟩,
        ⟨some 26, .pick (.t 23) (.c (.bool true)) (.t 25), none⟩,
        ⟨some 20, .val (.t 26), none⟩] [])
       (.cond (.t 20) (.seq (.ops 5 false [
          ⟨some 8, .val (.c (.int .i64 112)), none⟩] [])
         (.ret))
        (.seq (.ops 6 false [
          ⟨some 28, .fieldA 0 (.t 6), none⟩,
          ⟨some 29, .load (.t 28), none⟩,
          ⟨some 30, .val (.t 1), none⟩,
          ⟨some 31, .bin .geq (.t 29) (.t 30), none⟩,
          ⟨some 27, .val (.t 31), none⟩] [])
         (.cond (.t 27) (.seq (.ops 7 false [
            ⟨some 8, .val (.c (.int .i64 111)), none⟩] [])
           (.ret))
          (.seq (.ops 8 false [
            ⟨some 33, .loadN 32 (.t 4), none⟩,
            ⟨some 34, .val (.t 1), none⟩,
            ⟨some 35, .fieldA 0 (.t 6), none⟩,
            ⟨some 36, .load (.t 35), none⟩,
            ⟨some 37, .val (.t 9), none⟩,
            ⟨some 38, .val (.t 3), none⟩,
            ⟨some 39, .call 48 [(.t 33), (.t 34), (.t 36), (.t 37), (.t 38)], none⟩,
            ⟨some 40, .bin .neq (.t 39) (.c (.int .i64 0)), none⟩,
            ⟨some 32, .val (.t 40), none⟩] [])
           (.cond (.t 32) (.seq (.ops 9 false [
              ⟨some 8, .val (.c (.int .i64 113)), none⟩] [])
             (.ret))
            (.skip))))))))))
   (.seq (.ops 10 false [
     ⟨some 8, .val (.c (.int .i64 0)), none⟩] [])
    (.ret))))
def rs12 : List RR := [.tmp 8]
theorem fun12 : FunR Tryd.prog 12 rc12 rs12 41 := ⟨Tryd.f12, Tryd.func12, by kernel_rfl, by kernel_rfl, by kernel_rfl⟩
/-- causeway/causewayref11.Check -/
def rc13 : RC :=
 .seq (.ops 0 false [
  ⟨some 4, .box 25 (.t 0), none⟩,
  ⟨some 6, .box 32 (.t 2), none⟩,
  ⟨some 8, .val (.c (.int .i64 0)), none⟩] [])
 (.seq (.seq (.ops 1 false [
    ⟨some 10, .loadN 27 (.t 6), none⟩,
    ⟨some 11, .call 49 [(.t 10)], none⟩,
    ⟨some 12, .not (.t 11), none⟩] [])
   (.cond (.t 12) (.seq (.ops 2 false [
      ⟨some 8, .val (.c (.int .i64 110)), none⟩] [])
     (.ret))
    (.skip)))
  (.seq (.seq (.ops 3 false [
     ⟨some 13, .val (.t 1), none⟩,
     ⟨some 14, .bin .lss (.t 13) (.c (.int .i64 0)), none⟩,
     ⟨some 15, .val (.t 14), none⟩,
     ⟨some 16, .val (.t 1), some (15, false)⟩,
     ⟨some 17, .bin .gtr (.t 16) (.c (.int .i64 1099511627776)), some (15, false)⟩,
     ⟨some 18, .pick (.t 15) (.c (.bool true)) (.t 17), none⟩] [])
    (.cond (.t 18) (.seq (.ops 4 false [
       ⟨some 8, .val (.c (.int .i64 112)), none⟩] [])
      (.ret))
     (.skip)))
   (.seq (.seq (.ops 5 false [
      ⟨some 19, .fieldA 0 (.t 6), none⟩,
      ⟨some 20, .load (.t 19), none⟩,
      ⟨some 21, .val (.t 1), none⟩,
      ⟨some 22, .bin .geq (.t 20) (.t 21), none⟩] [])
     (.cond (.t 22) (.seq (.ops 6 false [
        ⟨some 8, .val (.c (.int .i64 111)), none⟩] [])
       (.ret))
      (.skip)))
    (.seq (.ops 7 true [
      ⟨some 23, .loadN 32 (.t 4), none⟩,
      ⟨some 24, .val (.t 1), none⟩,
      ⟨some 25, .fieldA 0 (.t 6), none⟩,
      ⟨some 26, .load (.t 25), none⟩,
      ⟨some 27, .loadN 27 (.t 6), none⟩,
      ⟨some 28, .call 30 [(.t 27)], none⟩,
      ⟨some 29, .val (.t 3), none⟩,
      ⟨some 30, .call 50 [(.t 23), (.t 24), (.t 26), (.t 28), (.t 29)], none⟩,
      ⟨some 9, .val (.t 30), none⟩] [([], []), ([], []), ([], []), ([2], [2]), ([], []), ([4], [4]), ([], []), ([0, 1, 3, 5, 6, 5], [0, 1, 3, 5, 6]), ([7, 7, 0, 1, 2, 3, 4, 5, 6, 7], [7])])
     (.seq (.seq (.ops 8 false [
        ⟨some 31, .val (.t 9), none⟩,
        ⟨some 32, .bin .neq (.t 31) (.c (.int .i64 0)), none⟩] [])
       (.cond (.t 32) (.seq (.ops 9 false [
          ⟨some 8, .val (.c (.int .i64 113)), none⟩] [])
         (.ret))
        (.skip)))
      (.seq (.ops 10 false [
        ⟨some 8, .val (.c (.int .i64 0)), none⟩] [])
       (.ret)))))))
def rs13 : List RR := [.tmp 8]
theorem fun13 : FunR Tryd.prog 13 rc13 rs13 33 := ⟨Tryd.f13, Tryd.func13, by kernel_rfl, by kernel_rfl, by kernel_rfl⟩
/-- causeway/causewaylaw11.samePath -/
def rc14 : RC :=
 .seq (.ops 0 false [
  ⟨some 4, .val (.c (.bool false)), none⟩] [])
 (.seq (.seq (.ops 1 false [
    ⟨some 6, .val (.t 0), none⟩,
    ⟨some 7, .len (.t 6), none⟩,
    ⟨some 8, .val (.t 1), none⟩,
    ⟨some 9, .len (.t 8), none⟩,
    ⟨some 10, .bin .neq (.t 7) (.t 9), none⟩] [])
   (.cond (.t 10) (.seq (.ops 2 false [
      ⟨some 4, .val (.c (.bool false)), none⟩] [])
     (.ret))
    (.skip)))
  (.seq (.seq (.ops 3 false [
     ⟨some 5, .val (.c (.int .i64 0)), none⟩] [])
    (.block 0 (.loop (.seq (.seq (.ops 4 false [
         ⟨some 11, .val (.t 5), none⟩,
         ⟨some 12, .val (.t 0), none⟩,
         ⟨some 13, .len (.t 12), none⟩,
         ⟨some 14, .bin .lss (.t 11) (.t 13), none⟩] [])
        (.cond (.t 14) (.skip)
         (.exit 0)))
       (.seq (.block 1 (.seq (.ops 6 true [
           ⟨some 17, .val (.t 0), none⟩,
           ⟨some 18, .val (.t 5), none⟩,
           ⟨some 19, .indexS 32 (.t 17) (.t 18), none⟩,
           ⟨some 20, .loadN 32 (.t 19), none⟩,
           ⟨some 21, .val (.t 1), none⟩,
           ⟨some 22, .val (.t 5), none⟩,
           ⟨some 23, .indexS 32 (.t 21) (.t 22), none⟩,
           ⟨some 24, .loadN 32 (.t 23), none⟩,
           ⟨some 25, .eqn true 25 (.t 20) (.t 24), none⟩] [([], []), ([], []), ([0, 1], [0, 1]), ([2], [2]), ([], []), ([], []), ([4, 5], [4, 5]), ([6], [6]), ([3, 7], [3, 7])])
          (.cond (.t 25) (.seq (.ops 7 false [
             ⟨some 4, .val (.c (.bool false)), none⟩] [])
            (.ret))
           (.skip))))
        (.ops 5 false [
         ⟨some 15, .val (.t 5), none⟩,
         ⟨some 16, .bin .add (.t 15) (.c (.int .i64 1)), none⟩,
         ⟨some 5, .val (.t 16), none⟩] []))))))
   (.seq (.ops 8 false [
     ⟨some 4, .val (.c (.bool true)), none⟩] [])
    (.ret))))
def rs14 : List RR := [.tmp 4]
theorem fun14 : FunR Tryd.prog 14 rc14 rs14 26 := ⟨Tryd.f14, Tryd.func14, by kernel_rfl, by kernel_rfl, by kernel_rfl⟩
/-- causeway/outbox.New -/
def rc15 : RC :=
 .seq (.ops 0 false [
  ⟨some 0, .val (.c (.pointer none)), none⟩] [])
 (.seq (.ops 1 false [
   ⟨some 1, .build [(.slice none 0 0), (.slice none 0 0)] [], none⟩,
   ⟨some 2, .box 60 (.t 1), none⟩,
   ⟨some 0, .val (.t 2), none⟩] [])
  (.ret))
def rs15 : List RR := [.tmp 0]
theorem fun15 : FunR Tryd.prog 15 rc15 rs15 3 := ⟨Tryd.f15, Tryd.func15, by kernel_rfl, by kernel_rfl, by kernel_rfl⟩
/-- (*causeway/causewaylaw11.book).booked -/
def rc16 : RC :=
 .seq (.ops 0 false [
  ⟨some 7, .box 52 (.t 3), none⟩,
  ⟨some 8, .val (.c (.slice none 0 0)), none⟩,
  ⟨some 9, .val (.c (.bool false)), none⟩] [])
 (.seq (.seq (.ops 1 false [
    ⟨some 30, .fieldA 0 (.t 7), none⟩,
    ⟨some 31, .load (.t 30), none⟩,
    ⟨some 32, .call 23 [(.t 31), (.c (.int .i64 12))], none⟩] [])
   (.block 0 (.seq (.seq (.ops 2 false [
       ⟨some 34, .bin .eql (.t 32) (.c (.int .i64 0)), none⟩,
       ⟨some 33, .val (.t 34), none⟩] [])
      (.cond (.t 33) (.skip)
       (.seq (.ops 3 false [
         ⟨some 35, .bin .eql (.t 32) (.c (.int .i64 1)), none⟩,
         ⟨some 33, .val (.t 35), none⟩] [])
        (.cond (.t 33) (.skip)
         (.seq (.ops 4 false [
           ⟨some 36, .bin .eql (.t 32) (.c (.int .i64 2)), none⟩,
           ⟨some 33, .val (.t 36), none⟩] [])
          (.cond (.t 33) (.skip)
           (.ops 5 false [
            ⟨some 37, .bin .eql (.t 32) (.c (.int .i64 3)), none⟩,
            ⟨some 33, .val (.t 37), none⟩] [])))))))
     (.cond (.t 33) (.seq (.ops 6 false [
        ⟨some 38, .val (.t 1), none⟩,
        ⟨some 39, .fieldA 3 (.t 7), none⟩,
        ⟨some 40, .loadN 27 (.t 39), none⟩,
        ⟨some 41, .call 25 [(.t 38), (.t 40)], none⟩,
        ⟨some 10, .val (.t 41), none⟩] [])
       (.seq (.ops 7 false [
         ⟨some 43, .val (.t 2), none⟩,
         ⟨some 44, .fieldA 3 (.t 7), none⟩,
         ⟨some 45, .loadN 27 (.t 44), none⟩,
         ⟨some 46, .call 51 [(.t 43), (.t 45)], none⟩,
         ⟨some 42, .val (.t 46), none⟩,
         ⟨some 47, .extract 0 (.t 42), none⟩,
         ⟨some 48, .extract 1 (.t 42), none⟩,
         ⟨some 11, .val (.t 47), none⟩,
         ⟨some 12, .val (.t 48), none⟩] [])
        (.seq (.ops 8 false [
          ⟨some 49, .val (.t 11), none⟩,
          ⟨some 50, .val (.t 10), none⟩,
          ⟨some 51, .val (.t 12), none⟩,
          ⟨some 52, .bin .eql (.t 50) (.t 51), none⟩,
          ⟨some 8, .val (.t 49), none⟩,
          ⟨some 9, .val (.t 52), none⟩] [])
         (.ret))))
      (.seq (.ops 9 false [
        ⟨some 54, .bin .eql (.t 32) (.c (.int .i64 4)), none⟩,
        ⟨some 53, .val (.t 54), none⟩] [])
       (.cond (.t 53) (.seq (.ops 10 false [
          ⟨some 55, .val (.t 2), none⟩,
          ⟨some 56, .val (.t 1), none⟩,
          ⟨some 57, .nilCheck (.t 56), none⟩,
          ⟨some 58, .fieldA 0 (.t 57), none⟩,
          ⟨some 59, .call 19 [(.t 58)], none⟩,
          ⟨some 60, .val (.t 2), none⟩,
          ⟨some 61, .len (.t 60), none⟩,
          ⟨some 62, .bin .eql (.t 59) (.t 61), none⟩,
          ⟨some 8, .val (.t 55), none⟩,
          ⟨some 9, .val (.t 62), none⟩] [])
         (.ret))
        (.seq (.ops 11 false [
          ⟨some 64, .bin .eql (.t 32) (.c (.int .i64 5)), none⟩,
          ⟨some 63, .val (.t 64), none⟩] [])
         (.cond (.t 63) (.seq (.ops 12 false [
            ⟨some 66, .val (.t 1), none⟩,
            ⟨some 67, .fieldA 1 (.t 7), none⟩,
            ⟨some 68, .load (.t 67), none⟩,
            ⟨some 69, .call 27 [(.t 66), (.t 68)], none⟩,
            ⟨some 65, .val (.t 69), none⟩,
            ⟨some 70, .extract 0 (.t 65), none⟩,
            ⟨some 71, .extract 1 (.t 65), none⟩,
            ⟨some 13, .alloc 32 [(.int .i64 0), (.int .i64 0), (.int .i64 0), (.int .u8 0), (.int .u8 0), (.int .u8 0), (.int .u8 0), (.int .u8 0), (.int .u8 0), (.int .u8 0), (.int .u8 0), (.int .u8 0), (.int .u8 0), (.int .u8 0), (.int .u8 0), (.int .u8 0), (.int .u8 0), (.int .u8 0), (.int .u8 0), (.int .u8 0), (.int .u8 0), (.int .u8 0), (.int .u8 0), (.int .u64 0), (.int .u64 0), (.int .u64 0), (.int .u64 0)], none⟩,
            ⟨none, .store 27 (.t 13) (.t 70), none⟩,
            ⟨some 14, .val (.t 71), none⟩] [])
           (.seq (.ops 13 false [
             ⟨some 73, .val (.t 2), none⟩,
             ⟨some 74, .fieldA 1 (.t 7), none⟩,
             ⟨some 75, .load (.t 74), none⟩,
             ⟨some 76, .call 52 [(.t 73), (.t 75)], none⟩,
             ⟨some 72, .val (.t 76), none⟩,
             ⟨some 77, .extract 0 (.t 72), none⟩,
             ⟨some 78, .extract 1 (.t 72), none⟩,
             ⟨some 15, .alloc 32 [(.int .i64 0), (.int .i64 0), (.int .i64 0), (.int .u8 0), (.int .u8 0), (.int .u8 0), (.int .u8 0), (.int .u8 0), (.int .u8 0), (.int .u8 0), (.int .u8 0), (.int .u8 0), (.int .u8 0), (.int .u8 0), (.int .u8 0), (.int .u8 0), (.int .u8 0), (.int .u8 0), (.int .u8 0), (.int .u8 0), (.int .u8 0), (.int .u8 0), (.int .u8 0), (.int .u64 0), (.int .u64 0), (.int .u64 0), (.int .u64 0)], none⟩,
             ⟨none, .store 27 (.t 15) (.t 77), none⟩,
             ⟨some 16, .val (.t 78), none⟩] [])
            (.seq (.ops 14 false [
              ⟨some 79, .val (.t 2), none⟩,
              ⟨some 80, .loadN 27 (.t 13), none⟩,
              ⟨some 81, .loadN 27 (.t 15), none⟩,
              ⟨some 82, .eqn false 32 (.t 80) (.t 81), none⟩,
              ⟨some 83, .val (.t 82), none⟩,
              ⟨some 84, .val (.t 14), some (83, true)⟩,
              ⟨some 85, .val (.t 16), some (83, true)⟩,
              ⟨some 86, .bin .eql (.t 84) (.t 85), some (83, true)⟩,
              ⟨some 87, .pick (.t 83) (.t 86) (.c (.bool false)), none⟩,
              ⟨some 8, .val (.t 79), none⟩,
              ⟨some 9, .val (.t 87), none⟩] [])
             (.ret))))
          (.seq (.seq (.ops 15 false [
             ⟨some 89, .bin .eql (.t 32) (.c (.int .i64 6)), none⟩,
             ⟨some 88, .val (.t 89), none⟩] [])
            (.cond (.t 88) (.skip)
             (.ops 16 false [
              ⟨some 90, .bin .eql (.t 32) (.c (.int .i64 7)), none⟩,
              ⟨some 88, .val (.t 90), none⟩] [])))
           (.cond (.t 88) (.seq (.ops 17 false [
              ⟨some 92, .val (.t 1), none⟩,
              ⟨some 93, .fieldA 2 (.t 7), none⟩,
              ⟨some 94, .load (.t 93), none⟩,
              ⟨some 95, .call 17 [(.t 92), (.t 94)], none⟩,
              ⟨some 91, .val (.t 95), none⟩,
              ⟨some 96, .extract 0 (.t 91), none⟩,
              ⟨some 97, .extract 1 (.t 91), none⟩,
              ⟨some 17, .alloc 25 (List.replicate 32 (.int .u8 0)), none⟩,
              ⟨none, .store 32 (.t 17) (.t 96), none⟩,
              ⟨some 18, .val (.t 97), none⟩] [])
             (.seq (.ops 18 false [
               ⟨some 99, .val (.t 2), none⟩,
               ⟨some 100, .fieldA 2 (.t 7), none⟩,
               ⟨some 101, .load (.t 100), none⟩,
               ⟨some 102, .call 18 [(.t 99), (.t 101)], none⟩,
               ⟨some 98, .val (.t 102), none⟩,
               ⟨some 103, .extract 0 (.t 98), none⟩,
               ⟨some 104, .extract 1 (.t 98), none⟩,
               ⟨some 19, .alloc 25 (List.replicate 32 (.int .u8 0)), none⟩,
               ⟨none, .store 32 (.t 19) (.t 103), none⟩,
               ⟨some 20, .val (.t 104), none⟩] [])
              (.seq (.ops 19 false [
                ⟨some 105, .val (.t 2), none⟩,
                ⟨some 106, .loadN 32 (.t 17), none⟩,
                ⟨some 107, .loadN 32 (.t 19), none⟩,
                ⟨some 108, .eqn false 25 (.t 106) (.t 107), none⟩,
                ⟨some 109, .val (.t 108), none⟩,
                ⟨some 110, .val (.t 18), some (109, true)⟩,
                ⟨some 111, .val (.t 20), some (109, true)⟩,
                ⟨some 112, .bin .eql (.t 110) (.t 111), some (109, true)⟩,
                ⟨some 113, .pick (.t 109) (.t 112) (.c (.bool false)), none⟩,
                ⟨some 8, .val (.t 105), none⟩,
                ⟨some 9, .val (.t 113), none⟩] [])
               (.ret))))
            (.seq (.seq (.ops 20 false [
               ⟨some 115, .bin .eql (.t 32) (.c (.int .i64 8)), none⟩,
               ⟨some 114, .val (.t 115), none⟩] [])
              (.cond (.t 114) (.skip)
               (.seq (.ops 21 false [
                 ⟨some 116, .bin .eql (.t 32) (.c (.int .i64 9)), none⟩,
                 ⟨some 114, .val (.t 116), none⟩] [])
                (.cond (.t 114) (.skip)
                 (.ops 22 false [
                  ⟨some 117, .bin .eql (.t 32) (.c (.int .i64 10)), none⟩,
                  ⟨some 114, .val (.t 117), none⟩] [])))))
             (.cond (.t 114) (.seq (.ops 23 false [
                ⟨some 119, .val (.t 1), none⟩,
                ⟨some 120, .fieldA 1 (.t 7), none⟩,
                ⟨some 121, .load (.t 120), none⟩,
                ⟨some 122, .fieldA 2 (.t 7), none⟩,
                ⟨some 123, .load (.t 122), none⟩,
                ⟨some 124, .call 28 [(.t 119), (.t 121), (.t 123)], none⟩,
                ⟨some 118, .val (.t 124), none⟩,
                ⟨some 125, .extract 0 (.t 118), none⟩,
                ⟨some 126, .extract 1 (.t 118), none⟩,
                ⟨some 21, .val (.t 125), none⟩,
                ⟨some 22, .val (.t 126), none⟩] [])
               (.seq (.ops 24 false [
                 ⟨some 128, .val (.t 1), none⟩,
                 ⟨some 129, .fieldA 1 (.t 7), none⟩,
                 ⟨some 130, .load (.t 129), none⟩,
                 ⟨some 131, .fieldA 2 (.t 7), none⟩,
                 ⟨some 132, .load (.t 131), none⟩,
                 ⟨some 133, .call 28 [(.t 128), (.t 130), (.t 132)], none⟩,
                 ⟨some 127, .val (.t 133), none⟩,
                 ⟨some 134, .extract 0 (.t 127), none⟩,
                 ⟨some 135, .extract 1 (.t 127), none⟩,
                 ⟨some 23, .val (.t 134), none⟩,
                 ⟨some 24, .val (.t 135), none⟩] [])
                (.seq (.ops 25 false [
                  ⟨some 137, .val (.t 2), none⟩,
                  ⟨some 138, .fieldA 1 (.t 7), none⟩,
                  ⟨some 139, .load (.t 138), none⟩,
                  ⟨some 140, .fieldA 2 (.t 7), none⟩,
                  ⟨some 141, .load (.t 140), none⟩,
                  ⟨some 142, .call 53 [(.t 137), (.t 139), (.t 141)], none⟩,
                  ⟨some 136, .val (.t 142), none⟩,
                  ⟨some 143, .extract 0 (.t 136), none⟩,
                  ⟨some 144, .extract 1 (.t 136), none⟩,
                  ⟨some 25, .val (.t 143), none⟩,
                  ⟨some 26, .val (.t 144), none⟩] [])
                 (.seq (.ops 26 false [
                   ⟨some 145, .val (.t 0), none⟩,
                   ⟨some 146, .val (.t 21), none⟩,
                   ⟨some 147, .val (.t 25), none⟩,
                   ⟨some 148, .call 54 [(.t 145), (.t 146), (.t 147)], none⟩] [])
                  (.seq (.ops 27 false [
                    ⟨some 149, .val (.t 0), none⟩,
                    ⟨some 150, .val (.t 23), none⟩,
                    ⟨some 151, .val (.t 25), none⟩,
                    ⟨some 152, .call 54 [(.t 149), (.t 150), (.t 151)], none⟩] [])
                   (.seq (.ops 28 false [
                     ⟨some 153, .val (.t 2), none⟩,
                     ⟨some 154, .val (.t 22), none⟩,
                     ⟨some 155, .val (.t 26), none⟩,
                     ⟨some 156, .bin .eql (.t 154) (.t 155), none⟩,
                     ⟨some 157, .val (.t 156), none⟩,
                     ⟨some 158, .val (.t 21), some (157, true)⟩,
                     ⟨some 159, .val (.t 25), some (157, true)⟩,
                     ⟨some 160, .call 14 [(.t 158), (.t 159)], some (157, true)⟩,
                     ⟨some 161, .pick (.t 157) (.t 160) (.c (.bool false)), none⟩,
                     ⟨some 8, .val (.t 153), none⟩,
                     ⟨some 9, .val (.t 161), none⟩] [])
                    (.ret)))))))
              (.skip)))))))))))))
  (.seq (.ops 29 false [
    ⟨some 162, .val (.t 1), none⟩,
    ⟨some 163, .fieldA 2 (.t 7), none⟩,
    ⟨some 164, .load (.t 163), none⟩,
    ⟨some 165, .call 24 [(.t 162), (.t 164)], none⟩,
    ⟨some 27, .val (.t 165), none⟩] [])
   (.seq (.ops 30 false [
     ⟨some 167, .val (.t 2), none⟩,
     ⟨some 168, .fieldA 2 (.t 7), none⟩,
     ⟨some 169, .load (.t 168), none⟩,
     ⟨some 170, .call 55 [(.t 167), (.t 169)], none⟩,
     ⟨some 166, .val (.t 170), none⟩,
     ⟨some 171, .extract 0 (.t 166), none⟩,
     ⟨some 172, .extract 1 (.t 166), none⟩,
     ⟨some 28, .val (.t 171), none⟩,
     ⟨some 29, .val (.t 172), none⟩] [])
    (.seq (.ops 31 false [
      ⟨some 173, .val (.t 28), none⟩,
      ⟨some 174, .val (.t 27), none⟩,
      ⟨some 175, .val (.t 29), none⟩,
      ⟨some 176, .bin .eql (.t 174) (.t 175), none⟩,
      ⟨some 8, .val (.t 173), none⟩,
      ⟨some 9, .val (.t 176), none⟩] [])
     (.ret)))))
def rs16 : List RR := [.tmp 8, .tmp 9]
theorem fun16 : FunR Tryd.prog 16 rc16 rs16 177 := ⟨Tryd.f16, Tryd.func16, by kernel_rfl, by kernel_rfl, by kernel_rfl⟩
/-- (*causeway/outbox.Book).Root -/
def rc17 : RC :=
 .seq (.ops 0 false [
  ⟨some 4, .alloc 25 (List.replicate 32 (.int .u8 0)), none⟩,
  ⟨some 5, .val (.c (.int .i64 0)), none⟩] [])
 (.seq (.seq (.ops 1 false [
    ⟨some 7, .val (.t 0), none⟩,
    ⟨some 8, .val (.t 1), none⟩,
    ⟨some 9, .call 56 [(.t 7), (.t 8)], none⟩,
    ⟨some 6, .val (.t 9), none⟩] [])
   (.seq (.ops 2 false [
     ⟨some 10, .val (.t 6), none⟩,
     ⟨some 11, .bin .neq (.t 10) (.c (.int .i64 0)), none⟩] [])
    (.cond (.t 11) (.seq (.ops 3 false [
       ⟨some 12, .build (List.replicate 32 (.int .u8 0)) [], none⟩,
       ⟨some 13, .val (.t 6), none⟩,
       ⟨none, .store 32 (.t 4) (.t 12), none⟩,
       ⟨some 5, .val (.t 13), none⟩] [])
      (.ret))
     (.skip))))
  (.seq (.ops 4 false [
    ⟨some 14, .val (.t 0), none⟩,
    ⟨some 15, .nilCheck (.t 14), none⟩,
    ⟨some 16, .fieldA 0 (.t 15), none⟩,
    ⟨some 17, .fieldA 1 (.t 16), none⟩,
    ⟨some 18, .load (.t 17), none⟩,
    ⟨some 19, .val (.t 1), none⟩,
    ⟨some 20, .slice 1 (.t 18) none (some (.t 19)) none, none⟩,
    ⟨some 21, .call 57 [(.t 20)], none⟩,
    ⟨none, .store 32 (.t 4) (.t 21), none⟩,
    ⟨some 5, .val (.c (.int .i64 0)), none⟩] [])
   (.ret)))
def rs17 : List RR := [.cell 4 (some 32), .tmp 5]
theorem fun17 : FunR Tryd.prog 17 rc17 rs17 22 := ⟨Tryd.f17, Tryd.func17, by kernel_rfl, by kernel_rfl, by kernel_rfl⟩
/-- causeway/causewayref11.BookRoot -/
def rc18 : RC :=
 .seq (.ops 0 false [
  ⟨some 4, .alloc 25 (List.replicate 32 (.int .u8 0)), none⟩,
  ⟨some 5, .val (.c (.int .i64 0)), none⟩] [])
 (.seq (.seq (.ops 1 false [
    ⟨some 6, .val (.t 1), none⟩,
    ⟨some 7, .bin .lss (.t 6) (.c (.int .i64 0)), none⟩,
    ⟨some 8, .val (.t 7), none⟩,
    ⟨some 9, .val (.t 1), some (8, false)⟩,
    ⟨some 10, .val (.t 0), some (8, false)⟩,
    ⟨some 11, .len (.t 10), some (8, false)⟩,
    ⟨some 12, .bin .gtr (.t 9) (.t 11), some (8, false)⟩,
    ⟨some 13, .pick (.t 8) (.c (.bool true)) (.t 12), none⟩] [])
   (.cond (.t 13) (.seq (.ops 2 false [
      ⟨some 14, .build (List.replicate 32 (.int .u8 0)) [], none⟩,
      ⟨none, .store 32 (.t 4) (.t 14), none⟩,
      ⟨some 5, .val (.c (.int .i64 112)), none⟩] [])
     (.ret))
    (.skip)))
  (.seq (.ops 3 false [
    ⟨some 15, .val (.t 0), none⟩,
    ⟨some 16, .val (.t 1), none⟩,
    ⟨some 17, .call 59 [(.t 15), (.t 16)], none⟩,
    ⟨some 18, .call 58 [(.t 17)], none⟩,
    ⟨none, .store 32 (.t 4) (.t 18), none⟩,
    ⟨some 5, .val (.c (.int .i64 0)), none⟩] [])
   (.ret)))
def rs18 : List RR := [.cell 4 (some 32), .tmp 5]
theorem fun18 : FunR Tryd.prog 18 rc18 rs18 19 := ⟨Tryd.f18, Tryd.func18, by kernel_rfl, by kernel_rfl, by kernel_rfl⟩
/-- (*causeway/outbox.rows).Len -/
def rc19 : RC :=
 .seq (.ops 0 false [
  ⟨some 2, .val (.c (.int .i64 0)), none⟩] [])
 (.seq (.ops 1 false [
   ⟨some 3, .val (.t 0), none⟩,
   ⟨some 4, .nilCheck (.t 3), none⟩,
   ⟨some 5, .fieldA 0 (.t 4), none⟩,
   ⟨some 6, .load (.t 5), none⟩,
   ⟨some 7, .len (.t 6), none⟩,
   ⟨some 2, .val (.t 7), none⟩] [])
  (.ret))
def rs19 : List RR := [.tmp 2]
theorem fun19 : FunR Tryd.prog 19 rc19 rs19 8 := ⟨Tryd.f19, Tryd.func19, by kernel_rfl, by kernel_rfl, by kernel_rfl⟩
/-- (*causeway/causewaylaw11.book).still -/
def rc20 : RC :=
 .seq (.ops 0 false [
  ⟨some 2, .val (.c (.bool false)), none⟩] [])
 (.seq (.seq (.ops 1 false [
    ⟨some 3, .val (.c (.int .i64 0)), none⟩] [])
   (.block 0 (.loop (.seq (.seq (.ops 2 false [
        ⟨some 11, .val (.t 3), none⟩,
        ⟨some 12, .val (.t 0), none⟩,
        ⟨some 13, .nilCheck (.t 12), none⟩,
        ⟨some 14, .fieldA 0 (.t 13), none⟩,
        ⟨some 15, .load (.t 14), none⟩,
        ⟨some 16, .len (.t 15), none⟩,
        ⟨some 17, .bin .lss (.t 11) (.t 16), none⟩] [])
       (.cond (.t 17) (.skip)
        (.exit 0)))
      (.seq (.block 1 (.seq (.ops 4 true [
          ⟨some 20, .val (.t 0), none⟩,
          ⟨some 21, .nilCheck (.t 20), none⟩,
          ⟨some 22, .fieldA 0 (.t 21), none⟩,
          ⟨some 23, .load (.t 22), none⟩,
          ⟨some 24, .val (.t 3), none⟩,
          ⟨some 25, .indexS 1 (.t 23) (.t 24), none⟩,
          ⟨some 26, .load (.t 25), none⟩,
          ⟨some 27, .cvt 79 9 (.t 26), none⟩,
          ⟨some 28, .val (.t 0), none⟩,
          ⟨some 29, .nilCheck (.t 28), none⟩,
          ⟨some 30, .fieldA 1 (.t 29), none⟩,
          ⟨some 31, .load (.t 30), none⟩,
          ⟨some 32, .val (.t 3), none⟩,
          ⟨some 33, .indexS 1 (.t 31) (.t 32), none⟩,
          ⟨some 34, .load (.t 33), none⟩,
          ⟨some 35, .cvt 79 9 (.t 34), none⟩,
          ⟨some 36, .eqp .str true (.t 27) (.t 35), none⟩] [([], []), ([0], [0]), ([1], [1]), ([2], [2]), ([], []), ([3, 4], [3, 4]), ([5], [5]), ([6], [6]), ([], []), ([8], [8]), ([9], [9]), ([10], [10]), ([], []), ([11, 12], [11, 12]), ([13], [13]), ([14], [14]), ([7, 15], [7, 15])])
         (.cond (.t 36) (.seq (.ops 5 false [
            ⟨some 2, .val (.c (.bool false)), none⟩] [])
           (.ret))
          (.skip))))
       (.ops 3 false [
        ⟨some 18, .val (.t 3), none⟩,
        ⟨some 19, .bin .add (.t 18) (.c (.int .i64 1)), none⟩,
        ⟨some 3, .val (.t 19), none⟩] []))))))
  (.seq (.seq (.ops 6 false [
     ⟨some 4, .val (.c (.int .i64 0)), none⟩] [])
    (.block 2 (.loop (.seq (.seq (.ops 7 false [
         ⟨some 37, .val (.t 4), none⟩,
         ⟨some 38, .val (.t 0), none⟩,
         ⟨some 39, .nilCheck (.t 38), none⟩,
         ⟨some 40, .fieldA 0 (.t 39), none⟩,
         ⟨some 41, .load (.t 40), none⟩,
         ⟨some 42, .len (.t 41), none⟩,
         ⟨some 43, .bin .lss (.t 37) (.t 42), none⟩] [])
        (.cond (.t 43) (.skip)
         (.exit 2)))
       (.seq (.block 3 (.seq (.ops 9 false [
           ⟨some 5, .val (.c (.int .i64 0)), none⟩] [])
          (.block 4 (.loop (.seq (.seq (.ops 10 false [
               ⟨some 46, .val (.t 5), none⟩,
               ⟨some 47, .val (.t 0), none⟩,
               ⟨some 48, .nilCheck (.t 47), none⟩,
               ⟨some 49, .fieldA 0 (.t 48), none⟩,
               ⟨some 50, .load (.t 49), none⟩,
               ⟨some 51, .val (.t 4), none⟩,
               ⟨some 52, .indexS 1 (.t 50) (.t 51), none⟩,
               ⟨some 53, .load (.t 52), none⟩,
               ⟨some 54, .len (.t 53), none⟩,
               ⟨some 55, .bin .lss (.t 46) (.t 54), none⟩] [])
              (.cond (.t 55) (.skip)
               (.exit 4)))
             (.seq (.block 5 (.ops 12 true [
                ⟨some 58, .val (.t 0), none⟩,
                ⟨some 59, .nilCheck (.t 58), none⟩,
                ⟨some 60, .fieldA 0 (.t 59), none⟩,
                ⟨some 61, .load (.t 60), none⟩,
                ⟨some 62, .val (.t 4), none⟩,
                ⟨some 63, .indexS 1 (.t 61) (.t 62), none⟩,
                ⟨some 64, .load (.t 63), none⟩,
                ⟨some 65, .val (.t 5), none⟩,
                ⟨some 66, .val (.t 4), none⟩,
                ⟨some 67, .val (.t 5), none⟩,
                ⟨some 68, .call 60 [(.t 66), (.t 67)], none⟩,
                ⟨some 69, .indexS 1 (.t 64) (.t 65), none⟩,
                ⟨none, .store 1 (.t 69) (.t 68), none⟩] [([], []), ([0], [0]), ([1], [1]), ([2], [2]), ([], []), ([3, 4], [3, 4]), ([5], [5]), ([], []), ([], []), ([], []), ([8, 9], [8, 9]), ([6, 7, 0, 1, 2, 3, 4, 5, 6, 7, 8, 9, 10], [6, 7]), ([11, 10, 10, 0, 1, 2, 3, 4, 5, 6, 7, 8, 9, 10], [10, 11])]))
              (.ops 11 false [
               ⟨some 56, .val (.t 5), none⟩,
               ⟨some 57, .bin .add (.t 56) (.c (.int .i64 1)), none⟩,
               ⟨some 5, .val (.t 57), none⟩] [])))))))
        (.ops 8 false [
         ⟨some 44, .val (.t 4), none⟩,
         ⟨some 45, .bin .add (.t 44) (.c (.int .i64 1)), none⟩,
         ⟨some 4, .val (.t 45), none⟩] []))))))
   (.seq (.ops 13 false [
     ⟨some 6, .val (.c (.slice none 0 0)), none⟩] [])
    (.seq (.seq (.ops 14 false [
       ⟨some 7, .val (.c (.int .i64 0)), none⟩] [])
      (.block 6 (.loop (.seq (.seq (.ops 15 false [
           ⟨some 70, .val (.t 7), none⟩,
           ⟨some 71, .val (.t 0), none⟩,
           ⟨some 72, .nilCheck (.t 71), none⟩,
           ⟨some 73, .fieldA 0 (.t 72), none⟩,
           ⟨some 74, .load (.t 73), none⟩,
           ⟨some 75, .len (.t 74), none⟩,
           ⟨some 76, .bin .lss (.t 70) (.t 75), none⟩] [])
          (.cond (.t 76) (.skip)
           (.exit 6)))
         (.seq (.block 7 (.seq (.ops 17 false [
             ⟨some 79, .val (.t 0), none⟩,
             ⟨some 80, .nilCheck (.t 79), none⟩,
             ⟨some 81, .fieldA 0 (.t 80), none⟩,
             ⟨some 82, .load (.t 81), none⟩,
             ⟨some 83, .val (.t 7), none⟩,
             ⟨some 84, .indexS 1 (.t 82) (.t 83), none⟩,
             ⟨some 85, .load (.t 84), none⟩,
             ⟨some 8, .val (.t 85), none⟩] [])
            (.seq (.seq (.ops 18 false [
               ⟨some 9, .val (.c (.int .i64 0)), none⟩] [])
              (.block 8 (.loop (.seq (.seq (.ops 19 false [
                   ⟨some 86, .val (.t 9), none⟩,
                   ⟨some 87, .bin .lss (.t 86) (.c (.int .i64 16)), none⟩] [])
                  (.cond (.t 87) (.skip)
                   (.exit 8)))
                 (.seq (.block 9 (.ops 21 false [
                    ⟨some 90, .val (.t 8), none⟩,
                    ⟨some 91, .val (.t 7), none⟩,
                    ⟨some 92, .val (.t 8), none⟩,
                    ⟨some 93, .len (.t 92), none⟩,
                    ⟨some 94, .call 60 [(.t 91), (.t 93)], none⟩,
                    ⟨some 95, .buildS 5 1 [(.int .u8 0)] [(0, 1, (.t 94))], none⟩,
                    ⟨some 96, .blt .append #[79, 79] 79 [(.t 90), (.t 95)], none⟩,
                    ⟨some 8, .val (.t 96), none⟩] []))
                  (.ops 20 false [
                   ⟨some 88, .val (.t 9), none⟩,
                   ⟨some 89, .bin .add (.t 88) (.c (.int .i64 1)), none⟩,
                   ⟨some 9, .val (.t 89), none⟩] []))))))
             (.ops 22 false [
              ⟨some 97, .val (.t 6), none⟩,
              ⟨some 98, .val (.t 8), none⟩,
              ⟨some 99, .buildS 79 1 [(.slice none 0 0)] [(0, 1, (.t 98))], none⟩,
              ⟨some 100, .blt .append #[44, 44] 44 [(.t 97), (.t 99)], none⟩,
              ⟨some 6, .val (.t 100), none⟩] []))))
          (.ops 16 false [
           ⟨some 77, .val (.t 7), none⟩,
           ⟨some 78, .bin .add (.t 77) (.c (.int .i64 1)), none⟩,
           ⟨some 7, .val (.t 78), none⟩] []))))))
     (.seq (.seq (.ops 23 false [
        ⟨some 10, .val (.c (.int .i64 0)), none⟩] [])
       (.block 10 (.loop (.seq (.seq (.ops 24 false [
            ⟨some 101, .val (.t 10), none⟩,
            ⟨some 102, .val (.t 0), none⟩,
            ⟨some 103, .nilCheck (.t 102), none⟩,
            ⟨some 104, .fieldA 0 (.t 103), none⟩,
            ⟨some 105, .load (.t 104), none⟩,
            ⟨some 106, .len (.t 105), none⟩,
            ⟨some 107, .bin .lss (.t 101) (.t 106), none⟩] [])
           (.cond (.t 107) (.skip)
            (.exit 10)))
          (.seq (.block 11 (.seq (.ops 26 false [
              ⟨some 110, .val (.t 0), none⟩,
              ⟨some 111, .nilCheck (.t 110), none⟩,
              ⟨some 112, .fieldA 0 (.t 111), none⟩,
              ⟨some 113, .load (.t 112), none⟩,
              ⟨some 114, .val (.t 10), none⟩,
              ⟨some 115, .indexS 1 (.t 113) (.t 114), none⟩,
              ⟨some 116, .load (.t 115), none⟩,
              ⟨some 117, .val (.t 10), none⟩,
              ⟨some 118, .call 61 [(.t 116), (.t 117)], none⟩,
              ⟨some 119, .not (.t 118), none⟩,
              ⟨some 120, .val (.t 119), none⟩,
              ⟨some 121, .val (.t 6), some (120, false)⟩,
              ⟨some 122, .val (.t 10), some (120, false)⟩,
              ⟨some 123, .indexS 1 (.t 121) (.t 122), some (120, false)⟩,
              ⟨some 124, .load (.t 123), some (120, false)⟩,
              ⟨some 125, .val (.t 10), some (120, false)⟩,
              ⟨some 126, .call 61 [(.t 124), (.t 125)], some (120, false)⟩,
              ⟨some 127, .not (.t 126), some (120, false)⟩,
              ⟨some 128, .pick (.t 120) (.c (.bool true)) (.t 127), none⟩] [])
             (.cond (.t 128) (.seq (.ops 27 false [
                ⟨some 2, .val (.c (.bool false)), none⟩] [])
               (.ret))
              (.skip))))
           (.ops 25 false [
            ⟨some 108, .val (.t 10), none⟩,
            ⟨some 109, .bin .add (.t 108) (.c (.int .i64 1)), none⟩,
            ⟨some 10, .val (.t 109), none⟩] []))))))
      (.seq (.ops 28 false [
        ⟨some 129, .val (.t 0), none⟩,
        ⟨some 130, .call 62 [(.t 129)], none⟩,
        ⟨some 2, .val (.t 130), none⟩] [])
       (.ret)))))))
def rs20 : List RR := [.tmp 2]
theorem fun20 : FunR Tryd.prog 20 rc20 rs20 131 := ⟨Tryd.f20, Tryd.func20, by kernel_rfl, by kernel_rfl, by kernel_rfl⟩
/-- causeway/causewaylaw11.few -/
def rc21 : RC :=
 .seq (.ops 0 false [
  ⟨some 2, .val (.c (.slice none 0 0)), none⟩] [])
 (.seq (.seq (.ops 1 false [
    ⟨some 3, .val (.t 0), none⟩,
    ⟨some 4, .len (.t 3), none⟩,
    ⟨some 5, .bin .gtr (.t 4) (.c (.int .i64 200)), none⟩] [])
   (.cond (.t 5) (.seq (.ops 2 false [
      ⟨some 6, .val (.t 0), none⟩,
      ⟨some 7, .slice 26 (.t 6) none (some (.c (.int .i64 200))) none, none⟩,
      ⟨some 2, .val (.t 7), none⟩] [])
     (.ret))
    (.skip)))
  (.seq (.ops 3 false [
    ⟨some 8, .val (.t 0), none⟩,
    ⟨some 2, .val (.t 8), none⟩] [])
   (.ret)))
def rs21 : List RR := [.tmp 2]
theorem fun21 : FunR Tryd.prog 21 rc21 rs21 9 := ⟨Tryd.f21, Tryd.func21, by kernel_rfl, by kernel_rfl, by kernel_rfl⟩
/-- causeway/causewaylaw11.booked -/
def rc22 : RC :=
 .seq (.ops 0 false [
  ⟨some 2, .val (.c (.pointer none)), none⟩] [])
 (.seq (.ops 1 false [
   ⟨some 5, .call 15 [], none⟩,
   ⟨some 3, .val (.t 5), none⟩] [])
  (.seq (.seq (.ops 2 false [
     ⟨some 6, .val (.t 3), none⟩,
     ⟨some 7, .eqp .ptr false (.t 6) (.c (.pointer none)), none⟩] [])
    (.cond (.t 7) (.seq (.ops 3 false [
       ⟨some 2, .val (.c (.pointer none)), none⟩] [])
      (.ret))
     (.skip)))
   (.seq (.seq (.ops 4 false [
      ⟨some 4, .val (.c (.int .i64 0)), none⟩] [])
     (.block 0 (.loop (.seq (.seq (.ops 5 false [
          ⟨some 8, .val (.t 4), none⟩,
          ⟨some 9, .val (.t 0), none⟩,
          ⟨some 10, .len (.t 9), none⟩,
          ⟨some 11, .bin .lss (.t 8) (.t 10), none⟩] [])
         (.cond (.t 11) (.skip)
          (.exit 0)))
        (.seq (.block 1 (.seq (.ops 7 false [
            ⟨some 14, .val (.t 3), none⟩,
            ⟨some 15, .val (.t 0), none⟩,
            ⟨some 16, .val (.t 4), none⟩,
            ⟨some 17, .indexS 26 (.t 15) (.t 16), none⟩,
            ⟨some 18, .loadN 26 (.t 17), none⟩,
            ⟨some 19, .val (.t 4), none⟩,
            ⟨some 20, .call 26 [(.t 18), (.t 19)], none⟩,
            ⟨some 21, .call 25 [(.t 14), (.t 20)], none⟩,
            ⟨some 22, .bin .neq (.t 21) (.c (.int .i64 0)), none⟩] [])
           (.cond (.t 22) (.seq (.ops 8 false [
              ⟨some 2, .val (.c (.pointer none)), none⟩] [])
             (.ret))
            (.skip))))
         (.ops 6 false [
          ⟨some 12, .val (.t 4), none⟩,
          ⟨some 13, .bin .add (.t 12) (.c (.int .i64 1)), none⟩,
          ⟨some 4, .val (.t 13), none⟩] []))))))
    (.seq (.ops 9 false [
      ⟨some 23, .val (.t 3), none⟩,
      ⟨some 2, .val (.t 23), none⟩] [])
     (.ret)))))
def rs22 : List RR := [.tmp 2]
theorem fun22 : FunR Tryd.prog 22 rc22 rs22 24 := ⟨Tryd.f22, Tryd.func22, by kernel_rfl, by kernel_rfl, by kernel_rfl⟩
/-- causeway/causewaylaw11.pick -/
def rc23 : RC :=
 .seq (.ops 0 false [
  ⟨some 4, .val (.c (.int .i64 0)), none⟩] [])
 (.seq (.seq (.ops 1 false [
    ⟨some 5, .val (.t 0), none⟩,
    ⟨some 6, .bin .lss (.t 5) (.c (.int .i64 0)), none⟩] [])
   (.cond (.t 6) (.ops 2 false [
     ⟨some 7, .val (.t 0), none⟩,
     ⟨some 8, .bin .add (.t 7) (.c (.int .i64 1)), none⟩,
     ⟨some 9, .neg (.t 8), none⟩,
     ⟨some 0, .val (.t 9), none⟩] [])
    (.skip)))
  (.seq (.ops 3 false [
    ⟨some 10, .val (.t 0), none⟩,
    ⟨some 11, .val (.t 1), none⟩,
    ⟨some 12, .bin .rem (.t 10) (.t 11), none⟩,
    ⟨some 4, .val (.t 12), none⟩] [])
   (.ret)))
def rs23 : List RR := [.tmp 4]
theorem fun23 : FunR Tryd.prog 23 rc23 rs23 13 := ⟨Tryd.f23, Tryd.func23, by kernel_rfl, by kernel_rfl, by kernel_rfl⟩
/-- (*causeway/outbox.Book).Cut -/
def rc24 : RC :=
 .seq (.ops 0 false [
  ⟨some 4, .val (.c (.int .i64 0)), none⟩] [])
 (.seq (.seq (.ops 1 false [
    ⟨some 6, .val (.t 0), none⟩,
    ⟨some 7, .val (.t 1), none⟩,
    ⟨some 8, .call 56 [(.t 6), (.t 7)], none⟩,
    ⟨some 5, .val (.t 8), none⟩] [])
   (.seq (.ops 2 false [
     ⟨some 9, .val (.t 5), none⟩,
     ⟨some 10, .bin .neq (.t 9) (.c (.int .i64 0)), none⟩] [])
    (.cond (.t 10) (.seq (.ops 3 false [
       ⟨some 11, .val (.t 5), none⟩,
       ⟨some 4, .val (.t 11), none⟩] [])
      (.ret))
     (.skip))))
  (.seq (.ops 4 false [
    ⟨some 12, .val (.t 0), none⟩,
    ⟨some 13, .nilCheck (.t 12), none⟩,
    ⟨some 14, .fieldA 0 (.t 13), none⟩,
    ⟨some 15, .fieldA 1 (.t 14), none⟩,
    ⟨some 16, .load (.t 15), none⟩,
    ⟨some 17, .val (.t 1), none⟩,
    ⟨some 18, .slice 1 (.t 16) (some (.t 17)) none none, none⟩,
    ⟨none, .blt .clear #[44] 0 [(.t 18)], none⟩] [])
   (.seq (.ops 5 true [
     ⟨some 19, .val (.t 0), none⟩,
     ⟨some 20, .val (.t 0), none⟩,
     ⟨some 21, .val (.t 0), none⟩,
     ⟨some 22, .nilCheck (.t 21), none⟩,
     ⟨some 23, .fieldA 0 (.t 22), none⟩,
     ⟨some 24, .fieldA 0 (.t 23), none⟩,
     ⟨some 25, .load (.t 24), none⟩,
     ⟨some 26, .val (.t 1), none⟩,
     ⟨some 27, .slice 27 (.t 25) none (some (.t 26)) none, none⟩,
     ⟨some 28, .val (.t 0), none⟩,
     ⟨some 29, .nilCheck (.t 28), none⟩,
     ⟨some 30, .fieldA 0 (.t 29), none⟩,
     ⟨some 31, .fieldA 1 (.t 30), none⟩,
     ⟨some 32, .load (.t 31), none⟩,
     ⟨some 33, .val (.t 1), none⟩,
     ⟨some 34, .slice 1 (.t 32) none (some (.t 33)) none, none⟩,
     ⟨some 35, .nilCheck (.t 19), none⟩,
     ⟨some 36, .fieldA 0 (.t 35), none⟩,
     ⟨some 37, .fieldA 0 (.t 36), none⟩,
     ⟨none, .store 1 (.t 37) (.t 27), none⟩,
     ⟨some 38, .nilCheck (.t 20), none⟩,
     ⟨some 39, .fieldA 0 (.t 38), none⟩,
     ⟨some 40, .fieldA 1 (.t 39), none⟩,
     ⟨none, .store 1 (.t 40) (.t 34), none⟩] [([], []), ([], []), ([], []), ([2], [2]), ([3], [3]), ([4], [4]), ([5], [5]), ([], []), ([6, 7], [6, 7]), ([], []), ([9], [9]), ([10], [10]), ([11], [11]), ([12], [12]), ([], []), ([13, 14], [13, 14]), ([0, 0, 2, 3, 4, 5, 6, 7, 8, 13], [0]), ([16, 0, 2, 3, 4, 5, 6, 7, 8, 13], [16]), ([17, 0, 2, 3, 4, 5, 6, 7, 8, 13], [17]), ([18, 8, 0, 2, 3, 4, 5, 6, 7, 8, 13], [8, 18]), ([1, 0, 1, 2, 3, 4, 5, 6, 7, 8, 9, 10, 11, 12, 13, 14, 15, 16, 17, 18, 19], [1]), ([20, 0, 1, 2, 3, 4, 5, 6, 7, 8, 9, 10, 11, 12, 13, 14, 15, 16, 17, 18, 19], [20]), ([21, 0, 1, 2, 3, 4, 5, 6, 7, 8, 9, 10, 11, 12, 13, 14, 15, 16, 17, 18, 19], [21]), ([22, 15, 19, 0, 1, 2, 3, 4, 5, 6, 7, 8, 9, 10, 11, 12, 13, 14, 15, 16, 17, 18, 19], [15, 22])])
    (.seq (.ops 6 false [
      ⟨some 4, .val (.c (.int .i64 0)), none⟩] [])
     (.ret)))))
def rs24 : List RR := [.tmp 4]
theorem fun24 : FunR Tryd.prog 24 rc24 rs24 41 := ⟨Tryd.f24, Tryd.func24, by kernel_rfl, by kernel_rfl, by kernel_rfl⟩
/-- (*causeway/outbox.Book).Put -/
def rc25 : RC :=
 .seq (.ops 0 false [
  ⟨some 3, .box 32 (.t 1), none⟩,
  ⟨some 4, .val (.c (.int .i64 0)), none⟩] [])
 (.seq (.ops 1 false [
   ⟨some 8, .loadN 27 (.t 3), none⟩,
   ⟨some 9, .call 47 [(.t 8)], none⟩,
   ⟨some 7, .val (.t 9), none⟩,
   ⟨some 10, .extract 0 (.t 7), none⟩,
   ⟨some 11, .extract 1 (.t 7), none⟩,
   ⟨some 5, .val (.t 10), none⟩,
   ⟨some 6, .val (.t 11), none⟩] [])
  (.seq (.block 0 (.seq (.ops 2 false [
      ⟨some 13, .val (.t 6), none⟩,
      ⟨some 14, .bin .neq (.t 13) (.c (.int .i64 0)), none⟩,
      ⟨some 12, .val (.t 14), none⟩] [])
     (.cond (.t 12) (.seq (.ops 3 false [
        ⟨some 15, .val (.t 6), none⟩,
        ⟨some 4, .val (.t 15), none⟩] [])
       (.ret))
      (.seq (.ops 4 true [
        ⟨some 17, .fieldA 0 (.t 3), none⟩,
        ⟨some 18, .load (.t 17), none⟩,
        ⟨some 19, .val (.t 0), none⟩,
        ⟨some 20, .nilCheck (.t 19), none⟩,
        ⟨some 21, .fieldA 0 (.t 20), none⟩,
        ⟨some 22, .call 19 [(.t 21)], none⟩,
        ⟨some 23, .bin .neq (.t 18) (.t 22), none⟩,
        ⟨some 16, .val (.t 23), none⟩] [([], []), ([0], [0]), ([], []), ([2], [2]), ([3], [3]), ([4], [4]), ([1, 5], [1, 5]), ([6, 5], [6])])
       (.cond (.t 16) (.seq (.ops 5 false [
          ⟨some 4, .val (.c (.int .i64 111)), none⟩] [])
         (.ret))
        (.skip))))))
   (.seq (.ops 6 true [
     ⟨some 24, .val (.t 0), none⟩,
     ⟨some 25, .val (.t 0), none⟩,
     ⟨some 26, .nilCheck (.t 25), none⟩,
     ⟨some 27, .fieldA 0 (.t 26), none⟩,
     ⟨some 28, .fieldA 0 (.t 27), none⟩,
     ⟨some 29, .load (.t 28), none⟩,
     ⟨some 30, .loadN 27 (.t 3), none⟩,
     ⟨some 31, .buildS 32 1 [(.int .i64 0), (.int .i64 0), (.int .i64 0), (.int .u8 0), (.int .u8 0), (.int .u8 0), (.int .u8 0), (.int .u8 0), (.int .u8 0), (.int .u8 0), (.int .u8 0), (.int .u8 0), (.int .u8 0), (.int .u8 0), (.int .u8 0), (.int .u8 0), (.int .u8 0), (.int .u8 0), (.int .u8 0), (.int .u8 0), (.int .u8 0), (.int .u8 0), (.int .u8 0), (.int .u64 0), (.int .u64 0), (.int .u64 0), (.int .u64 0)] [(0, 27, (.t 30))], none⟩,
     ⟨some 32, .blt .append #[48, 48] 48 [(.t 29), (.t 31)], none⟩,
     ⟨some 33, .nilCheck (.t 24), none⟩,
     ⟨some 34, .fieldA 0 (.t 33), none⟩,
     ⟨some 35, .fieldA 0 (.t 34), none⟩,
     ⟨none, .store 1 (.t 35) (.t 32), none⟩] [([], []), ([], []), ([1], [1]), ([2], [2]), ([3], [3]), ([4], [4]), ([], []), ([6], [6]), ([5, 7], [5, 7]), ([0, 0, 1, 2, 3, 4, 5, 6, 7, 8], [0]), ([9, 0, 1, 2, 3, 4, 5, 6, 7, 8], [9]), ([10, 0, 1, 2, 3, 4, 5, 6, 7, 8], [10]), ([11, 8, 8, 0, 1, 2, 3, 4, 5, 6, 7, 8], [8, 11])])
    (.seq (.ops 7 false [
      ⟨some 36, .val (.t 0), none⟩,
      ⟨some 37, .val (.t 0), none⟩,
      ⟨some 38, .nilCheck (.t 37), none⟩,
      ⟨some 39, .fieldA 0 (.t 38), none⟩,
      ⟨some 40, .fieldA 1 (.t 39), none⟩,
      ⟨some 41, .load (.t 40), none⟩,
      ⟨some 42, .val (.t 5), none⟩,
      ⟨some 43, .buildS 79 1 [(.slice none 0 0)] [(0, 1, (.t 42))], none⟩,
      ⟨some 44, .blt .append #[44, 44] 44 [(.t 41), (.t 43)], none⟩,
      ⟨some 45, .nilCheck (.t 36), none⟩,
      ⟨some 46, .fieldA 0 (.t 45), none⟩,
      ⟨some 47, .fieldA 1 (.t 46), none⟩,
      ⟨none, .store 1 (.t 47) (.t 44), none⟩] [])
     (.seq (.ops 8 false [
       ⟨some 4, .val (.c (.int .i64 0)), none⟩] [])
      (.ret))))))
def rs25 : List RR := [.tmp 4]
theorem fun25 : FunR Tryd.prog 25 rc25 rs25 48 := ⟨Tryd.f25, Tryd.func25, by kernel_rfl, by kernel_rfl, by kernel_rfl⟩
/-- causeway/causewaylaw11.leaf -/
def rc26 : RC :=
 .seq (.ops 0 false [
  ⟨some 2, .box 67 (.t 0), none⟩,
  ⟨some 4, .alloc 32 [(.int .i64 0), (.int .i64 0), (.int .i64 0), (.int .u8 0), (.int .u8 0), (.int .u8 0), (.int .u8 0), (.int .u8 0), (.int .u8 0), (.int .u8 0), (.int .u8 0), (.int .u8 0), (.int .u8 0), (.int .u8 0), (.int .u8 0), (.int .u8 0), (.int .u8 0), (.int .u8 0), (.int .u8 0), (.int .u8 0), (.int .u8 0), (.int .u8 0), (.int .u8 0), (.int .u64 0), (.int .u64 0), (.int .u64 0), (.int .u64 0)], none⟩] [])
 (.seq (.ops 1 true [
   ⟨some 6, .val (.t 1), none⟩,
   ⟨some 7, .fieldA 0 (.t 2), none⟩,
   ⟨some 8, .load (.t 7), none⟩,
   ⟨some 9, .call 23 [(.t 8), (.c (.int .i64 1099511627776))], none⟩,
   ⟨some 10, .fieldA 1 (.t 2), none⟩,
   ⟨some 11, .load (.t 10), none⟩,
   ⟨some 12, .call 23 [(.t 11), (.c (.int .i64 64))], none⟩,
   ⟨some 13, .fieldA 2 (.t 2), none⟩,
   ⟨some 14, .loadN 20 (.t 13), none⟩,
   ⟨some 15, .fieldA 22 (.t 2), none⟩,
   ⟨some 16, .loadN 4 (.t 15), none⟩,
   ⟨some 17, .build [(.int .i64 0), (.int .i64 0), (.int .i64 0), (.int .u8 0), (.int .u8 0), (.int .u8 0), (.int .u8 0), (.int .u8 0), (.int .u8 0), (.int .u8 0), (.int .u8 0), (.int .u8 0), (.int .u8 0), (.int .u8 0), (.int .u8 0), (.int .u8 0), (.int .u8 0), (.int .u8 0), (.int .u8 0), (.int .u8 0), (.int .u8 0), (.int .u8 0), (.int .u8 0), (.int .u64 0), (.int .u64 0), (.int .u64 0), (.int .u64 0)] [(0, 1, (.t 6)), (1, 1, (.t 9)), (2, 1, (.t 12)), (3, 20, (.t 14)), (23, 4, (.t 16))], none⟩,
   ⟨some 5, .alloc 32 [(.int .i64 0), (.int .i64 0), (.int .i64 0), (.int .u8 0), (.int .u8 0), (.int .u8 0), (.int .u8 0), (.int .u8 0), (.int .u8 0), (.int .u8 0), (.int .u8 0), (.int .u8 0), (.int .u8 0), (.int .u8 0), (.int .u8 0), (.int .u8 0), (.int .u8 0), (.int .u8 0), (.int .u8 0), (.int .u8 0), (.int .u8 0), (.int .u8 0), (.int .u8 0), (.int .u64 0), (.int .u64 0), (.int .u64 0), (.int .u64 0)], none⟩,
   ⟨none, .store 27 (.t 5) (.t 17), none⟩] [([], []), ([], []), ([1], [1]), ([2], [2]), ([], []), ([4], [4]), ([5, 3], [5]), ([], []), ([7], [7]), ([], []), ([9], [9]), ([0, 3, 6, 8, 10], [0, 3, 6, 8, 10]), ([], []), ([12, 11, 6, 0, 1, 2, 3, 4, 5, 6, 7, 8, 9, 10, 11, 12], [11, 12])])
  (.seq (.seq (.ops 2 false [
     ⟨some 18, .fieldA 23 (.t 5), none⟩,
     ⟨some 19, .loadN 4 (.t 18), none⟩,
     ⟨some 20, .build [(.int .u64 0), (.int .u64 0), (.int .u64 0), (.int .u64 0)] [], none⟩,
     ⟨some 21, .eqn false 30 (.t 19) (.t 20), none⟩] [])
    (.cond (.t 21) (.ops 3 false [
      ⟨some 22, .fieldA 23 (.t 5), none⟩,
      ⟨some 23, .indexA 4 1 (.t 22) (.c (.int .i64 3)), none⟩,
      ⟨none, .store 1 (.t 23) (.c (.int .u64 9)), none⟩] [])
     (.skip)))
   (.seq (.ops 4 false [
     ⟨some 24, .loadN 27 (.t 5), none⟩,
     ⟨none, .store 27 (.t 4) (.t 24), none⟩] [])
    (.ret))))
def rs26 : List RR := [.cell 4 (some 27)]
theorem fun26 : FunR Tryd.prog 26 rc26 rs26 25 := ⟨Tryd.f26, Tryd.func26, by kernel_rfl, by kernel_rfl, by kernel_rfl⟩
/-- (*causeway/outbox.Book).Leaf -/
def rc27 : RC :=
 .seq (.ops 0 false [
  ⟨some 4, .alloc 32 [(.int .i64 0), (.int .i64 0), (.int .i64 0), (.int .u8 0), (.int .u8 0), (.int .u8 0), (.int .u8 0), (.int .u8 0), (.int .u8 0), (.int .u8 0), (.int .u8 0), (.int .u8 0), (.int .u8 0), (.int .u8 0), (.int .u8 0), (.int .u8 0), (.int .u8 0), (.int .u8 0), (.int .u8 0), (.int .u8 0), (.int .u8 0), (.int .u8 0), (.int .u8 0), (.int .u64 0), (.int .u64 0), (.int .u64 0), (.int .u64 0)], none⟩,
  ⟨some 5, .val (.c (.int .i64 0)), none⟩] [])
 (.seq (.seq (.ops 1 false [
    ⟨some 6, .val (.t 1), none⟩,
    ⟨some 7, .bin .lss (.t 6) (.c (.int .i64 0)), none⟩,
    ⟨some 8, .val (.t 7), none⟩,
    ⟨some 9, .val (.t 1), some (8, false)⟩,
    ⟨some 10, .val (.t 0), some (8, false)⟩,
    ⟨some 11, .nilCheck (.t 10), some (8, false)⟩,
    ⟨some 12, .fieldA 0 (.t 11), some (8, false)⟩,
    ⟨some 13, .call 19 [(.t 12)], some (8, false)⟩,
    ⟨some 14, .bin .geq (.t 9) (.t 13), some (8, false)⟩,
    ⟨some 15, .pick (.t 8) (.c (.bool true)) (.t 14), none⟩] [])
   (.cond (.t 15) (.seq (.ops 2 false [
      ⟨some 16, .build [(.int .i64 0), (.int .i64 0), (.int .i64 0), (.int .u8 0), (.int .u8 0), (.int .u8 0), (.int .u8 0), (.int .u8 0), (.int .u8 0), (.int .u8 0), (.int .u8 0), (.int .u8 0), (.int .u8 0), (.int .u8 0), (.int .u8 0), (.int .u8 0), (.int .u8 0), (.int .u8 0), (.int .u8 0), (.int .u8 0), (.int .u8 0), (.int .u8 0), (.int .u8 0), (.int .u64 0), (.int .u64 0), (.int .u64 0), (.int .u64 0)] [], none⟩,
      ⟨none, .store 27 (.t 4) (.t 16), none⟩,
      ⟨some 5, .val (.c (.int .i64 111)), none⟩] [])
     (.ret))
    (.skip)))
  (.seq (.ops 3 false [
    ⟨some 17, .val (.t 0), none⟩,
    ⟨some 18, .nilCheck (.t 17), none⟩,
    ⟨some 19, .fieldA 0 (.t 18), none⟩,
    ⟨some 20, .fieldA 0 (.t 19), none⟩,
    ⟨some 21, .load (.t 20), none⟩,
    ⟨some 22, .val (.t 1), none⟩,
    ⟨some 23, .indexS 27 (.t 21) (.t 22), none⟩,
    ⟨some 24, .loadN 27 (.t 23), none⟩,
    ⟨none, .store 27 (.t 4) (.t 24), none⟩,
    ⟨some 5, .val (.c (.int .i64 0)), none⟩] [])
   (.ret)))
def rs27 : List RR := [.cell 4 (some 27), .tmp 5]
theorem fun27 : FunR Tryd.prog 27 rc27 rs27 25 := ⟨Tryd.f27, Tryd.func27, by kernel_rfl, by kernel_rfl, by kernel_rfl⟩
/-- (*causeway/outbox.Book).Path -/
def rc28 : RC :=
 .seq (.ops 0 false [
  ⟨some 6, .val (.c (.slice none 0 0)), none⟩,
  ⟨some 7, .val (.c (.int .i64 0)), none⟩] [])
 (.seq (.seq (.ops 1 false [
    ⟨some 9, .val (.t 0), none⟩,
    ⟨some 10, .val (.t 2), none⟩,
    ⟨some 11, .call 56 [(.t 9), (.t 10)], none⟩,
    ⟨some 8, .val (.t 11), none⟩] [])
   (.seq (.ops 2 false [
     ⟨some 12, .val (.t 8), none⟩,
     ⟨some 13, .bin .neq (.t 12) (.c (.int .i64 0)), none⟩] [])
    (.cond (.t 13) (.seq (.ops 3 false [
       ⟨some 14, .val (.t 8), none⟩,
       ⟨some 6, .val (.c (.slice none 0 0)), none⟩,
       ⟨some 7, .val (.t 14), none⟩] [])
      (.ret))
     (.skip))))
  (.seq (.seq (.ops 4 false [
     ⟨some 15, .val (.t 1), none⟩,
     ⟨some 16, .bin .lss (.t 15) (.c (.int .i64 0)), none⟩,
     ⟨some 17, .val (.t 16), none⟩,
     ⟨some 18, .val (.t 1), some (17, false)⟩,
     ⟨some 19, .val (.t 2), some (17, false)⟩,
     ⟨some 20, .bin .geq (.t 18) (.t 19), some (17, false)⟩,
     ⟨some 21, .pick (.t 17) (.c (.bool true)) (.t 20), none⟩] [])
    (.cond (.t 21) (.seq (.ops 5 false [
       ⟨some 6, .val (.c (.slice none 0 0)), none⟩,
       ⟨some 7, .val (.c (.int .i64 111)), none⟩] [])
      (.ret))
     (.skip)))
   (.seq (.ops 6 false [
     ⟨some 22, .val (.t 0), none⟩,
     ⟨some 23, .nilCheck (.t 22), none⟩,
     ⟨some 24, .fieldA 0 (.t 23), none⟩,
     ⟨some 25, .fieldA 1 (.t 24), none⟩,
     ⟨some 26, .load (.t 25), none⟩,
     ⟨some 27, .val (.t 2), none⟩,
     ⟨some 28, .slice 1 (.t 26) none (some (.t 27)) none, none⟩,
     ⟨some 29, .val (.t 1), none⟩,
     ⟨some 30, .call 63 [(.t 28), (.t 29)], none⟩,
     ⟨some 31, .extract 0 (.t 30), none⟩,
     ⟨some 32, .extract 1 (.t 30), none⟩,
     ⟨some 6, .val (.t 31), none⟩,
     ⟨some 7, .val (.t 32), none⟩] [])
    (.ret))))
def rs28 : List RR := [.tmp 6, .tmp 7]
theorem fun28 : FunR Tryd.prog 28 rc28 rs28 33 := ⟨Tryd.f28, Tryd.func28, by kernel_rfl, by kernel_rfl, by kernel_rfl⟩
/-- causeway/causewayref04.Texts -/
def rc29 : RC :=
 .seq (.ops 0 false [
  ⟨some 8, .val (.c (.slice none 0 0)), none⟩] [])
 (.seq (.ops 1 false [
   ⟨some 14, .val (.t 2), none⟩,
   ⟨some 15, .call 64 [(.t 14)], none⟩,
   ⟨some 9, .val (.t 15), none⟩] [])
  (.seq (.ops 2 false [
    ⟨some 16, .val (.t 9), none⟩,
    ⟨some 17, .buildS 79 1 [(.slice none 0 0)] [(0, 1, (.t 16))], none⟩,
    ⟨some 10, .val (.t 17), none⟩] [])
   (.seq (.ops 3 false [
     ⟨some 18, .val (.t 0), none⟩,
     ⟨some 19, .val (.t 1), none⟩,
     ⟨some 20, .call 65 [(.t 18), (.t 19)], none⟩,
     ⟨some 11, .val (.t 20), none⟩] [])
    (.seq (.seq (.ops 4 false [
       ⟨some 12, .val (.c (.int .i64 0)), none⟩] [])
      (.block 0 (.loop (.seq (.seq (.ops 5 false [
           ⟨some 21, .val (.t 12), none⟩,
           ⟨some 22, .val (.t 11), none⟩,
           ⟨some 23, .len (.t 22), none⟩,
           ⟨some 24, .bin .lss (.t 21) (.t 23), none⟩] [])
          (.cond (.t 24) (.skip)
           (.exit 0)))
         (.seq (.block 1 (.seq (.ops 7 false [
             ⟨some 27, .val (.t 10), none⟩,
             ⟨some 28, .val (.t 12), none⟩,
             ⟨some 29, .indexS 1 (.t 27) (.t 28), none⟩,
             ⟨some 30, .load (.t 29), none⟩,
             ⟨some 31, .call 66 [(.t 30)], none⟩,
             ⟨some 13, .alloc 25 (List.replicate 32 (.int .u8 0)), none⟩,
             ⟨none, .store 32 (.t 13) (.t 31), none⟩] [])
            (.seq (.seq (.ops 8 false [
               ⟨some 32, .val (.t 11), none⟩,
               ⟨some 33, .val (.t 12), none⟩,
               ⟨some 34, .indexS 1 (.t 32) (.t 33), none⟩,
               ⟨some 35, .load (.t 34), none⟩] [])
              (.cond (.t 35) (.ops 9 true [
                ⟨some 36, .loadN 32 (.t 13), none⟩,
                ⟨some 37, .val (.t 3), none⟩,
                ⟨some 38, .val (.t 12), none⟩,
                ⟨some 39, .indexS 32 (.t 37) (.t 38), none⟩,
                ⟨some 40, .loadN 32 (.t 39), none⟩,
                ⟨some 41, .call 67 [(.t 36), (.t 40)], none⟩,
                ⟨some 9, .val (.t 41), none⟩] [([], []), ([], []), ([], []), ([1, 2], [1, 2]), ([3], [3]), ([0, 4], [0, 4]), ([5, 5, 0, 1, 2, 3, 4, 5], [5])])
               (.ops 10 true [
                ⟨some 42, .val (.t 3), none⟩,
                ⟨some 43, .val (.t 12), none⟩,
                ⟨some 44, .indexS 32 (.t 42) (.t 43), none⟩,
                ⟨some 45, .loadN 32 (.t 44), none⟩,
                ⟨some 46, .loadN 32 (.t 13), none⟩,
                ⟨some 47, .call 67 [(.t 45), (.t 46)], none⟩,
                ⟨some 9, .val (.t 47), none⟩] [([], []), ([], []), ([0, 1], [0, 1]), ([2], [2]), ([], []), ([3, 4], [3, 4]), ([5, 5, 0, 1, 2, 3, 4, 5], [5])])))
             (.ops 11 false [
              ⟨some 48, .val (.t 10), none⟩,
              ⟨some 49, .val (.t 9), none⟩,
              ⟨some 50, .buildS 79 1 [(.slice none 0 0)] [(0, 1, (.t 49))], none⟩,
              ⟨some 51, .blt .append #[44, 44] 44 [(.t 48), (.t 50)], none⟩,
              ⟨some 10, .val (.t 51), none⟩] []))))
          (.ops 6 false [
           ⟨some 25, .val (.t 12), none⟩,
           ⟨some 26, .bin .add (.t 25) (.c (.int .i64 1)), none⟩,
           ⟨some 12, .val (.t 26), none⟩] []))))))
     (.seq (.ops 12 false [
       ⟨some 52, .val (.t 10), none⟩,
       ⟨some 8, .val (.t 52), none⟩] [])
      (.ret))))))
def rs29 : List RR := [.tmp 8]
theorem fun29 : FunR Tryd.prog 29 rc29 rs29 53 := ⟨Tryd.f29, Tryd.func29, by kernel_rfl, by kernel_rfl, by kernel_rfl⟩
/-- causeway/causewayref11.Form -/
def rc30 : RC :=
 .seq (.ops 0 false [
  ⟨some 1, .box 32 (.t 0), none⟩,
  ⟨some 2, .val (.c (.slice none 0 0)), none⟩] [])
 (.seq (.ops 1 false [
   ⟨some 4, .build [(.slice none 0 0), (.int .i64 0)] [], none⟩,
   ⟨some 5, .box 127 (.t 4), none⟩,
   ⟨some 3, .val (.t 5), none⟩] [])
  (.seq (.ops 2 false [
    ⟨some 6, .val (.t 3), none⟩,
    ⟨some 7, .call 68 [(.t 6), (.c (.int .u8 76))], none⟩] [])
   (.seq (.ops 3 false [
     ⟨some 8, .val (.t 3), none⟩,
     ⟨some 9, .fieldA 0 (.t 1), none⟩,
     ⟨some 10, .load (.t 9), none⟩,
     ⟨some 11, .call 69 [(.t 8), (.t 10)], none⟩] [])
    (.seq (.ops 4 false [
      ⟨some 12, .val (.t 3), none⟩,
      ⟨some 13, .fieldA 1 (.t 1), none⟩,
      ⟨some 14, .load (.t 13), none⟩,
      ⟨some 15, .call 69 [(.t 12), (.t 14)], none⟩] [])
     (.seq (.ops 5 false [
       ⟨some 16, .val (.t 3), none⟩,
       ⟨some 17, .fieldA 2 (.t 1), none⟩,
       ⟨some 18, .load (.t 17), none⟩,
       ⟨some 19, .call 69 [(.t 16), (.t 18)], none⟩] [])
      (.seq (.ops 6 false [
        ⟨some 20, .val (.t 3), none⟩,
        ⟨some 21, .fieldA 3 (.t 1), none⟩,
        ⟨some 22, .loadN 20 (.t 21), none⟩,
        ⟨some 23, .call 70 [(.t 20), (.t 22)], none⟩] [])
       (.seq (.ops 7 false [
         ⟨some 24, .val (.t 3), none⟩,
         ⟨some 25, .fieldA 23 (.t 1), none⟩,
         ⟨some 26, .loadN 4 (.t 25), none⟩,
         ⟨some 27, .call 71 [(.t 24), (.t 26)], none⟩] [])
        (.seq (.ops 8 false [
          ⟨some 28, .val (.t 3), none⟩,
          ⟨some 29, .nilCheck (.t 28), none⟩,
          ⟨some 30, .fieldA 0 (.t 29), none⟩,
          ⟨some 31, .load (.t 30), none⟩,
          ⟨some 2, .val (.t 31), none⟩] [])
         (.ret)))))))))
def rs30 : List RR := [.tmp 2]
theorem fun30 : FunR Tryd.prog 30 rc30 rs30 32 := ⟨Tryd.f30, Tryd.func30, by kernel_rfl, by kernel_rfl, by kernel_rfl⟩
/-- causeway/causewaylaw11.clash -/
def rc31 : RC :=
 .seq (.ops 0 false [
  ⟨some 2, .val (.c (.bool false)), none⟩] [])
 (.seq (.seq (.ops 1 false [
    ⟨some 3, .val (.c (.int .i64 0)), none⟩] [])
   (.block 0 (.loop (.seq (.seq (.ops 2 false [
        ⟨some 5, .val (.t 3), none⟩,
        ⟨some 6, .val (.t 0), none⟩,
        ⟨some 7, .len (.t 6), none⟩,
        ⟨some 8, .bin .lss (.t 5) (.t 7), none⟩] [])
       (.cond (.t 8) (.skip)
        (.exit 0)))
      (.seq (.block 1 (.seq (.ops 4 false [
          ⟨some 4, .val (.c (.int .i64 0)), none⟩] [])
         (.block 2 (.loop (.seq (.seq (.ops 5 false [
              ⟨some 11, .val (.t 4), none⟩,
              ⟨some 12, .val (.t 3), none⟩,
              ⟨some 13, .bin .lss (.t 11) (.t 12), none⟩] [])
             (.cond (.t 13) (.skip)
              (.exit 2)))
            (.seq (.block 3 (.seq (.ops 7 true [
                ⟨some 16, .val (.t 0), none⟩,
                ⟨some 17, .val (.t 3), none⟩,
                ⟨some 18, .indexS 1 (.t 16) (.t 17), none⟩,
                ⟨some 19, .load (.t 18), none⟩,
                ⟨some 20, .cvt 79 9 (.t 19), none⟩,
                ⟨some 21, .val (.t 0), none⟩,
                ⟨some 22, .val (.t 4), none⟩,
                ⟨some 23, .indexS 1 (.t 21) (.t 22), none⟩,
                ⟨some 24, .load (.t 23), none⟩,
                ⟨some 25, .cvt 79 9 (.t 24), none⟩,
                ⟨some 26, .eqp .str true (.t 20) (.t 25), none⟩,
                ⟨some 27, .val (.t 26), none⟩,
                ⟨some 28, .val (.t 0), some (27, true)⟩,
                ⟨some 29, .val (.t 3), some (27, true)⟩,
                ⟨some 30, .indexS 1 (.t 28) (.t 29), some (27, true)⟩,
                ⟨some 31, .load (.t 30), some (27, true)⟩,
                ⟨some 32, .call 66 [(.t 31)], some (27, true)⟩,
                ⟨some 33, .val (.t 0), some (27, true)⟩,
                ⟨some 34, .val (.t 4), some (27, true)⟩,
                ⟨some 35, .indexS 1 (.t 33) (.t 34), some (27, true)⟩,
                ⟨some 36, .load (.t 35), some (27, true)⟩,
                ⟨some 37, .call 66 [(.t 36)], some (27, true)⟩,
                ⟨some 38, .eqn false 25 (.t 32) (.t 37), some (27, true)⟩,
                ⟨some 39, .pick (.t 27) (.t 38) (.c (.bool false)), none⟩] [([], []), ([], []), ([0, 1], [0, 1]), ([2], [2]), ([3], [3]), ([], []), ([], []), ([5, 6], [5, 6]), ([7], [7]), ([8], [8]), ([4, 9], [4, 9]), ([10], [10]), ([11], [11]), ([11], [11]), ([12, 13, 11], [11, 12, 13]), ([14, 11], [11, 14]), ([15, 11, 11], [11, 15]), ([11], [11]), ([11], [11]), ([17, 18, 11], [11, 17, 18]), ([19, 11], [11, 19]), ([20, 16, 11], [11, 20]), ([16, 21, 11], [11, 16, 21]), ([11, 22], [11, 22])])
               (.cond (.t 39) (.seq (.ops 8 false [
                  ⟨some 2, .val (.c (.bool true)), none⟩] [])
                 (.ret))
                (.skip))))
             (.ops 6 false [
              ⟨some 14, .val (.t 4), none⟩,
              ⟨some 15, .bin .add (.t 14) (.c (.int .i64 1)), none⟩,
              ⟨some 4, .val (.t 15), none⟩] [])))))))
       (.ops 3 false [
        ⟨some 9, .val (.t 3), none⟩,
        ⟨some 10, .bin .add (.t 9) (.c (.int .i64 1)), none⟩,
        ⟨some 3, .val (.t 10), none⟩] []))))))
  (.seq (.ops 9 false [
    ⟨some 2, .val (.c (.bool false)), none⟩] [])
   (.ret)))
def rs31 : List RR := [.tmp 2]
theorem fun31 : FunR Tryd.prog 31 rc31 rs31 40 := ⟨Tryd.f31, Tryd.func31, by kernel_rfl, by kernel_rfl, by kernel_rfl⟩
/-- causeway/outbox.Bytes -/
def rc47 : RC :=
 .seq (.ops 0 false [
  ⟨some 1, .box 32 (.t 0), none⟩,
  ⟨some 2, .val (.c (.slice none 0 0)), none⟩,
  ⟨some 3, .val (.c (.int .i64 0)), none⟩] [])
 (.seq (.seq (.ops 1 false [
    ⟨some 5, .loadN 27 (.t 1), none⟩,
    ⟨some 6, .call 78 [(.t 5)], none⟩,
    ⟨some 7, .not (.t 6), none⟩] [])
   (.cond (.t 7) (.seq (.ops 2 false [
      ⟨some 2, .val (.c (.slice none 0 0)), none⟩,
      ⟨some 3, .val (.c (.int .i64 110)), none⟩] [])
     (.ret))
    (.skip)))
  (.seq (.ops 3 false [
    ⟨some 8, .call 92 [], none⟩,
    ⟨some 4, .val (.t 8), none⟩] [])
   (.seq (.ops 4 false [
     ⟨some 9, .val (.t 4), none⟩,
     ⟨some 10, .call 93 [(.t 9), (.c (.int .u8 76))], none⟩] [])
    (.seq (.ops 5 false [
      ⟨some 11, .val (.t 4), none⟩,
      ⟨some 12, .fieldA 0 (.t 1), none⟩,
      ⟨some 13, .load (.t 12), none⟩,
      ⟨some 14, .call 94 [(.t 11), (.t 13)], none⟩] [])
     (.seq (.ops 6 false [
       ⟨some 15, .val (.t 4), none⟩,
       ⟨some 16, .fieldA 1 (.t 1), none⟩,
       ⟨some 17, .load (.t 16), none⟩,
       ⟨some 18, .call 94 [(.t 15), (.t 17)], none⟩] [])
      (.seq (.ops 7 false [
        ⟨some 19, .val (.t 4), none⟩,
        ⟨some 20, .fieldA 2 (.t 1), none⟩,
        ⟨some 21, .load (.t 20), none⟩,
        ⟨some 22, .call 94 [(.t 19), (.t 21)], none⟩] [])
       (.seq (.ops 8 false [
         ⟨some 23, .val (.t 4), none⟩,
         ⟨some 24, .fieldA 3 (.t 1), none⟩,
         ⟨some 25, .loadN 20 (.t 24), none⟩,
         ⟨some 26, .call 95 [(.t 23), (.t 25)], none⟩] [])
        (.seq (.ops 9 false [
          ⟨some 27, .val (.t 4), none⟩,
          ⟨some 28, .fieldA 23 (.t 1), none⟩,
          ⟨some 29, .loadN 4 (.t 28), none⟩,
          ⟨some 30, .call 96 [(.t 27), (.t 29)], none⟩] [])
         (.seq (.ops 10 false [
           ⟨some 31, .val (.t 4), none⟩,
           ⟨some 32, .call 97 [(.t 31)], none⟩,
           ⟨some 33, .extract 0 (.t 32), none⟩,
           ⟨some 34, .extract 1 (.t 32), none⟩,
           ⟨some 2, .val (.t 33), none⟩,
           ⟨some 3, .val (.t 34), none⟩] [])
          (.ret))))))))))
def rs47 : List RR := [.tmp 2, .tmp 3]
theorem fun47 : FunR Tryd.prog 47 rc47 rs47 35 := ⟨Tryd.f47, Tryd.func47, by kernel_rfl, by kernel_rfl, by kernel_rfl⟩
/-- causeway/tree.Check -/
def rc48 : RC :=
 .seq (.ops 0 false [
  ⟨some 5, .box 25 (.t 0), none⟩,
  ⟨some 10, .val (.c (.int .i64 0)), none⟩] [])
 (.seq (.block 0 (.seq (.ops 1 false [
     ⟨some 14, .val (.t 1), none⟩,
     ⟨some 15, .bin .lss (.t 14) (.c (.int .i64 1)), none⟩,
     ⟨some 16, .val (.t 15), none⟩,
     ⟨some 17, .val (.t 1), some (16, false)⟩,
     ⟨some 18, .bin .gtr (.t 17) (.c (.int .i64 1099511627776)), some (16, false)⟩,
     ⟨some 19, .pick (.t 16) (.c (.bool true)) (.t 18), none⟩,
     ⟨some 13, .val (.t 19), none⟩] [])
    (.cond (.t 13) (.seq (.ops 2 false [
       ⟨some 10, .val (.c (.int .i64 40)), none⟩] [])
      (.ret))
     (.seq (.ops 3 false [
       ⟨some 21, .val (.t 2), none⟩,
       ⟨some 22, .bin .lss (.t 21) (.c (.int .i64 0)), none⟩,
       ⟨some 23, .val (.t 22), none⟩,
       ⟨some 24, .val (.t 2), some (23, false)⟩,
       ⟨some 25, .val (.t 1), some (23, false)⟩,
       ⟨some 26, .bin .geq (.t 24) (.t 25), some (23, false)⟩,
       ⟨some 27, .pick (.t 23) (.c (.bool true)) (.t 26), none⟩,
       ⟨some 20, .val (.t 27), none⟩] [])
      (.cond (.t 20) (.seq (.ops 4 false [
         ⟨some 10, .val (.c (.int .i64 41)), none⟩] [])
        (.ret))
       (.seq (.ops 5 false [
         ⟨some 29, .val (.t 4), none⟩,
         ⟨some 30, .len (.t 29), none⟩,
         ⟨some 31, .bin .gtr (.t 30) (.c (.int .i64 64)), none⟩,
         ⟨some 28, .val (.t 31), none⟩] [])
        (.cond (.t 28) (.seq (.ops 6 false [
           ⟨some 10, .val (.c (.int .i64 43)), none⟩] [])
          (.ret))
         (.skip))))))))
  (.seq (.seq (.ops 7 false [
     ⟨some 33, .val (.t 1), none⟩,
     ⟨some 34, .val (.t 2), none⟩,
     ⟨some 35, .val (.t 3), none⟩,
     ⟨some 36, .call 99 [(.t 35)], none⟩,
     ⟨some 37, .val (.t 4), none⟩,
     ⟨some 38, .call 98 [(.t 33), (.t 34), (.t 36), (.t 37)], none⟩,
     ⟨some 32, .val (.t 38), none⟩,
     ⟨some 39, .extract 0 (.t 32), none⟩,
     ⟨some 40, .extract 1 (.t 32), none⟩,
     ⟨some 11, .alloc 25 (List.replicate 32 (.int .u8 0)), none⟩,
     ⟨none, .store 32 (.t 11) (.t 39), none⟩,
     ⟨some 12, .val (.t 40), none⟩] [])
    (.seq (.ops 8 false [
      ⟨some 41, .val (.t 12), none⟩,
      ⟨some 42, .not (.t 41), none⟩,
      ⟨some 43, .val (.t 42), none⟩,
      ⟨some 44, .loadN 32 (.t 11), some (43, false)⟩,
      ⟨some 45, .loadN 32 (.t 5), some (43, false)⟩,
      ⟨some 46, .eqn true 25 (.t 44) (.t 45), some (43, false)⟩,
      ⟨some 47, .pick (.t 43) (.c (.bool true)) (.t 46), none⟩] [])
     (.cond (.t 47) (.seq (.ops 9 false [
        ⟨some 10, .val (.c (.int .i64 43)), none⟩] [])
       (.ret))
      (.skip))))
   (.seq (.ops 10 false [
     ⟨some 10, .val (.c (.int .i64 0)), none⟩] [])
    (.ret))))
def rs48 : List RR := [.tmp 10]
theorem fun48 : FunR Tryd.prog 48 rc48 rs48 48 := ⟨Tryd.f48, Tryd.func48, by kernel_rfl, by kernel_rfl, by kernel_rfl⟩
/-- causeway/causewayref11.May -/
def rc49 : RC :=
 .seq (.ops 0 false [
  ⟨some 1, .box 32 (.t 0), none⟩,
  ⟨some 2, .val (.c (.bool false)), none⟩] [])
 (.seq (.ops 1 false [
   ⟨some 3, .fieldA 0 (.t 1), none⟩,
   ⟨some 4, .load (.t 3), none⟩,
   ⟨some 5, .bin .geq (.t 4) (.c (.int .i64 0)), none⟩,
   ⟨some 6, .val (.t 5), none⟩,
   ⟨some 7, .fieldA 0 (.t 1), some (6, true)⟩,
   ⟨some 8, .load (.t 7), some (6, true)⟩,
   ⟨some 9, .bin .lss (.t 8) (.c (.int .i64 1099511627776)), some (6, true)⟩,
   ⟨some 10, .pick (.t 6) (.t 9) (.c (.bool false)), none⟩,
   ⟨some 11, .val (.t 10), none⟩,
   ⟨some 12, .fieldA 1 (.t 1), some (11, true)⟩,
   ⟨some 13, .load (.t 12), some (11, true)⟩,
   ⟨some 14, .bin .geq (.t 13) (.c (.int .i64 0)), some (11, true)⟩,
   ⟨some 15, .pick (.t 11) (.t 14) (.c (.bool false)), none⟩,
   ⟨some 16, .val (.t 15), none⟩,
   ⟨some 17, .fieldA 1 (.t 1), some (16, true)⟩,
   ⟨some 18, .load (.t 17), some (16, true)⟩,
   ⟨some 19, .bin .lss (.t 18) (.c (.int .i64 1099511627776)), some (16, true)⟩,
   ⟨some 20, .pick (.t 16) (.t 19) (.c (.bool false)), none⟩,
   ⟨some 21, .val (.t 20), none⟩,
   ⟨some 22, .fieldA 2 (.t 1), some (21, true)⟩,
   ⟨some 23, .load (.t 22), some (21, true)⟩,
   ⟨some 24, .bin .geq (.t 23) (.c (.int .i64 0)), some (21, true)⟩,
   ⟨some 25, .pick (.t 21) (.t 24) (.c (.bool false)), none⟩,
   ⟨some 26, .val (.t 25), none⟩,
   ⟨some 27, .fieldA 2 (.t 1), some (26, true)⟩,
   ⟨some 28, .load (.t 27), some (26, true)⟩,
   ⟨some 29, .bin .lss (.t 28) (.c (.int .i64 64)), some (26, true)⟩,
   ⟨some 30, .pick (.t 26) (.t 29) (.c (.bool false)), none⟩,
   ⟨some 31, .val (.t 30), none⟩,
   ⟨some 32, .fieldA 23 (.t 1), some (31, true)⟩,
   ⟨some 33, .loadN 4 (.t 32), some (31, true)⟩,
   ⟨some 34, .build [(.int .u64 0), (.int .u64 0), (.int .u64 0), (.int .u64 0)] [], some (31, true)⟩,
   ⟨some 35, .eqn true 30 (.t 33) (.t 34), some (31, true)⟩,
   ⟨some 36, .pick (.t 31) (.t 35) (.c (.bool false)), none⟩,
   ⟨some 2, .val (.t 36), none⟩] [])
  (.ret))
def rs49 : List RR := [.tmp 2]
theorem fun49 : FunR Tryd.prog 49 rc49 rs49 37 := ⟨Tryd.f49, Tryd.func49, by kernel_rfl, by kernel_rfl, by kernel_rfl⟩
/-- causeway/causewayref04.Check -/
def rc50 : RC :=
 .seq (.ops 0 false [
  ⟨some 5, .box 25 (.t 0), none⟩,
  ⟨some 10, .val (.c (.int .i64 0)), none⟩] [])
 (.seq (.seq (.ops 1 false [
    ⟨some 14, .val (.t 1), none⟩,
    ⟨some 15, .bin .lss (.t 14) (.c (.int .i64 1)), none⟩,
    ⟨some 16, .val (.t 15), none⟩,
    ⟨some 17, .val (.t 1), some (16, false)⟩,
    ⟨some 18, .bin .gtr (.t 17) (.c (.int .i64 1099511627776)), some (16, false)⟩,
    ⟨some 19, .pick (.t 16) (.c (.bool true)) (.t 18), none⟩] [])
   (.cond (.t 19) (.seq (.ops 2 false [
      ⟨some 10, .val (.c (.int .i64 40)), none⟩] [])
     (.ret))
    (.skip)))
  (.seq (.seq (.ops 3 false [
     ⟨some 20, .val (.t 2), none⟩,
     ⟨some 21, .bin .lss (.t 20) (.c (.int .i64 0)), none⟩,
     ⟨some 22, .val (.t 21), none⟩,
     ⟨some 23, .val (.t 2), some (22, false)⟩,
     ⟨some 24, .val (.t 1), some (22, false)⟩,
     ⟨some 25, .bin .geq (.t 23) (.t 24), some (22, false)⟩,
     ⟨some 26, .pick (.t 22) (.c (.bool true)) (.t 25), none⟩] [])
    (.cond (.t 26) (.seq (.ops 4 false [
       ⟨some 10, .val (.c (.int .i64 41)), none⟩] [])
      (.ret))
     (.skip)))
   (.seq (.ops 5 false [
     ⟨some 27, .val (.t 1), none⟩,
     ⟨some 28, .val (.t 2), none⟩,
     ⟨some 29, .call 65 [(.t 27), (.t 28)], none⟩,
     ⟨some 11, .val (.t 29), none⟩] [])
    (.seq (.seq (.ops 6 false [
       ⟨some 30, .val (.t 4), none⟩,
       ⟨some 31, .len (.t 30), none⟩,
       ⟨some 32, .val (.t 11), none⟩,
       ⟨some 33, .len (.t 32), none⟩,
       ⟨some 34, .bin .neq (.t 31) (.t 33), none⟩] [])
      (.cond (.t 34) (.seq (.ops 7 false [
         ⟨some 10, .val (.c (.int .i64 43)), none⟩] [])
        (.ret))
       (.skip)))
     (.seq (.ops 8 false [
       ⟨some 35, .val (.t 1), none⟩,
       ⟨some 36, .val (.t 2), none⟩,
       ⟨some 37, .val (.t 3), none⟩,
       ⟨some 38, .val (.t 4), none⟩,
       ⟨some 39, .call 29 [(.t 35), (.t 36), (.t 37), (.t 38)], none⟩,
       ⟨some 12, .val (.t 39), none⟩] [])
      (.seq (.ops 9 false [
        ⟨some 40, .val (.t 12), none⟩,
        ⟨some 41, .val (.t 12), none⟩,
        ⟨some 42, .len (.t 41), none⟩,
        ⟨some 43, .bin .sub (.t 42) (.c (.int .i64 1)), none⟩,
        ⟨some 44, .indexS 1 (.t 40) (.t 43), none⟩,
        ⟨some 45, .load (.t 44), none⟩,
        ⟨some 46, .call 66 [(.t 45)], none⟩,
        ⟨some 13, .alloc 25 (List.replicate 32 (.int .u8 0)), none⟩,
        ⟨none, .store 32 (.t 13) (.t 46), none⟩] [])
       (.seq (.seq (.ops 10 false [
          ⟨some 47, .loadN 32 (.t 13), none⟩,
          ⟨some 48, .loadN 32 (.t 5), none⟩,
          ⟨some 49, .eqn true 25 (.t 47) (.t 48), none⟩] [])
         (.cond (.t 49) (.seq (.ops 11 false [
            ⟨some 10, .val (.c (.int .i64 43)), none⟩] [])
           (.ret))
          (.skip)))
        (.seq (.ops 12 false [
          ⟨some 10, .val (.c (.int .i64 0)), none⟩] [])
         (.ret)))))))))
def rs50 : List RR := [.tmp 10]
theorem fun50 : FunR Tryd.prog 50 rc50 rs50 50 := ⟨Tryd.f50, Tryd.func50, by kernel_rfl, by kernel_rfl, by kernel_rfl⟩
/-- causeway/causewayref11.Put -/
def rc51 : RC :=
 .seq (.ops 0 false [
  ⟨some 3, .box 32 (.t 1), none⟩,
  ⟨some 4, .val (.c (.slice none 0 0)), none⟩,
  ⟨some 5, .val (.c (.int .i64 0)), none⟩] [])
 (.seq (.seq (.ops 1 false [
    ⟨some 8, .loadN 27 (.t 3), none⟩,
    ⟨some 9, .call 49 [(.t 8)], none⟩,
    ⟨some 10, .not (.t 9), none⟩] [])
   (.cond (.t 10) (.seq (.ops 2 false [
      ⟨some 11, .val (.t 0), none⟩,
      ⟨some 4, .val (.t 11), none⟩,
      ⟨some 5, .val (.c (.int .i64 110)), none⟩] [])
     (.ret))
    (.skip)))
  (.seq (.seq (.ops 3 false [
     ⟨some 12, .fieldA 0 (.t 3), none⟩,
     ⟨some 13, .load (.t 12), none⟩,
     ⟨some 14, .val (.t 0), none⟩,
     ⟨some 15, .len (.t 14), none⟩,
     ⟨some 16, .bin .neq (.t 13) (.t 15), none⟩] [])
    (.cond (.t 16) (.seq (.ops 4 false [
       ⟨some 17, .val (.t 0), none⟩,
       ⟨some 4, .val (.t 17), none⟩,
       ⟨some 5, .val (.c (.int .i64 111)), none⟩] [])
      (.ret))
     (.skip)))
   (.seq (.ops 5 false [
     ⟨some 6, .val (.c (.slice none 0 0)), none⟩] [])
    (.seq (.seq (.ops 6 false [
       ⟨some 7, .val (.c (.int .i64 0)), none⟩] [])
      (.block 0 (.loop (.seq (.seq (.ops 7 false [
           ⟨some 18, .val (.t 7), none⟩,
           ⟨some 19, .val (.t 0), none⟩,
           ⟨some 20, .len (.t 19), none⟩,
           ⟨some 21, .bin .lss (.t 18) (.t 20), none⟩] [])
          (.cond (.t 21) (.skip)
           (.exit 0)))
         (.seq (.block 1 (.ops 9 false [
            ⟨some 24, .val (.t 6), none⟩,
            ⟨some 25, .val (.t 0), none⟩,
            ⟨some 26, .val (.t 7), none⟩,
            ⟨some 27, .indexS 27 (.t 25) (.t 26), none⟩,
            ⟨some 28, .loadN 27 (.t 27), none⟩,
            ⟨some 29, .buildS 32 1 [(.int .i64 0), (.int .i64 0), (.int .i64 0), (.int .u8 0), (.int .u8 0), (.int .u8 0), (.int .u8 0), (.int .u8 0), (.int .u8 0), (.int .u8 0), (.int .u8 0), (.int .u8 0), (.int .u8 0), (.int .u8 0), (.int .u8 0), (.int .u8 0), (.int .u8 0), (.int .u8 0), (.int .u8 0), (.int .u8 0), (.int .u8 0), (.int .u8 0), (.int .u8 0), (.int .u64 0), (.int .u64 0), (.int .u64 0), (.int .u64 0)] [(0, 27, (.t 28))], none⟩,
            ⟨some 30, .blt .append #[48, 48] 48 [(.t 24), (.t 29)], none⟩,
            ⟨some 6, .val (.t 30), none⟩] []))
          (.ops 8 false [
           ⟨some 22, .val (.t 7), none⟩,
           ⟨some 23, .bin .add (.t 22) (.c (.int .i64 1)), none⟩,
           ⟨some 7, .val (.t 23), none⟩] []))))))
     (.seq (.ops 10 false [
       ⟨some 31, .val (.t 6), none⟩,
       ⟨some 32, .loadN 27 (.t 3), none⟩,
       ⟨some 33, .buildS 32 1 [(.int .i64 0), (.int .i64 0), (.int .i64 0), (.int .u8 0), (.int .u8 0), (.int .u8 0), (.int .u8 0), (.int .u8 0), (.int .u8 0), (.int .u8 0), (.int .u8 0), (.int .u8 0), (.int .u8 0), (.int .u8 0), (.int .u8 0), (.int .u8 0), (.int .u8 0), (.int .u8 0), (.int .u8 0), (.int .u8 0), (.int .u8 0), (.int .u8 0), (.int .u8 0), (.int .u64 0), (.int .u64 0), (.int .u64 0), (.int .u64 0)] [(0, 27, (.t 32))], none⟩,
       ⟨some 34, .blt .append #[48, 48] 48 [(.t 31), (.t 33)], none⟩,
       ⟨some 4, .val (.t 34), none⟩,
       ⟨some 5, .val (.c (.int .i64 0)), none⟩] [])
      (.ret))))))
def rs51 : List RR := [.tmp 4, .tmp 5]
theorem fun51 : FunR Tryd.prog 51 rc51 rs51 35 := ⟨Tryd.f51, Tryd.func51, by kernel_rfl, by kernel_rfl, by kernel_rfl⟩
/-- causeway/causewayref11.Leaf -/
def rc52 : RC :=
 .seq (.ops 0 false [
  ⟨some 4, .alloc 32 [(.int .i64 0), (.int .i64 0), (.int .i64 0), (.int .u8 0), (.int .u8 0), (.int .u8 0), (.int .u8 0), (.int .u8 0), (.int .u8 0), (.int .u8 0), (.int .u8 0), (.int .u8 0), (.int .u8 0), (.int .u8 0), (.int .u8 0), (.int .u8 0), (.int .u8 0), (.int .u8 0), (.int .u8 0), (.int .u8 0), (.int .u8 0), (.int .u8 0), (.int .u8 0), (.int .u64 0), (.int .u64 0), (.int .u64 0), (.int .u64 0)], none⟩,
  ⟨some 5, .val (.c (.int .i64 0)), none⟩] [])
 (.seq (.seq (.ops 1 false [
    ⟨some 6, .val (.t 1), none⟩,
    ⟨some 7, .bin .lss (.t 6) (.c (.int .i64 0)), none⟩,
    ⟨some 8, .val (.t 7), none⟩,
    ⟨some 9, .val (.t 1), some (8, false)⟩,
    ⟨some 10, .val (.t 0), some (8, false)⟩,
    ⟨some 11, .len (.t 10), some (8, false)⟩,
    ⟨some 12, .bin .geq (.t 9) (.t 11), some (8, false)⟩,
    ⟨some 13, .pick (.t 8) (.c (.bool true)) (.t 12), none⟩] [])
   (.cond (.t 13) (.seq (.ops 2 false [
      ⟨some 14, .build [(.int .i64 0), (.int .i64 0), (.int .i64 0), (.int .u8 0), (.int .u8 0), (.int .u8 0), (.int .u8 0), (.int .u8 0), (.int .u8 0), (.int .u8 0), (.int .u8 0), (.int .u8 0), (.int .u8 0), (.int .u8 0), (.int .u8 0), (.int .u8 0), (.int .u8 0), (.int .u8 0), (.int .u8 0), (.int .u8 0), (.int .u8 0), (.int .u8 0), (.int .u8 0), (.int .u64 0), (.int .u64 0), (.int .u64 0), (.int .u64 0)] [], none⟩,
      ⟨none, .store 27 (.t 4) (.t 14), none⟩,
      ⟨some 5, .val (.c (.int .i64 111)), none⟩] [])
     (.ret))
    (.skip)))
  (.seq (.ops 3 false [
    ⟨some 15, .val (.t 0), none⟩,
    ⟨some 16, .val (.t 1), none⟩,
    ⟨some 17, .indexS 27 (.t 15) (.t 16), none⟩,
    ⟨some 18, .loadN 27 (.t 17), none⟩,
    ⟨none, .store 27 (.t 4) (.t 18), none⟩,
    ⟨some 5, .val (.c (.int .i64 0)), none⟩] [])
   (.ret)))
def rs52 : List RR := [.cell 4 (some 27), .tmp 5]
theorem fun52 : FunR Tryd.prog 52 rc52 rs52 19 := ⟨Tryd.f52, Tryd.func52, by kernel_rfl, by kernel_rfl, by kernel_rfl⟩
/-- causeway/causewayref11.Path -/
def rc53 : RC :=
 .seq (.ops 0 false [
  ⟨some 6, .val (.c (.slice none 0 0)), none⟩,
  ⟨some 7, .val (.c (.int .i64 0)), none⟩] [])
 (.seq (.seq (.ops 1 false [
    ⟨some 8, .val (.t 2), none⟩,
    ⟨some 9, .bin .lss (.t 8) (.c (.int .i64 0)), none⟩,
    ⟨some 10, .val (.t 9), none⟩,
    ⟨some 11, .val (.t 2), some (10, false)⟩,
    ⟨some 12, .val (.t 0), some (10, false)⟩,
    ⟨some 13, .len (.t 12), some (10, false)⟩,
    ⟨some 14, .bin .gtr (.t 11) (.t 13), some (10, false)⟩,
    ⟨some 15, .pick (.t 10) (.c (.bool true)) (.t 14), none⟩] [])
   (.cond (.t 15) (.seq (.ops 2 false [
      ⟨some 6, .val (.c (.slice none 0 0)), none⟩,
      ⟨some 7, .val (.c (.int .i64 112)), none⟩] [])
     (.ret))
    (.skip)))
  (.seq (.seq (.ops 3 false [
     ⟨some 16, .val (.t 1), none⟩,
     ⟨some 17, .bin .lss (.t 16) (.c (.int .i64 0)), none⟩,
     ⟨some 18, .val (.t 17), none⟩,
     ⟨some 19, .val (.t 1), some (18, false)⟩,
     ⟨some 20, .val (.t 2), some (18, false)⟩,
     ⟨some 21, .bin .geq (.t 19) (.t 20), some (18, false)⟩,
     ⟨some 22, .pick (.t 18) (.c (.bool true)) (.t 21), none⟩] [])
    (.cond (.t 22) (.seq (.ops 4 false [
       ⟨some 6, .val (.c (.slice none 0 0)), none⟩,
       ⟨some 7, .val (.c (.int .i64 111)), none⟩] [])
      (.ret))
     (.skip)))
   (.seq (.ops 5 false [
     ⟨some 23, .val (.t 0), none⟩,
     ⟨some 24, .val (.t 2), none⟩,
     ⟨some 25, .call 59 [(.t 23), (.t 24)], none⟩,
     ⟨some 26, .val (.t 1), none⟩,
     ⟨some 27, .call 100 [(.t 25), (.t 26)], none⟩,
     ⟨some 28, .extract 0 (.t 27), none⟩,
     ⟨some 29, .extract 1 (.t 27), none⟩,
     ⟨some 6, .val (.t 28), none⟩,
     ⟨some 7, .val (.t 29), none⟩] [])
    (.ret))))
def rs53 : List RR := [.tmp 6, .tmp 7]
theorem fun53 : FunR Tryd.prog 53 rc53 rs53 30 := ⟨Tryd.f53, Tryd.func53, by kernel_rfl, by kernel_rfl, by kernel_rfl⟩
/-- (*causeway/causewaylaw11.book).keepsPath -/
def rc54 : RC :=
 .seq (.ops 0 false [
  ⟨some 7, .val (.t 0), none⟩,
  ⟨some 8, .val (.t 0), none⟩,
  ⟨some 9, .nilCheck (.t 8), none⟩,
  ⟨some 10, .fieldA 2 (.t 9), none⟩,
  ⟨some 11, .load (.t 10), none⟩,
  ⟨some 12, .val (.t 1), none⟩,
  ⟨some 13, .buildS 33 1 [(.slice none 0 0)] [(0, 1, (.t 12))], none⟩,
  ⟨some 14, .blt .append #[45, 45] 45 [(.t 11), (.t 13)], none⟩,
  ⟨some 15, .nilCheck (.t 7), none⟩,
  ⟨some 16, .fieldA 2 (.t 15), none⟩,
  ⟨none, .store 1 (.t 16) (.t 14), none⟩] [])
 (.seq (.ops 1 false [
   ⟨some 17, .val (.t 2), none⟩,
   ⟨some 18, .len (.t 17), none⟩,
   ⟨some 19, .mkS 33 (.t 18) (.t 18), none⟩,
   ⟨some 6, .val (.t 19), none⟩] [])
  (.seq (.ops 2 false [
    ⟨some 20, .val (.t 6), none⟩,
    ⟨some 21, .val (.t 2), none⟩,
    ⟨some 22, .blt .copy #[33, 33] 3 [(.t 20), (.t 21)], none⟩] [])
   (.ops 3 false [
    ⟨some 23, .val (.t 0), none⟩,
    ⟨some 24, .val (.t 0), none⟩,
    ⟨some 25, .nilCheck (.t 24), none⟩,
    ⟨some 26, .fieldA 3 (.t 25), none⟩,
    ⟨some 27, .load (.t 26), none⟩,
    ⟨some 28, .val (.t 6), none⟩,
    ⟨some 29, .buildS 33 1 [(.slice none 0 0)] [(0, 1, (.t 28))], none⟩,
    ⟨some 30, .blt .append #[45, 45] 45 [(.t 27), (.t 29)], none⟩,
    ⟨some 31, .nilCheck (.t 23), none⟩,
    ⟨some 32, .fieldA 3 (.t 31), none⟩,
    ⟨none, .store 1 (.t 32) (.t 30), none⟩] [])))
def rs54 : List RR := []
theorem fun54 : FunR Tryd.prog 54 rc54 rs54 33 := ⟨Tryd.f54, Tryd.func54, by kernel_rfl, by kernel_rfl, by kernel_rfl⟩
/-- causeway/causewayref11.Cut -/
def rc55 : RC :=
 .seq (.ops 0 false [
  ⟨some 4, .val (.c (.slice none 0 0)), none⟩,
  ⟨some 5, .val (.c (.int .i64 0)), none⟩] [])
 (.seq (.seq (.ops 1 false [
    ⟨some 6, .val (.t 1), none⟩,
    ⟨some 7, .bin .lss (.t 6) (.c (.int .i64 0)), none⟩,
    ⟨some 8, .val (.t 7), none⟩,
    ⟨some 9, .val (.t 1), some (8, false)⟩,
    ⟨some 10, .val (.t 0), some (8, false)⟩,
    ⟨some 11, .len (.t 10), some (8, false)⟩,
    ⟨some 12, .bin .gtr (.t 9) (.t 11), some (8, false)⟩,
    ⟨some 13, .pick (.t 8) (.c (.bool true)) (.t 12), none⟩] [])
   (.cond (.t 13) (.seq (.ops 2 false [
      ⟨some 14, .val (.t 0), none⟩,
      ⟨some 4, .val (.t 14), none⟩,
      ⟨some 5, .val (.c (.int .i64 112)), none⟩] [])
     (.ret))
    (.skip)))
  (.seq (.ops 3 false [
    ⟨some 15, .val (.t 0), none⟩,
    ⟨some 16, .val (.t 1), none⟩,
    ⟨some 17, .slice 27 (.t 15) none (some (.t 16)) none, none⟩,
    ⟨some 4, .val (.t 17), none⟩,
    ⟨some 5, .val (.c (.int .i64 0)), none⟩] [])
   (.ret)))
def rs55 : List RR := [.tmp 4, .tmp 5]
theorem fun55 : FunR Tryd.prog 55 rc55 rs55 18 := ⟨Tryd.f55, Tryd.func55, by kernel_rfl, by kernel_rfl, by kernel_rfl⟩
/-- (*causeway/outbox.Book).sized -/
def rc56 : RC :=
 .seq (.ops 0 false [
  ⟨some 4, .val (.c (.int .i64 0)), none⟩] [])
 (.seq (.seq (.ops 1 false [
    ⟨some 5, .val (.t 1), none⟩,
    ⟨some 6, .bin .lss (.t 5) (.c (.int .i64 0)), none⟩,
    ⟨some 7, .val (.t 6), none⟩,
    ⟨some 8, .val (.t 1), some (7, false)⟩,
    ⟨some 9, .val (.t 0), some (7, false)⟩,
    ⟨some 10, .nilCheck (.t 9), some (7, false)⟩,
    ⟨some 11, .fieldA 0 (.t 10), some (7, false)⟩,
    ⟨some 12, .call 19 [(.t 11)], some (7, false)⟩,
    ⟨some 13, .bin .gtr (.t 8) (.t 12), some (7, false)⟩,
    ⟨some 14, .pick (.t 7) (.c (.bool true)) (.t 13), none⟩] [])
   (.cond (.t 14) (.seq (.ops 2 false [
      ⟨some 4, .val (.c (.int .i64 112)), none⟩] [])
     (.ret))
    (.skip)))
  (.seq (.ops 3 false [
    ⟨some 4, .val (.c (.int .i64 0)), none⟩] [])
   (.ret)))
def rs56 : List RR := [.tmp 4]
theorem fun56 : FunR Tryd.prog 56 rc56 rs56 15 := ⟨Tryd.f56, Tryd.func56, by kernel_rfl, by kernel_rfl, by kernel_rfl⟩
/-- causeway/tree.Root -/
def rc57 : RC :=
 .seq (.ops 0 false [
  ⟨some 2, .alloc 25 (List.replicate 32 (.int .u8 0)), none⟩] [])
 (.seq (.seq (.ops 1 false [
    ⟨some 4, .val (.t 0), none⟩,
    ⟨some 5, .len (.t 4), none⟩] [])
   (.block 0 (.seq (.ops 2 false [
      ⟨some 7, .bin .eql (.t 5) (.c (.int .i64 0)), none⟩,
      ⟨some 6, .val (.t 7), none⟩] [])
     (.cond (.t 6) (.seq (.ops 3 false [
        ⟨some 8, .call 101 [], none⟩,
        ⟨none, .store 32 (.t 2) (.t 8), none⟩] [])
       (.ret))
      (.seq (.ops 4 false [
        ⟨some 10, .bin .eql (.t 5) (.c (.int .i64 1)), none⟩,
        ⟨some 9, .val (.t 10), none⟩] [])
       (.cond (.t 9) (.seq (.ops 5 false [
          ⟨some 11, .val (.t 0), none⟩,
          ⟨some 12, .indexS 1 (.t 11) (.c (.int .i64 0)), none⟩,
          ⟨some 13, .load (.t 12), none⟩,
          ⟨some 14, .call 99 [(.t 13)], none⟩,
          ⟨none, .store 32 (.t 2) (.t 14), none⟩] [])
         (.ret))
        (.skip)))))))
  (.seq (.ops 6 false [
    ⟨some 15, .val (.t 0), none⟩,
    ⟨some 16, .len (.t 15), none⟩,
    ⟨some 17, .call 102 [(.t 16)], none⟩,
    ⟨some 3, .val (.t 17), none⟩] [])
   (.seq (.ops 7 true [
     ⟨some 18, .val (.t 0), none⟩,
     ⟨some 19, .val (.t 3), none⟩,
     ⟨some 20, .slice 1 (.t 18) none (some (.t 19)) none, none⟩,
     ⟨some 21, .call 57 [(.t 20)], none⟩,
     ⟨some 22, .val (.t 0), none⟩,
     ⟨some 23, .val (.t 3), none⟩,
     ⟨some 24, .slice 1 (.t 22) (some (.t 23)) none none, none⟩,
     ⟨some 25, .call 57 [(.t 24)], none⟩,
     ⟨some 26, .call 103 [(.t 21), (.t 25)], none⟩,
     ⟨none, .store 32 (.t 2) (.t 26), none⟩] [([], []), ([], []), ([0, 1], [0, 1]), ([2], [2]), ([], []), ([], []), ([4, 5], [4, 5]), ([6, 3], [6]), ([3, 7, 7], [3, 7]), ([8, 8, 0, 1, 2, 3, 4, 5, 6, 7, 8], [8])])
    (.ret))))
def rs57 : List RR := [.cell 2 (some 32)]
theorem fun57 : FunR Tryd.prog 57 rc57 rs57 27 := ⟨Tryd.f57, Tryd.func57, by kernel_rfl, by kernel_rfl, by kernel_rfl⟩
/-- causeway/causewayref04.Root -/
def rc58 : RC :=
 .seq (.ops 0 false [
  ⟨some 2, .alloc 25 (List.replicate 32 (.int .u8 0)), none⟩] [])
 (.seq (.seq (.ops 1 false [
    ⟨some 6, .val (.t 0), none⟩,
    ⟨some 7, .len (.t 6), none⟩,
    ⟨some 8, .bin .eql (.t 7) (.c (.int .i64 0)), none⟩] [])
   (.cond (.t 8) (.seq (.ops 2 false [
      ⟨some 9, .call 66 [(.c (.slice none 0 0))], none⟩,
      ⟨none, .store 32 (.t 2) (.t 9), none⟩] [])
     (.ret))
    (.skip)))
  (.seq (.seq (.ops 3 false [
     ⟨some 10, .val (.t 0), none⟩,
     ⟨some 11, .len (.t 10), none⟩,
     ⟨some 12, .bin .eql (.t 11) (.c (.int .i64 1)), none⟩] [])
    (.cond (.t 12) (.seq (.ops 4 false [
       ⟨some 13, .val (.t 0), none⟩,
       ⟨some 14, .indexS 1 (.t 13) (.c (.int .i64 0)), none⟩,
       ⟨some 15, .load (.t 14), none⟩,
       ⟨some 16, .call 104 [(.t 15)], none⟩,
       ⟨none, .store 32 (.t 2) (.t 16), none⟩] [])
      (.ret))
     (.skip)))
   (.seq (.ops 5 false [
     ⟨some 17, .val (.t 0), none⟩,
     ⟨some 18, .len (.t 17), none⟩,
     ⟨some 19, .call 105 [(.t 18)], none⟩,
     ⟨some 3, .val (.t 19), none⟩] [])
    (.seq (.ops 6 false [
      ⟨some 20, .val (.t 0), none⟩,
      ⟨some 21, .val (.t 3), none⟩,
      ⟨some 22, .slice 1 (.t 20) none (some (.t 21)) none, none⟩,
      ⟨some 23, .call 58 [(.t 22)], none⟩,
      ⟨some 4, .alloc 25 (List.replicate 32 (.int .u8 0)), none⟩,
      ⟨none, .store 32 (.t 4) (.t 23), none⟩] [])
     (.seq (.ops 7 false [
       ⟨some 24, .val (.t 0), none⟩,
       ⟨some 25, .val (.t 3), none⟩,
       ⟨some 26, .slice 1 (.t 24) (some (.t 25)) none none, none⟩,
       ⟨some 27, .call 58 [(.t 26)], none⟩,
       ⟨some 5, .alloc 25 (List.replicate 32 (.int .u8 0)), none⟩,
       ⟨none, .store 32 (.t 5) (.t 27), none⟩] [])
      (.seq (.ops 8 false [
        ⟨some 28, .loadN 32 (.t 4), none⟩,
        ⟨some 29, .loadN 32 (.t 5), none⟩,
        ⟨some 30, .call 106 [(.t 28), (.t 29)], none⟩,
        ⟨none, .store 32 (.t 2) (.t 30), none⟩] [])
       (.ret)))))))
def rs58 : List RR := [.cell 2 (some 32)]
theorem fun58 : FunR Tryd.prog 58 rc58 rs58 31 := ⟨Tryd.f58, Tryd.func58, by kernel_rfl, by kernel_rfl, by kernel_rfl⟩
/-- causeway/causewayref11.Texts -/
def rc59 : RC :=
 .seq (.ops 0 false [
  ⟨some 4, .val (.c (.slice none 0 0)), none⟩] [])
 (.seq (.ops 1 false [
   ⟨some 5, .val (.c (.slice none 0 0)), none⟩] [])
  (.seq (.seq (.ops 2 false [
     ⟨some 6, .val (.c (.int .i64 0)), none⟩] [])
    (.block 0 (.loop (.seq (.seq (.ops 3 false [
         ⟨some 7, .val (.t 6), none⟩,
         ⟨some 8, .val (.t 1), none⟩,
         ⟨some 9, .bin .lss (.t 7) (.t 8), none⟩] [])
        (.cond (.t 9) (.skip)
         (.exit 0)))
       (.seq (.block 1 (.ops 5 false [
          ⟨some 12, .val (.t 5), none⟩,
          ⟨some 13, .val (.t 0), none⟩,
          ⟨some 14, .val (.t 6), none⟩,
          ⟨some 15, .indexS 27 (.t 13) (.t 14), none⟩,
          ⟨some 16, .loadN 27 (.t 15), none⟩,
          ⟨some 17, .call 30 [(.t 16)], none⟩,
          ⟨some 18, .buildS 79 1 [(.slice none 0 0)] [(0, 1, (.t 17))], none⟩,
          ⟨some 19, .blt .append #[44, 44] 44 [(.t 12), (.t 18)], none⟩,
          ⟨some 5, .val (.t 19), none⟩] []))
        (.ops 4 false [
         ⟨some 10, .val (.t 6), none⟩,
         ⟨some 11, .bin .add (.t 10) (.c (.int .i64 1)), none⟩,
         ⟨some 6, .val (.t 11), none⟩] []))))))
   (.seq (.ops 6 false [
     ⟨some 20, .val (.t 5), none⟩,
     ⟨some 4, .val (.t 20), none⟩] [])
    (.ret))))
def rs59 : List RR := [.tmp 4]
theorem fun59 : FunR Tryd.prog 59 rc59 rs59 21 := ⟨Tryd.f59, Tryd.func59, by kernel_rfl, by kernel_rfl, by kernel_rfl⟩
/-- (*causeway/causewaylaw11.book).stillPaths -/
def rc62 : RC :=
 .seq (.ops 0 false [
  ⟨some 2, .val (.c (.bool false)), none⟩] [])
 (.seq (.seq (.ops 1 false [
    ⟨some 3, .val (.c (.int .i64 0)), none⟩] [])
   (.block 0 (.loop (.seq (.seq (.ops 2 false [
        ⟨some 11, .val (.t 3), none⟩,
        ⟨some 12, .val (.t 0), none⟩,
        ⟨some 13, .nilCheck (.t 12), none⟩,
        ⟨some 14, .fieldA 2 (.t 13), none⟩,
        ⟨some 15, .load (.t 14), none⟩,
        ⟨some 16, .len (.t 15), none⟩,
        ⟨some 17, .bin .lss (.t 11) (.t 16), none⟩] [])
       (.cond (.t 17) (.skip)
        (.exit 0)))
      (.seq (.block 1 (.seq (.ops 4 true [
          ⟨some 20, .val (.t 0), none⟩,
          ⟨some 21, .nilCheck (.t 20), none⟩,
          ⟨some 22, .fieldA 2 (.t 21), none⟩,
          ⟨some 23, .load (.t 22), none⟩,
          ⟨some 24, .val (.t 3), none⟩,
          ⟨some 25, .indexS 1 (.t 23) (.t 24), none⟩,
          ⟨some 26, .load (.t 25), none⟩,
          ⟨some 27, .val (.t 0), none⟩,
          ⟨some 28, .nilCheck (.t 27), none⟩,
          ⟨some 29, .fieldA 3 (.t 28), none⟩,
          ⟨some 30, .load (.t 29), none⟩,
          ⟨some 31, .val (.t 3), none⟩,
          ⟨some 32, .indexS 1 (.t 30) (.t 31), none⟩,
          ⟨some 33, .load (.t 32), none⟩,
          ⟨some 34, .call 14 [(.t 26), (.t 33)], none⟩,
          ⟨some 35, .not (.t 34), none⟩] [([], []), ([0], [0]), ([1], [1]), ([2], [2]), ([], []), ([3, 4], [3, 4]), ([5], [5]), ([], []), ([7], [7]), ([8], [8]), ([9], [9]), ([], []), ([10, 11], [10, 11]), ([12], [12]), ([6, 13], [6, 13]), ([14], [14])])
         (.cond (.t 35) (.seq (.ops 5 false [
            ⟨some 2, .val (.c (.bool false)), none⟩] [])
           (.ret))
          (.skip))))
       (.ops 3 false [
        ⟨some 18, .val (.t 3), none⟩,
        ⟨some 19, .bin .add (.t 18) (.c (.int .i64 1)), none⟩,
        ⟨some 3, .val (.t 19), none⟩] []))))))
  (.seq (.seq (.ops 6 false [
     ⟨some 4, .val (.c (.int .i64 0)), none⟩] [])
    (.block 2 (.loop (.seq (.seq (.ops 7 false [
         ⟨some 36, .val (.t 4), none⟩,
         ⟨some 37, .val (.t 0), none⟩,
         ⟨some 38, .nilCheck (.t 37), none⟩,
         ⟨some 39, .fieldA 2 (.t 38), none⟩,
         ⟨some 40, .load (.t 39), none⟩,
         ⟨some 41, .len (.t 40), none⟩,
         ⟨some 42, .bin .lss (.t 36) (.t 41), none⟩] [])
        (.cond (.t 42) (.skip)
         (.exit 2)))
       (.seq (.block 3 (.seq (.ops 9 false [
           ⟨some 5, .val (.c (.int .i64 0)), none⟩] [])
          (.block 4 (.loop (.seq (.seq (.ops 10 false [
               ⟨some 45, .val (.t 5), none⟩,
               ⟨some 46, .val (.t 0), none⟩,
               ⟨some 47, .nilCheck (.t 46), none⟩,
               ⟨some 48, .fieldA 2 (.t 47), none⟩,
               ⟨some 49, .load (.t 48), none⟩,
               ⟨some 50, .val (.t 4), none⟩,
               ⟨some 51, .indexS 1 (.t 49) (.t 50), none⟩,
               ⟨some 52, .load (.t 51), none⟩,
               ⟨some 53, .len (.t 52), none⟩,
               ⟨some 54, .bin .lss (.t 45) (.t 53), none⟩] [])
              (.cond (.t 54) (.skip)
               (.exit 4)))
             (.seq (.block 5 (.ops 12 true [
                ⟨some 57, .val (.t 0), none⟩,
                ⟨some 58, .nilCheck (.t 57), none⟩,
                ⟨some 59, .fieldA 2 (.t 58), none⟩,
                ⟨some 60, .load (.t 59), none⟩,
                ⟨some 61, .val (.t 4), none⟩,
                ⟨some 62, .indexS 1 (.t 60) (.t 61), none⟩,
                ⟨some 63, .load (.t 62), none⟩,
                ⟨some 64, .val (.t 5), none⟩,
                ⟨some 65, .val (.t 4), none⟩,
                ⟨some 66, .call 107 [(.t 65)], none⟩,
                ⟨some 67, .indexS 32 (.t 63) (.t 64), none⟩,
                ⟨none, .store 32 (.t 67) (.t 66), none⟩] [([], []), ([0], [0]), ([1], [1]), ([2], [2]), ([], []), ([3, 4], [3, 4]), ([5], [5]), ([], []), ([], []), ([8], [8]), ([6, 7, 0, 1, 2, 3, 4, 5, 6, 7, 8, 9], [6, 7]), ([10, 9, 9, 0, 1, 2, 3, 4, 5, 6, 7, 8, 9], [9, 10])]))
              (.ops 11 false [
               ⟨some 55, .val (.t 5), none⟩,
               ⟨some 56, .bin .add (.t 55) (.c (.int .i64 1)), none⟩,
               ⟨some 5, .val (.t 56), none⟩] [])))))))
        (.ops 8 false [
         ⟨some 43, .val (.t 4), none⟩,
         ⟨some 44, .bin .add (.t 43) (.c (.int .i64 1)), none⟩,
         ⟨some 4, .val (.t 44), none⟩] []))))))
   (.seq (.ops 13 false [
     ⟨some 6, .val (.c (.slice none 0 0)), none⟩] [])
    (.seq (.seq (.ops 14 false [
       ⟨some 7, .val (.c (.int .i64 0)), none⟩] [])
      (.block 6 (.loop (.seq (.seq (.ops 15 false [
           ⟨some 68, .val (.t 7), none⟩,
           ⟨some 69, .val (.t 0), none⟩,
           ⟨some 70, .nilCheck (.t 69), none⟩,
           ⟨some 71, .fieldA 2 (.t 70), none⟩,
           ⟨some 72, .load (.t 71), none⟩,
           ⟨some 73, .len (.t 72), none⟩,
           ⟨some 74, .bin .lss (.t 68) (.t 73), none⟩] [])
          (.cond (.t 74) (.skip)
           (.exit 6)))
         (.seq (.block 7 (.seq (.ops 17 false [
             ⟨some 77, .val (.t 0), none⟩,
             ⟨some 78, .nilCheck (.t 77), none⟩,
             ⟨some 79, .fieldA 2 (.t 78), none⟩,
             ⟨some 80, .load (.t 79), none⟩,
             ⟨some 81, .val (.t 7), none⟩,
             ⟨some 82, .indexS 1 (.t 80) (.t 81), none⟩,
             ⟨some 83, .load (.t 82), none⟩,
             ⟨some 8, .val (.t 83), none⟩] [])
            (.seq (.seq (.ops 18 false [
               ⟨some 9, .val (.c (.int .i64 0)), none⟩] [])
              (.block 8 (.loop (.seq (.seq (.ops 19 false [
                   ⟨some 84, .val (.t 9), none⟩,
                   ⟨some 85, .bin .lss (.t 84) (.c (.int .i64 9)), none⟩] [])
                  (.cond (.t 85) (.skip)
                   (.exit 8)))
                 (.seq (.block 9 (.ops 21 false [
                    ⟨some 88, .val (.t 8), none⟩,
                    ⟨some 89, .val (.t 7), none⟩,
                    ⟨some 90, .call 107 [(.t 89)], none⟩,
                    ⟨some 91, .buildS 25 1 (List.replicate 32 (.int .u8 0)) [(0, 32, (.t 90))], none⟩,
                    ⟨some 92, .blt .append #[33, 33] 33 [(.t 88), (.t 91)], none⟩,
                    ⟨some 8, .val (.t 92), none⟩] []))
                  (.ops 20 false [
                   ⟨some 86, .val (.t 9), none⟩,
                   ⟨some 87, .bin .add (.t 86) (.c (.int .i64 1)), none⟩,
                   ⟨some 9, .val (.t 87), none⟩] []))))))
             (.ops 22 false [
              ⟨some 93, .val (.t 6), none⟩,
              ⟨some 94, .val (.t 8), none⟩,
              ⟨some 95, .buildS 33 1 [(.slice none 0 0)] [(0, 1, (.t 94))], none⟩,
              ⟨some 96, .blt .append #[45, 45] 45 [(.t 93), (.t 95)], none⟩,
              ⟨some 6, .val (.t 96), none⟩] []))))
          (.ops 16 false [
           ⟨some 75, .val (.t 7), none⟩,
           ⟨some 76, .bin .add (.t 75) (.c (.int .i64 1)), none⟩,
           ⟨some 7, .val (.t 76), none⟩] []))))))
     (.seq (.seq (.ops 23 false [
        ⟨some 10, .val (.c (.int .i64 0)), none⟩] [])
       (.block 10 (.loop (.seq (.seq (.ops 24 false [
            ⟨some 97, .val (.t 10), none⟩,
            ⟨some 98, .val (.t 0), none⟩,
            ⟨some 99, .nilCheck (.t 98), none⟩,
            ⟨some 100, .fieldA 2 (.t 99), none⟩,
            ⟨some 101, .load (.t 100), none⟩,
            ⟨some 102, .len (.t 101), none⟩,
            ⟨some 103, .bin .lss (.t 97) (.t 102), none⟩] [])
           (.cond (.t 103) (.skip)
            (.exit 10)))
          (.seq (.block 11 (.seq (.ops 26 true [
              ⟨some 106, .val (.t 0), none⟩,
              ⟨some 107, .nilCheck (.t 106), none⟩,
              ⟨some 108, .fieldA 2 (.t 107), none⟩,
              ⟨some 109, .load (.t 108), none⟩,
              ⟨some 110, .val (.t 10), none⟩,
              ⟨some 111, .indexS 1 (.t 109) (.t 110), none⟩,
              ⟨some 112, .load (.t 111), none⟩,
              ⟨some 113, .val (.t 10), none⟩,
              ⟨some 114, .call 107 [(.t 113)], none⟩,
              ⟨some 115, .call 108 [(.t 112), (.t 114)], none⟩,
              ⟨some 116, .not (.t 115), none⟩,
              ⟨some 117, .val (.t 116), none⟩,
              ⟨some 118, .val (.t 6), some (117, false)⟩,
              ⟨some 119, .val (.t 10), some (117, false)⟩,
              ⟨some 120, .indexS 1 (.t 118) (.t 119), some (117, false)⟩,
              ⟨some 121, .load (.t 120), some (117, false)⟩,
              ⟨some 122, .val (.t 10), some (117, false)⟩,
              ⟨some 123, .call 107 [(.t 122)], some (117, false)⟩,
              ⟨some 124, .call 108 [(.t 121), (.t 123)], some (117, false)⟩,
              ⟨some 125, .not (.t 124), some (117, false)⟩,
              ⟨some 126, .pick (.t 117) (.c (.bool true)) (.t 125), none⟩] [([], []), ([0], [0]), ([1], [1]), ([2], [2]), ([], []), ([3, 4], [3, 4]), ([5], [5]), ([], []), ([7], [7]), ([6, 8, 8], [6, 8]), ([9], [9]), ([10, 9], [10]), ([11], [11]), ([11], [11]), ([12, 13, 11], [11, 12, 13]), ([14, 11], [11, 14]), ([11], [11]), ([16, 11, 11], [11, 16]), ([15, 17, 17, 11], [11, 15, 17]), ([18, 11], [11, 18]), ([11, 19], [11, 19])])
             (.cond (.t 126) (.seq (.ops 27 false [
                ⟨some 2, .val (.c (.bool false)), none⟩] [])
               (.ret))
              (.skip))))
           (.ops 25 false [
            ⟨some 104, .val (.t 10), none⟩,
            ⟨some 105, .bin .add (.t 104) (.c (.int .i64 1)), none⟩,
            ⟨some 10, .val (.t 105), none⟩] []))))))
      (.seq (.ops 28 false [
        ⟨some 2, .val (.c (.bool true)), none⟩] [])
       (.ret)))))))
def rs62 : List RR := [.tmp 2]
theorem fun62 : FunR Tryd.prog 62 rc62 rs62 127 := ⟨Tryd.f62, Tryd.func62, by kernel_rfl, by kernel_rfl, by kernel_rfl⟩
/-- causeway/tree.Path -/
def rc63 : RC :=
 .seq (.ops 0 false [
  ⟨some 4, .val (.c (.slice none 0 0)), none⟩,
  ⟨some 5, .val (.c (.int .i64 0)), none⟩] [])
 (.seq (.seq (.ops 1 false [
    ⟨some 6, .val (.t 1), none⟩,
    ⟨some 7, .bin .lss (.t 6) (.c (.int .i64 0)), none⟩,
    ⟨some 8, .val (.t 7), none⟩,
    ⟨some 9, .val (.t 1), some (8, false)⟩,
    ⟨some 10, .val (.t 0), some (8, false)⟩,
    ⟨some 11, .len (.t 10), some (8, false)⟩,
    ⟨some 12, .bin .geq (.t 9) (.t 11), some (8, false)⟩,
    ⟨some 13, .pick (.t 8) (.c (.bool true)) (.t 12), none⟩] [])
   (.cond (.t 13) (.seq (.ops 2 false [
      ⟨some 4, .val (.c (.slice none 0 0)), none⟩,
      ⟨some 5, .val (.c (.int .i64 41)), none⟩] [])
     (.ret))
    (.skip)))
  (.seq (.ops 3 false [
    ⟨some 14, .val (.t 0), none⟩,
    ⟨some 15, .val (.t 1), none⟩,
    ⟨some 16, .call 109 [(.t 14), (.t 15)], none⟩,
    ⟨some 4, .val (.t 16), none⟩,
    ⟨some 5, .val (.c (.int .i64 0)), none⟩] [])
   (.ret)))
def rs63 : List RR := [.tmp 4, .tmp 5]
theorem fun63 : FunR Tryd.prog 63 rc63 rs63 17 := ⟨Tryd.f63, Tryd.func63, by kernel_rfl, by kernel_rfl, by kernel_rfl⟩
/-- causeway/causewayref04.LeafText -/
def rc64 : RC :=
 .seq (.ops 0 false [
  ⟨some 2, .val (.c (.slice none 0 0)), none⟩] [])
 (.seq (.ops 1 false [
   ⟨some 4, .buildS 5 1 [(.int .u8 0)] [(0, 1, (.c (.int .u8 0)))], none⟩,
   ⟨some 3, .val (.t 4), none⟩] [])
  (.seq (.ops 2 false [
    ⟨some 5, .val (.t 3), none⟩,
    ⟨some 6, .val (.t 0), none⟩,
    ⟨some 7, .blt .append #[79, 79] 79 [(.t 5), (.t 6)], none⟩,
    ⟨some 2, .val (.t 7), none⟩] [])
   (.ret)))
def rs64 : List RR := [.tmp 2]
theorem fun64 : FunR Tryd.prog 64 rc64 rs64 8 := ⟨Tryd.f64, Tryd.func64, by kernel_rfl, by kernel_rfl, by kernel_rfl⟩
/-- causeway/causewayref04.Sides -/
def rc65 : RC :=
 .seq (.ops 0 false [
  ⟨some 4, .val (.c (.slice none 0 0)), none⟩] [])
 (.seq (.seq (.ops 1 false [
    ⟨some 8, .val (.t 0), none⟩,
    ⟨some 9, .bin .eql (.t 8) (.c (.int .i64 1)), none⟩] [])
   (.cond (.t 9) (.seq (.ops 2 false [
      ⟨some 4, .val (.c (.slice none 0 0)), none⟩] [])
     (.ret))
    (.skip)))
  (.seq (.ops 3 false [
    ⟨some 10, .val (.t 0), none⟩,
    ⟨some 11, .call 105 [(.t 10)], none⟩,
    ⟨some 5, .val (.t 11), none⟩] [])
   (.seq (.seq (.ops 4 false [
      ⟨some 12, .val (.t 1), none⟩,
      ⟨some 13, .val (.t 5), none⟩,
      ⟨some 14, .bin .lss (.t 12) (.t 13), none⟩] [])
     (.cond (.t 14) (.seq (.ops 5 false [
        ⟨some 15, .val (.t 5), none⟩,
        ⟨some 16, .val (.t 1), none⟩,
        ⟨some 17, .call 65 [(.t 15), (.t 16)], none⟩,
        ⟨some 6, .val (.t 17), none⟩] [])
       (.seq (.ops 6 false [
         ⟨some 18, .val (.t 6), none⟩,
         ⟨some 19, .buildS 4 1 [(.bool false)] [(0, 1, (.c (.bool true)))], none⟩,
         ⟨some 20, .blt .append #[121, 121] 121 [(.t 18), (.t 19)], none⟩,
         ⟨some 4, .val (.t 20), none⟩] [])
        (.ret)))
      (.skip)))
    (.seq (.ops 7 false [
      ⟨some 21, .val (.t 0), none⟩,
      ⟨some 22, .val (.t 5), none⟩,
      ⟨some 23, .bin .sub (.t 21) (.t 22), none⟩,
      ⟨some 24, .val (.t 1), none⟩,
      ⟨some 25, .val (.t 5), none⟩,
      ⟨some 26, .bin .sub (.t 24) (.t 25), none⟩,
      ⟨some 27, .call 65 [(.t 23), (.t 26)], none⟩,
      ⟨some 7, .val (.t 27), none⟩] [])
     (.seq (.ops 8 false [
       ⟨some 28, .val (.t 7), none⟩,
       ⟨some 29, .buildS 4 1 [(.bool false)] [(0, 1, (.c (.bool false)))], none⟩,
       ⟨some 30, .blt .append #[121, 121] 121 [(.t 28), (.t 29)], none⟩,
       ⟨some 4, .val (.t 30), none⟩] [])
      (.ret))))))
def rs65 : List RR := [.tmp 4]
theorem fun65 : FunR Tryd.prog 65 rc65 rs65 31 := ⟨Tryd.f65, Tryd.func65, by kernel_rfl, by kernel_rfl, by kernel_rfl⟩
/-- causeway/causewayref01.Sum -/
def rc66 : RC :=
 .seq (.ops 0 false [
  ⟨some 2, .alloc 25 (List.replicate 32 (.int .u8 0)), none⟩] [])
 (.seq (.ops 1 false [
   ⟨some 3, .val (.t 0), none⟩,
   ⟨some 4, .val (.t 0), none⟩,
   ⟨some 5, .len (.t 4), none⟩,
   ⟨some 6, .bin .mul (.c (.int .i64 8)) (.t 5), none⟩,
   ⟨some 7, .call 110 [(.t 3), (.t 6)], none⟩,
   ⟨none, .store 32 (.t 2) (.t 7), none⟩] [])
  (.ret))
def rs66 : List RR := [.cell 2 (some 32)]
theorem fun66 : FunR Tryd.prog 66 rc66 rs66 8 := ⟨Tryd.f66, Tryd.func66, by kernel_rfl, by kernel_rfl, by kernel_rfl⟩
/-- causeway/causewayref04.NodeText -/
def rc67 : RC :=
 .seq (.ops 0 false [
  ⟨some 2, .box 25 (.t 0), none⟩,
  ⟨some 3, .box 25 (.t 1), none⟩,
  ⟨some 4, .val (.c (.slice none 0 0)), none⟩] [])
 (.seq (.ops 1 false [
   ⟨some 6, .buildS 5 1 [(.int .u8 0)] [(0, 1, (.c (.int .u8 1)))], none⟩,
   ⟨some 5, .val (.t 6), none⟩] [])
  (.seq (.ops 2 false [
    ⟨some 7, .val (.t 5), none⟩,
    ⟨some 8, .sliceA 32 1 (.t 2) none none, none⟩,
    ⟨some 9, .blt .append #[79, 79] 79 [(.t 7), (.t 8)], none⟩,
    ⟨some 5, .val (.t 9), none⟩] [])
   (.seq (.ops 3 false [
     ⟨some 10, .val (.t 5), none⟩,
     ⟨some 11, .sliceA 32 1 (.t 3) none none, none⟩,
     ⟨some 12, .blt .append #[79, 79] 79 [(.t 10), (.t 11)], none⟩,
     ⟨some 4, .val (.t 12), none⟩] [])
    (.ret))))
def rs67 : List RR := [.tmp 4]
theorem fun67 : FunR Tryd.prog 67 rc67 rs67 13 := ⟨Tryd.f67, Tryd.func67, by kernel_rfl, by kernel_rfl, by kernel_rfl⟩
/-- (*causeway/causewayref03.Writer).Byte -/
def rc68 : RC :=
 .ops 0 false [
 ⟨some 4, .val (.t 0), none⟩,
 ⟨some 5, .val (.t 1), none⟩,
 ⟨some 6, .buildS 5 1 [(.int .u8 0)] [(0, 1, (.t 5))], none⟩,
 ⟨some 7, .call 111 [(.t 4), (.t 6)], none⟩] []
def rs68 : List RR := []
theorem fun68 : FunR Tryd.prog 68 rc68 rs68 8 := ⟨Tryd.f68, Tryd.func68, by kernel_rfl, by kernel_rfl, by kernel_rfl⟩
/-- (*causeway/causewayref03.Writer).Number -/
def rc69 : RC :=
 .seq (.seq (.ops 0 false [
   ⟨some 4, .val (.t 0), none⟩,
   ⟨some 5, .nilCheck (.t 4), none⟩,
   ⟨some 6, .fieldA 1 (.t 5), none⟩,
   ⟨some 7, .load (.t 6), none⟩,
   ⟨some 8, .bin .neq (.t 7) (.c (.int .i64 0)), none⟩] [])
  (.cond (.t 8) (.ret)
   (.skip)))
 (.seq (.seq (.ops 1 false [
    ⟨some 9, .val (.t 1), none⟩,
    ⟨some 10, .bin .lss (.t 9) (.c (.int .i64 0)), none⟩] [])
   (.cond (.t 10) (.seq (.ops 2 false [
      ⟨some 11, .val (.t 0), none⟩,
      ⟨some 12, .nilCheck (.t 11), none⟩,
      ⟨some 13, .fieldA 1 (.t 12), none⟩,
      ⟨none, .store 1 (.t 13) (.c (.int .i64 32)), none⟩] [])
     (.ret))
    (.skip)))
  (.ops 3 false [
   ⟨some 14, .val (.t 0), none⟩,
   ⟨some 15, .val (.t 1), none⟩,
   ⟨some 16, .call 112 [(.t 15)], none⟩,
   ⟨some 17, .call 111 [(.t 14), (.t 16)], none⟩] []))
def rs69 : List RR := []
theorem fun69 : FunR Tryd.prog 69 rc69 rs69 18 := ⟨Tryd.f69, Tryd.func69, by kernel_rfl, by kernel_rfl, by kernel_rfl⟩
/-- (*causeway/causewayref03.Writer).Address -/
def rc70 : RC :=
 .seq (.ops 0 false [
  ⟨some 3, .box 27 (.t 1), none⟩] [])
 (.ops 1 false [
  ⟨some 4, .val (.t 0), none⟩,
  ⟨some 5, .sliceA 20 1 (.t 3) none none, none⟩,
  ⟨some 6, .call 111 [(.t 4), (.t 5)], none⟩] [])
def rs70 : List RR := []
theorem fun70 : FunR Tryd.prog 70 rc70 rs70 7 := ⟨Tryd.f70, Tryd.func70, by kernel_rfl, by kernel_rfl, by kernel_rfl⟩
/-- (*causeway/causewayref03.Writer).Wide -/
def rc71 : RC :=
 .seq (.ops 0 false [
  ⟨some 3, .box 30 (.t 1), none⟩] [])
 (.ops 1 false [
  ⟨some 4, .val (.t 0), none⟩,
  ⟨some 5, .loadN 4 (.t 3), none⟩,
  ⟨some 6, .call 113 [(.t 5)], none⟩,
  ⟨some 7, .call 111 [(.t 4), (.t 6)], none⟩] [])
def rs71 : List RR := []
theorem fun71 : FunR Tryd.prog 71 rc71 rs71 8 := ⟨Tryd.f71, Tryd.func71, by kernel_rfl, by kernel_rfl, by kernel_rfl⟩
/-- slices.Clone[[]byte,byte] -/
def rc77 : RC :=
 .seq (.ops 0 false [
  ⟨some 2, .val (.c (.slice none 0 0)), none⟩] [])
 (.seq (.seq (.ops 1 false [
    ⟨some 3, .val (.t 0), none⟩,
    ⟨some 4, .eqp .slc false (.t 3) (.c (.slice none 0 0)), none⟩] [])
   (.cond (.t 4) (.seq (.ops 2 false [
      ⟨some 2, .val (.c (.slice none 0 0)), none⟩] [])
     (.ret))
    (.skip)))
  (.seq (.ops 3 false [
    ⟨some 5, .buildS 5 0 [] [], none⟩,
    ⟨some 6, .val (.t 0), none⟩,
    ⟨some 7, .blt .append #[79, 79] 79 [(.t 5), (.t 6)], none⟩,
    ⟨some 2, .val (.t 7), none⟩] [])
   (.ret)))
def rs77 : List RR := [.tmp 2]
theorem fun77 : FunR Tryd.prog 77 rc77 rs77 8 := ⟨Tryd.f77, Tryd.func77, by kernel_rfl, by kernel_rfl, by kernel_rfl⟩
/-- causeway/outbox.may -/
def rc78 : RC :=
 .seq (.ops 0 false [
  ⟨some 1, .box 32 (.t 0), none⟩,
  ⟨some 2, .val (.c (.bool false)), none⟩] [])
 (.seq (.ops 1 false [
   ⟨some 3, .fieldA 0 (.t 1), none⟩,
   ⟨some 4, .load (.t 3), none⟩,
   ⟨some 5, .call 116 [(.t 4)], none⟩,
   ⟨some 6, .val (.t 5), none⟩,
   ⟨some 7, .fieldA 1 (.t 1), some (6, true)⟩,
   ⟨some 8, .load (.t 7), some (6, true)⟩,
   ⟨some 9, .call 116 [(.t 8)], some (6, true)⟩,
   ⟨some 10, .pick (.t 6) (.t 9) (.c (.bool false)), none⟩,
   ⟨some 11, .val (.t 10), none⟩,
   ⟨some 12, .fieldA 2 (.t 1), some (11, true)⟩,
   ⟨some 13, .load (.t 12), some (11, true)⟩,
   ⟨some 14, .bin .geq (.t 13) (.c (.int .i64 0)), some (11, true)⟩,
   ⟨some 15, .pick (.t 11) (.t 14) (.c (.bool false)), none⟩,
   ⟨some 16, .val (.t 15), none⟩,
   ⟨some 17, .fieldA 2 (.t 1), some (16, true)⟩,
   ⟨some 18, .load (.t 17), some (16, true)⟩,
   ⟨some 19, .bin .lss (.t 18) (.c (.int .i64 64)), some (16, true)⟩,
   ⟨some 20, .pick (.t 16) (.t 19) (.c (.bool false)), none⟩,
   ⟨some 21, .val (.t 20), none⟩,
   ⟨some 22, .fieldA 23 (.t 1), some (21, true)⟩,
   ⟨some 23, .loadN 4 (.t 22), some (21, true)⟩,
   ⟨some 24, .call 117 [(.t 23)], some (21, true)⟩,
   ⟨some 25, .not (.t 24), some (21, true)⟩,
   ⟨some 26, .pick (.t 21) (.t 25) (.c (.bool false)), none⟩,
   ⟨some 2, .val (.t 26), none⟩] [])
  (.ret))
def rs78 : List RR := [.tmp 2]
theorem fun78 : FunR Tryd.prog 78 rc78 rs78 27 := ⟨Tryd.f78, Tryd.func78, by kernel_rfl, by kernel_rfl, by kernel_rfl⟩
/-- causeway/wire.NewWriter -/
def rc92 : RC :=
 .seq (.ops 0 false [
  ⟨some 0, .val (.c (.pointer none)), none⟩] [])
 (.seq (.ops 1 false [
   ⟨some 1, .build [(.slice none 0 0), (.int .i64 0)] [], none⟩,
   ⟨some 2, .box 209 (.t 1), none⟩,
   ⟨some 0, .val (.t 2), none⟩] [])
  (.ret))
def rs92 : List RR := [.tmp 0]
theorem fun92 : FunR Tryd.prog 92 rc92 rs92 3 := ⟨Tryd.f92, Tryd.func92, by kernel_rfl, by kernel_rfl, by kernel_rfl⟩
/-- (*causeway/wire.Writer).Byte -/
def rc93 : RC :=
 .ops 0 false [
 ⟨some 4, .val (.t 0), none⟩,
 ⟨some 5, .val (.t 1), none⟩,
 ⟨some 6, .buildS 5 1 [(.int .u8 0)] [(0, 1, (.t 5))], none⟩,
 ⟨some 7, .buildS 79 1 [(.slice none 0 0)] [(0, 1, (.t 6))], none⟩,
 ⟨some 8, .call 131 [(.t 4), (.t 7)], none⟩] []
def rs93 : List RR := []
theorem fun93 : FunR Tryd.prog 93 rc93 rs93 9 := ⟨Tryd.f93, Tryd.func93, by kernel_rfl, by kernel_rfl, by kernel_rfl⟩
/-- (*causeway/wire.Writer).Number -/
def rc94 : RC :=
 .seq (.seq (.ops 0 false [
   ⟨some 4, .val (.t 1), none⟩,
   ⟨some 5, .bin .lss (.t 4) (.c (.int .i64 0)), none⟩] [])
  (.cond (.t 5) (.seq (.seq (.ops 1 false [
      ⟨some 6, .val (.t 0), none⟩,
      ⟨some 7, .nilCheck (.t 6), none⟩,
      ⟨some 8, .fieldA 1 (.t 7), none⟩,
      ⟨some 9, .load (.t 8), none⟩,
      ⟨some 10, .bin .eql (.t 9) (.c (.int .i64 0)), none⟩] [])
     (.cond (.t 10) (.ops 2 false [
       ⟨some 11, .val (.t 0), none⟩,
       ⟨some 12, .nilCheck (.t 11), none⟩,
       ⟨some 13, .fieldA 1 (.t 12), none⟩,
       ⟨none, .store 1 (.t 13) (.c (.int .i64 32)), none⟩] [])
      (.skip)))
    (.ret))
   (.skip)))
 (.ops 3 false [
  ⟨some 14, .val (.t 0), none⟩,
  ⟨some 15, .val (.t 1), none⟩,
  ⟨some 16, .call 132 [(.t 15)], none⟩,
  ⟨some 17, .buildS 79 1 [(.slice none 0 0)] [(0, 1, (.t 16))], none⟩,
  ⟨some 18, .call 131 [(.t 14), (.t 17)], none⟩] [])
def rs94 : List RR := []
theorem fun94 : FunR Tryd.prog 94 rc94 rs94 19 := ⟨Tryd.f94, Tryd.func94, by kernel_rfl, by kernel_rfl, by kernel_rfl⟩
/-- (*causeway/wire.Writer).Address -/
def rc95 : RC :=
 .seq (.ops 0 false [
  ⟨some 3, .box 27 (.t 1), none⟩] [])
 (.ops 1 false [
  ⟨some 4, .val (.t 0), none⟩,
  ⟨some 5, .sliceA 20 1 (.t 3) none none, none⟩,
  ⟨some 6, .buildS 79 1 [(.slice none 0 0)] [(0, 1, (.t 5))], none⟩,
  ⟨some 7, .call 131 [(.t 4), (.t 6)], none⟩] [])
def rs95 : List RR := []
theorem fun95 : FunR Tryd.prog 95 rc95 rs95 8 := ⟨Tryd.f95, Tryd.func95, by kernel_rfl, by kernel_rfl, by kernel_rfl⟩
/-- (*causeway/wire.Writer).Wide -/
def rc96 : RC :=
 .seq (.ops 0 false [
  ⟨some 3, .box 30 (.t 1), none⟩] [])
 (.seq (.ops 1 false [
   ⟨some 4, .alloc 24 (List.replicate 32 (.int .u8 0)), none⟩] [])
  (.seq (.seq (.ops 2 false [
     ⟨some 6, .val (.c (.int .i64 0)), none⟩] [])
    (.block 0 (.loop (.seq (.ops 3 false [
        ⟨some 7, .bin .lss (.t 6) (.c (.int .i64 32)), none⟩] [])
       (.seq (.cond (.t 7) (.skip)
         (.exit 0))
        (.seq (.block 1 (.seq (.ops 4 false [
            ⟨some 8, .val (.t 6), none⟩,
            ⟨some 5, .val (.t 8), none⟩] [])
           (.ops 5 false [
            ⟨some 9, .val (.t 5), none⟩,
            ⟨some 10, .val (.t 5), none⟩,
            ⟨some 11, .bin .quo (.t 10) (.c (.int .i64 8)), none⟩,
            ⟨some 12, .bin .sub (.c (.int .i64 3)) (.t 11), none⟩,
            ⟨some 13, .indexA 4 1 (.t 3) (.t 12), none⟩,
            ⟨some 14, .load (.t 13), none⟩,
            ⟨some 15, .val (.t 5), none⟩,
            ⟨some 16, .bin .rem (.t 15) (.c (.int .i64 8)), none⟩,
            ⟨some 17, .bin .mul (.c (.int .i64 8)) (.t 16), none⟩,
            ⟨some 18, .bin .sub (.c (.int .i64 56)) (.t 17), none⟩,
            ⟨some 19, .bin .shr (.t 14) (.t 18), none⟩,
            ⟨some 20, .conv .u8 (.t 19), none⟩,
            ⟨some 21, .indexA 32 1 (.t 4) (.t 9), none⟩,
            ⟨none, .store 1 (.t 21) (.t 20), none⟩] [])))
         (.ops 6 false [
          ⟨some 22, .bin .add (.t 6) (.c (.int .i64 1)), none⟩,
          ⟨some 6, .val (.t 22), none⟩] [])))))))
   (.ops 7 false [
    ⟨some 23, .val (.t 0), none⟩,
    ⟨some 24, .sliceA 32 1 (.t 4) none none, none⟩,
    ⟨some 25, .call 133 [(.t 24)], none⟩,
    ⟨some 26, .buildS 79 1 [(.slice none 0 0)] [(0, 1, (.t 25))], none⟩,
    ⟨some 27, .call 131 [(.t 23), (.t 26)], none⟩] [])))
def rs96 : List RR := []
theorem fun96 : FunR Tryd.prog 96 rc96 rs96 28 := ⟨Tryd.f96, Tryd.func96, by kernel_rfl, by kernel_rfl, by kernel_rfl⟩
/-- (*causeway/wire.Writer).Done -/
def rc97 : RC :=
 .seq (.ops 0 false [
  ⟨some 2, .val (.c (.slice none 0 0)), none⟩,
  ⟨some 3, .val (.c (.int .i64 0)), none⟩] [])
 (.seq (.seq (.ops 1 false [
    ⟨some 4, .val (.t 0), none⟩,
    ⟨some 5, .nilCheck (.t 4), none⟩,
    ⟨some 6, .fieldA 1 (.t 5), none⟩,
    ⟨some 7, .load (.t 6), none⟩,
    ⟨some 8, .bin .neq (.t 7) (.c (.int .i64 0)), none⟩] [])
   (.cond (.t 8) (.seq (.ops 2 true [
      ⟨some 9, .val (.t 0), none⟩,
      ⟨some 10, .nilCheck (.t 9), none⟩,
      ⟨some 11, .fieldA 1 (.t 10), none⟩,
      ⟨some 12, .load (.t 11), none⟩,
      ⟨some 2, .val (.c (.slice none 0 0)), none⟩,
      ⟨some 3, .val (.t 12), none⟩] [([], []), ([0], [0]), ([1], [1]), ([2], [2]), ([], []), ([3, 4, 0, 1, 2, 3, 4], [3])])
     (.ret))
    (.skip)))
  (.seq (.ops 3 false [
    ⟨some 13, .val (.t 0), none⟩,
    ⟨some 14, .nilCheck (.t 13), none⟩,
    ⟨some 15, .fieldA 0 (.t 14), none⟩,
    ⟨some 16, .load (.t 15), none⟩,
    ⟨some 17, .call 77 [(.t 16)], none⟩,
    ⟨some 2, .val (.t 17), none⟩,
    ⟨some 3, .val (.c (.int .i64 0)), none⟩] [])
   (.ret)))
def rs97 : List RR := [.tmp 2, .tmp 3]
theorem fun97 : FunR Tryd.prog 97 rc97 rs97 18 := ⟨Tryd.f97, Tryd.func97, by kernel_rfl, by kernel_rfl, by kernel_rfl⟩
/-- causeway/tree.shown -/
def rc98 : RC :=
 .seq (.ops 0 false [
  ⟨some 6, .box 25 (.t 2), none⟩,
  ⟨some 8, .alloc 25 (List.replicate 32 (.int .u8 0)), none⟩,
  ⟨some 9, .val (.c (.bool false)), none⟩] [])
 (.seq (.seq (.ops 1 false [
    ⟨some 18, .val (.t 0), none⟩,
    ⟨some 19, .bin .eql (.t 18) (.c (.int .i64 1)), none⟩] [])
   (.cond (.t 19) (.seq (.ops 2 false [
      ⟨some 20, .loadN 32 (.t 6), none⟩,
      ⟨some 21, .val (.t 3), none⟩,
      ⟨some 22, .len (.t 21), none⟩,
      ⟨some 23, .bin .eql (.t 22) (.c (.int .i64 0)), none⟩,
      ⟨none, .store 32 (.t 8) (.t 20), none⟩,
      ⟨some 9, .val (.t 23), none⟩] [])
     (.ret))
    (.skip)))
  (.seq (.ops 3 false [
    ⟨some 25, .val (.t 3), none⟩,
    ⟨some 26, .call 134 [(.t 25)], none⟩,
    ⟨some 24, .val (.t 26), none⟩,
    ⟨some 27, .extract 0 (.t 24), none⟩,
    ⟨some 28, .extract 1 (.t 24), none⟩,
    ⟨some 29, .extract 2 (.t 24), none⟩,
    ⟨some 11, .alloc 25 (List.replicate 32 (.int .u8 0)), none⟩,
    ⟨some 10, .val (.t 27), none⟩,
    ⟨none, .store 32 (.t 11) (.t 28), none⟩,
    ⟨some 12, .val (.t 29), none⟩] [])
   (.seq (.seq (.ops 4 false [
      ⟨some 30, .val (.t 12), none⟩,
      ⟨some 31, .not (.t 30), none⟩] [])
     (.cond (.t 31) (.seq (.ops 5 false [
        ⟨some 32, .loadN 32 (.t 11), none⟩,
        ⟨none, .store 32 (.t 8) (.t 32), none⟩,
        ⟨some 9, .val (.c (.bool false)), none⟩] [])
       (.ret))
      (.skip)))
    (.seq (.ops 6 false [
      ⟨some 33, .val (.t 0), none⟩,
      ⟨some 34, .call 102 [(.t 33)], none⟩,
      ⟨some 13, .val (.t 34), none⟩] [])
     (.seq (.seq (.ops 7 false [
        ⟨some 35, .val (.t 1), none⟩,
        ⟨some 36, .val (.t 13), none⟩,
        ⟨some 37, .bin .lss (.t 35) (.t 36), none⟩] [])
       (.cond (.t 37) (.seq (.ops 8 false [
          ⟨some 39, .val (.t 13), none⟩,
          ⟨some 40, .val (.t 1), none⟩,
          ⟨some 41, .loadN 32 (.t 6), none⟩,
          ⟨some 42, .val (.t 10), none⟩,
          ⟨some 43, .call 98 [(.t 39), (.t 40), (.t 41), (.t 42)], none⟩,
          ⟨some 38, .val (.t 43), none⟩,
          ⟨some 44, .extract 0 (.t 38), none⟩,
          ⟨some 45, .extract 1 (.t 38), none⟩,
          ⟨some 14, .alloc 25 (List.replicate 32 (.int .u8 0)), none⟩,
          ⟨none, .store 32 (.t 14) (.t 44), none⟩,
          ⟨some 15, .val (.t 45), none⟩] [])
         (.seq (.ops 9 false [
           ⟨some 46, .loadN 32 (.t 14), none⟩,
           ⟨some 47, .loadN 32 (.t 11), none⟩,
           ⟨some 48, .call 103 [(.t 46), (.t 47)], none⟩,
           ⟨some 49, .val (.t 15), none⟩,
           ⟨none, .store 32 (.t 8) (.t 48), none⟩,
           ⟨some 9, .val (.t 49), none⟩] [])
          (.ret)))
        (.skip)))
      (.seq (.ops 10 false [
        ⟨some 51, .val (.t 0), none⟩,
        ⟨some 52, .val (.t 13), none⟩,
        ⟨some 53, .bin .sub (.t 51) (.t 52), none⟩,
        ⟨some 54, .val (.t 1), none⟩,
        ⟨some 55, .val (.t 13), none⟩,
        ⟨some 56, .bin .sub (.t 54) (.t 55), none⟩,
        ⟨some 57, .loadN 32 (.t 6), none⟩,
        ⟨some 58, .val (.t 10), none⟩,
        ⟨some 59, .call 98 [(.t 53), (.t 56), (.t 57), (.t 58)], none⟩,
        ⟨some 50, .val (.t 59), none⟩,
        ⟨some 60, .extract 0 (.t 50), none⟩,
        ⟨some 61, .extract 1 (.t 50), none⟩,
        ⟨some 16, .alloc 25 (List.replicate 32 (.int .u8 0)), none⟩,
        ⟨none, .store 32 (.t 16) (.t 60), none⟩,
        ⟨some 17, .val (.t 61), none⟩] [])
       (.seq (.ops 11 false [
         ⟨some 62, .loadN 32 (.t 11), none⟩,
         ⟨some 63, .loadN 32 (.t 16), none⟩,
         ⟨some 64, .call 103 [(.t 62), (.t 63)], none⟩,
         ⟨some 65, .val (.t 17), none⟩,
         ⟨none, .store 32 (.t 8) (.t 64), none⟩,
         ⟨some 9, .val (.t 65), none⟩] [])
        (.ret))))))))
def rs98 : List RR := [.cell 8 (some 32), .tmp 9]
theorem fun98 : FunR Tryd.prog 98 rc98 rs98 66 := ⟨Tryd.f98, Tryd.func98, by kernel_rfl, by kernel_rfl, by kernel_rfl⟩
/-- causeway/tree.Leaf -/
def rc99 : RC :=
 .seq (.ops 0 false [
  ⟨some 2, .alloc 25 (List.replicate 32 (.int .u8 0)), none⟩] [])
 (.seq (.ops 1 false [
   ⟨some 3, .buildS 5 1 [(.int .u8 0)] [(0, 1, (.c (.int .u8 0)))], none⟩,
   ⟨some 4, .val (.t 0), none⟩,
   ⟨some 5, .buildS 79 2 [(.slice none 0 0), (.slice none 0 0)] [(0, 1, (.t 3)), (1, 1, (.t 4))], none⟩,
   ⟨some 6, .call 135 [(.t 5)], none⟩,
   ⟨none, .store 32 (.t 2) (.t 6), none⟩] [])
  (.ret))
def rs99 : List RR := [.cell 2 (some 32)]
theorem fun99 : FunR Tryd.prog 99 rc99 rs99 7 := ⟨Tryd.f99, Tryd.func99, by kernel_rfl, by kernel_rfl, by kernel_rfl⟩
/-- causeway/causewayref04.Path -/
def rc100 : RC :=
 .seq (.ops 0 false [
  ⟨some 4, .val (.c (.slice none 0 0)), none⟩,
  ⟨some 5, .val (.c (.int .i64 0)), none⟩] [])
 (.seq (.seq (.ops 1 false [
    ⟨some 6, .val (.t 1), none⟩,
    ⟨some 7, .bin .lss (.t 6) (.c (.int .i64 0)), none⟩,
    ⟨some 8, .val (.t 7), none⟩,
    ⟨some 9, .val (.t 1), some (8, false)⟩,
    ⟨some 10, .val (.t 0), some (8, false)⟩,
    ⟨some 11, .len (.t 10), some (8, false)⟩,
    ⟨some 12, .bin .geq (.t 9) (.t 11), some (8, false)⟩,
    ⟨some 13, .pick (.t 8) (.c (.bool true)) (.t 12), none⟩] [])
   (.cond (.t 13) (.seq (.ops 2 false [
      ⟨some 4, .val (.c (.slice none 0 0)), none⟩,
      ⟨some 5, .val (.c (.int .i64 41)), none⟩] [])
     (.ret))
    (.skip)))
  (.seq (.ops 3 false [
    ⟨some 14, .val (.t 0), none⟩,
    ⟨some 15, .val (.t 1), none⟩,
    ⟨some 16, .call 136 [(.t 14), (.t 15)], none⟩,
    ⟨some 4, .val (.t 16), none⟩,
    ⟨some 5, .val (.c (.int .i64 0)), none⟩] [])
   (.ret)))
def rs100 : List RR := [.tmp 4, .tmp 5]
theorem fun100 : FunR Tryd.prog 100 rc100 rs100 17 := ⟨Tryd.f100, Tryd.func100, by kernel_rfl, by kernel_rfl, by kernel_rfl⟩
/-- causeway/tree.none -/
def rc101 : RC :=
 .seq (.ops 0 false [
  ⟨some 0, .alloc 25 (List.replicate 32 (.int .u8 0)), none⟩] [])
 (.seq (.ops 1 false [
   ⟨some 1, .call 137 [(.c (.slice none 0 0))], none⟩,
   ⟨none, .store 32 (.t 0) (.t 1), none⟩] [])
  (.ret))
def rs101 : List RR := [.cell 0 (some 32)]
theorem fun101 : FunR Tryd.prog 101 rc101 rs101 2 := ⟨Tryd.f101, Tryd.func101, by kernel_rfl, by kernel_rfl, by kernel_rfl⟩
/-- causeway/tree.half -/
def rc102 : RC :=
 .seq (.ops 0 false [
  ⟨some 2, .val (.c (.int .i64 0)), none⟩] [])
 (.seq (.ops 1 false [
   ⟨some 3, .val (.t 0), none⟩,
   ⟨some 4, .bin .sub (.t 3) (.c (.int .i64 1)), none⟩,
   ⟨some 5, .conv .u64 (.t 4), none⟩,
   ⟨some 6, .call 138 [(.t 5)], none⟩,
   ⟨some 7, .bin .sub (.t 6) (.c (.int .i64 1)), none⟩,
   ⟨some 8, .bin .shl (.c (.int .i64 1)) (.t 7), none⟩,
   ⟨some 2, .val (.t 8), none⟩] [])
  (.ret))
def rs102 : List RR := [.tmp 2]
theorem fun102 : FunR Tryd.prog 102 rc102 rs102 9 := ⟨Tryd.f102, Tryd.func102, by kernel_rfl, by kernel_rfl, by kernel_rfl⟩
/-- causeway/tree.Node -/
def rc103 : RC :=
 .seq (.ops 0 false [
  ⟨some 2, .box 25 (.t 0), none⟩,
  ⟨some 3, .box 25 (.t 1), none⟩,
  ⟨some 4, .alloc 25 (List.replicate 32 (.int .u8 0)), none⟩] [])
 (.seq (.ops 1 true [
   ⟨some 5, .buildS 5 1 [(.int .u8 0)] [(0, 1, (.c (.int .u8 1)))], none⟩,
   ⟨some 6, .sliceA 32 1 (.t 2) none none, none⟩,
   ⟨some 7, .sliceA 32 1 (.t 3) none none, none⟩,
   ⟨some 8, .buildS 79 3 [(.slice none 0 0), (.slice none 0 0), (.slice none 0 0)] [(0, 1, (.t 5)), (1, 1, (.t 6)), (2, 1, (.t 7))], none⟩,
   ⟨some 9, .call 135 [(.t 8)], none⟩,
   ⟨none, .store 32 (.t 4) (.t 9), none⟩] [([], []), ([], []), ([], []), ([0, 1, 2], [0, 1, 2]), ([3], [3]), ([4, 4, 0, 1, 2, 3, 4], [4])])
  (.ret))
def rs103 : List RR := [.cell 4 (some 32)]
theorem fun103 : FunR Tryd.prog 103 rc103 rs103 10 := ⟨Tryd.f103, Tryd.func103, by kernel_rfl, by kernel_rfl, by kernel_rfl⟩
/-- causeway/causewayref04.Leaf -/
def rc104 : RC :=
 .seq (.ops 0 false [
  ⟨some 2, .alloc 25 (List.replicate 32 (.int .u8 0)), none⟩] [])
 (.seq (.ops 1 false [
   ⟨some 4, .val (.t 0), none⟩,
   ⟨some 5, .call 64 [(.t 4)], none⟩,
   ⟨some 3, .val (.t 5), none⟩] [])
  (.seq (.ops 2 false [
    ⟨some 6, .val (.t 3), none⟩,
    ⟨some 7, .call 66 [(.t 6)], none⟩,
    ⟨none, .store 32 (.t 2) (.t 7), none⟩] [])
   (.ret)))
def rs104 : List RR := [.cell 2 (some 32)]
theorem fun104 : FunR Tryd.prog 104 rc104 rs104 8 := ⟨Tryd.f104, Tryd.func104, by kernel_rfl, by kernel_rfl, by kernel_rfl⟩
/-- causeway/causewayref04.below -/
def rc105 : RC :=
 .seq (.ops 0 false [
  ⟨some 2, .val (.c (.int .i64 0)), none⟩] [])
 (.seq (.ops 1 false [
   ⟨some 3, .val (.c (.int .i64 1)), none⟩] [])
  (.seq (.block 0 (.loop (.seq (.seq (.ops 2 false [
        ⟨some 4, .val (.t 3), none⟩,
        ⟨some 5, .bin .mul (.c (.int .i64 2)) (.t 4), none⟩,
        ⟨some 6, .val (.t 0), none⟩,
        ⟨some 7, .bin .lss (.t 5) (.t 6), none⟩] [])
       (.cond (.t 7) (.skip)
        (.exit 0)))
      (.block 1 (.ops 3 false [
        ⟨some 8, .val (.t 3), none⟩,
        ⟨some 9, .bin .mul (.c (.int .i64 2)) (.t 8), none⟩,
        ⟨some 3, .val (.t 9), none⟩] [])))))
   (.seq (.ops 4 false [
     ⟨some 10, .val (.t 3), none⟩,
     ⟨some 2, .val (.t 10), none⟩] [])
    (.ret))))
def rs105 : List RR := [.tmp 2]
theorem fun105 : FunR Tryd.prog 105 rc105 rs105 11 := ⟨Tryd.f105, Tryd.func105, by kernel_rfl, by kernel_rfl, by kernel_rfl⟩
/-- causeway/causewayref04.Node -/
def rc106 : RC :=
 .seq (.ops 0 false [
  ⟨some 2, .box 25 (.t 0), none⟩,
  ⟨some 3, .box 25 (.t 1), none⟩,
  ⟨some 4, .alloc 25 (List.replicate 32 (.int .u8 0)), none⟩] [])
 (.seq (.ops 1 false [
   ⟨some 6, .loadN 32 (.t 2), none⟩,
   ⟨some 7, .loadN 32 (.t 3), none⟩,
   ⟨some 8, .call 67 [(.t 6), (.t 7)], none⟩,
   ⟨some 5, .val (.t 8), none⟩] [])
  (.seq (.ops 2 false [
    ⟨some 9, .val (.t 5), none⟩,
    ⟨some 10, .call 66 [(.t 9)], none⟩,
    ⟨none, .store 32 (.t 4) (.t 10), none⟩] [])
   (.ret)))
def rs106 : List RR := [.cell 4 (some 32)]
theorem fun106 : FunR Tryd.prog 106 rc106 rs106 11 := ⟨Tryd.f106, Tryd.func106, by kernel_rfl, by kernel_rfl, by kernel_rfl⟩
/-- causeway/causewaylaw11.mark -/
def rc107 : RC :=
 .seq (.ops 0 false [
  ⟨some 2, .alloc 25 (List.replicate 32 (.int .u8 0)), none⟩] [])
 (.seq (.ops 1 false [
   ⟨some 3, .val (.t 0), none⟩,
   ⟨some 4, .bin .quo (.t 3) (.c (.int .i64 65536)), none⟩,
   ⟨some 5, .conv .u8 (.t 4), none⟩,
   ⟨some 6, .val (.t 0), none⟩,
   ⟨some 7, .bin .quo (.t 6) (.c (.int .i64 256)), none⟩,
   ⟨some 8, .bin .rem (.t 7) (.c (.int .i64 256)), none⟩,
   ⟨some 9, .conv .u8 (.t 8), none⟩,
   ⟨some 10, .val (.t 0), none⟩,
   ⟨some 11, .bin .rem (.t 10) (.c (.int .i64 256)), none⟩,
   ⟨some 12, .conv .u8 (.t 11), none⟩,
   ⟨some 13, .build (List.replicate 32 (.int .u8 0)) [(0, 1, (.c (.int .u8 7))), (1, 1, (.t 5)), (2, 1, (.t 9)), (3, 1, (.t 12))], none⟩,
   ⟨none, .store 32 (.t 2) (.t 13), none⟩] [])
  (.ret))
def rs107 : List RR := [.cell 2 (some 32)]
theorem fun107 : FunR Tryd.prog 107 rc107 rs107 14 := ⟨Tryd.f107, Tryd.func107, by kernel_rfl, by kernel_rfl, by kernel_rfl⟩
/-- causeway/causewaylaw11.allPath -/
def rc108 : RC :=
 .seq (.ops 0 false [
  ⟨some 3, .box 25 (.t 1), none⟩,
  ⟨some 4, .val (.c (.bool false)), none⟩] [])
 (.seq (.seq (.ops 1 false [
    ⟨some 5, .val (.c (.int .i64 0)), none⟩] [])
   (.block 0 (.loop (.seq (.seq (.ops 2 false [
        ⟨some 6, .val (.t 5), none⟩,
        ⟨some 7, .val (.t 0), none⟩,
        ⟨some 8, .len (.t 7), none⟩,
        ⟨some 9, .bin .lss (.t 6) (.t 8), none⟩] [])
       (.cond (.t 9) (.skip)
        (.exit 0)))
      (.seq (.block 1 (.seq (.ops 4 true [
          ⟨some 12, .val (.t 0), none⟩,
          ⟨some 13, .val (.t 5), none⟩,
          ⟨some 14, .indexS 32 (.t 12) (.t 13), none⟩,
          ⟨some 15, .loadN 32 (.t 14), none⟩,
          ⟨some 16, .loadN 32 (.t 3), none⟩,
          ⟨some 17, .eqn true 25 (.t 15) (.t 16), none⟩] [([], []), ([], []), ([0, 1], [0, 1]), ([2], [2]), ([], []), ([3, 4], [3, 4])])
         (.cond (.t 17) (.seq (.ops 5 false [
            ⟨some 4, .val (.c (.bool false)), none⟩] [])
           (.ret))
          (.skip))))
       (.ops 3 false [
        ⟨some 10, .val (.t 5), none⟩,
        ⟨some 11, .bin .add (.t 10) (.c (.int .i64 1)), none⟩,
        ⟨some 5, .val (.t 11), none⟩] []))))))
  (.seq (.ops 6 false [
    ⟨some 4, .val (.c (.bool true)), none⟩] [])
   (.ret)))
def rs108 : List RR := [.tmp 4]
theorem fun108 : FunR Tryd.prog 108 rc108 rs108 18 := ⟨Tryd.f108, Tryd.func108, by kernel_rfl, by kernel_rfl, by kernel_rfl⟩
/-- causeway/tree.path -/
def rc109 : RC :=
 .seq (.ops 0 false [
  ⟨some 4, .val (.c (.slice none 0 0)), none⟩] [])
 (.seq (.seq (.ops 1 false [
    ⟨some 6, .val (.t 0), none⟩,
    ⟨some 7, .len (.t 6), none⟩,
    ⟨some 8, .bin .eql (.t 7) (.c (.int .i64 1)), none⟩] [])
   (.cond (.t 8) (.seq (.ops 2 false [
      ⟨some 4, .val (.c (.slice none 0 0)), none⟩] [])
     (.ret))
    (.skip)))
  (.seq (.ops 3 false [
    ⟨some 9, .val (.t 0), none⟩,
    ⟨some 10, .len (.t 9), none⟩,
    ⟨some 11, .call 102 [(.t 10)], none⟩,
    ⟨some 5, .val (.t 11), none⟩] [])
   (.seq (.seq (.ops 4 false [
      ⟨some 12, .val (.t 1), none⟩,
      ⟨some 13, .val (.t 5), none⟩,
      ⟨some 14, .bin .lss (.t 12) (.t 13), none⟩] [])
     (.cond (.t 14) (.seq (.ops 5 true [
        ⟨some 15, .val (.t 0), none⟩,
        ⟨some 16, .val (.t 5), none⟩,
        ⟨some 17, .slice 1 (.t 15) none (some (.t 16)) none, none⟩,
        ⟨some 18, .val (.t 1), none⟩,
        ⟨some 19, .call 109 [(.t 17), (.t 18)], none⟩,
        ⟨some 20, .val (.t 0), none⟩,
        ⟨some 21, .val (.t 5), none⟩,
        ⟨some 22, .slice 1 (.t 20) (some (.t 21)) none none, none⟩,
        ⟨some 23, .call 57 [(.t 22)], none⟩,
        ⟨some 24, .buildS 25 1 (List.replicate 32 (.int .u8 0)) [(0, 32, (.t 23))], none⟩,
        ⟨some 25, .blt .append #[33, 33] 33 [(.t 19), (.t 24)], none⟩,
        ⟨some 4, .val (.t 25), none⟩] [([], []), ([], []), ([0, 1], [0, 1]), ([], []), ([2, 3], [2, 3]), ([], []), ([], []), ([5, 6], [5, 6]), ([7, 4], [7]), ([8], [8]), ([4, 9, 8], [4, 9]), ([10, 10, 0, 1, 2, 3, 4, 5, 6, 7, 8, 9, 10], [10])])
       (.ret))
      (.skip)))
    (.seq (.ops 6 true [
      ⟨some 26, .val (.t 0), none⟩,
      ⟨some 27, .val (.t 5), none⟩,
      ⟨some 28, .slice 1 (.t 26) (some (.t 27)) none none, none⟩,
      ⟨some 29, .val (.t 1), none⟩,
      ⟨some 30, .val (.t 5), none⟩,
      ⟨some 31, .bin .sub (.t 29) (.t 30), none⟩,
      ⟨some 32, .call 109 [(.t 28), (.t 31)], none⟩,
      ⟨some 33, .val (.t 0), none⟩,
      ⟨some 34, .val (.t 5), none⟩,
      ⟨some 35, .slice 1 (.t 33) none (some (.t 34)) none, none⟩,
      ⟨some 36, .call 57 [(.t 35)], none⟩,
      ⟨some 37, .buildS 25 1 (List.replicate 32 (.int .u8 0)) [(0, 32, (.t 36))], none⟩,
      ⟨some 38, .blt .append #[33, 33] 33 [(.t 32), (.t 37)], none⟩,
      ⟨some 4, .val (.t 38), none⟩] [([], []), ([], []), ([0, 1], [0, 1]), ([], []), ([], []), ([3, 4], [3, 4]), ([2, 5], [2, 5]), ([], []), ([], []), ([7, 8], [7, 8]), ([9, 6], [9]), ([10], [10]), ([6, 11, 10], [6, 11]), ([12, 12, 0, 1, 2, 3, 4, 5, 6, 7, 8, 9, 10, 11, 12], [12])])
     (.ret)))))
def rs109 : List RR := [.tmp 4]
theorem fun109 : FunR Tryd.prog 109 rc109 rs109 39 := ⟨Tryd.f109, Tryd.func109, by kernel_rfl, by kernel_rfl, by kernel_rfl⟩
/-- causeway/causewayref01.of -/
def rc110 : RC :=
 .seq (.ops 0 false [
  ⟨some 4, .alloc 25 (List.replicate 32 (.int .u8 0)), none⟩] [])
 (.seq (.ops 1 false [
   ⟨some 10, .val (.t 0), none⟩,
   ⟨some 11, .val (.t 1), none⟩,
   ⟨some 12, .call 139 [(.t 10), (.t 11)], none⟩,
   ⟨some 5, .val (.t 12), none⟩] [])
  (.seq (.ops 2 false [
    ⟨some 13, .loadN 8 (.c (.pointer (some ⟨0, 0, none⟩))), none⟩,
    ⟨some 6, .alloc 216 (List.replicate 8 (.int .u32 0)), none⟩,
    ⟨none, .store 8 (.t 6) (.t 13), none⟩] [])
   (.seq (.seq (.ops 3 false [
      ⟨some 7, .val (.c (.int .i64 0)), none⟩] [])
     (.block 0 (.loop (.seq (.seq (.ops 4 false [
          ⟨some 14, .val (.t 7), none⟩,
          ⟨some 15, .val (.t 5), none⟩,
          ⟨some 16, .len (.t 15), none⟩,
          ⟨some 17, .bin .lss (.t 14) (.t 16), none⟩] [])
         (.cond (.t 17) (.skip)
          (.exit 0)))
        (.seq (.block 1 (.ops 6 false [
           ⟨some 20, .loadN 8 (.t 6), none⟩,
           ⟨some 21, .val (.t 5), none⟩,
           ⟨some 22, .val (.t 7), none⟩,
           ⟨some 23, .call 140 [(.t 20), (.t 21), (.t 22)], none⟩,
           ⟨none, .store 8 (.t 6) (.t 23), none⟩] []))
         (.ops 5 false [
          ⟨some 18, .val (.t 7), none⟩,
          ⟨some 19, .bin .add (.t 18) (.c (.int .i64 64)), none⟩,
          ⟨some 7, .val (.t 19), none⟩] []))))))
    (.seq (.ops 7 false [
      ⟨some 8, .alloc 25 (List.replicate 32 (.int .u8 0)), none⟩] [])
     (.seq (.seq (.ops 8 false [
        ⟨some 9, .val (.c (.int .i64 0)), none⟩] [])
       (.block 2 (.loop (.seq (.seq (.ops 9 false [
            ⟨some 24, .val (.t 9), none⟩,
            ⟨some 25, .bin .lss (.t 24) (.c (.int .i64 32)), none⟩] [])
           (.cond (.t 25) (.skip)
            (.exit 2)))
          (.seq (.block 3 (.ops 11 false [
             ⟨some 28, .val (.t 9), none⟩,
             ⟨some 29, .val (.t 9), none⟩,
             ⟨some 30, .bin .quo (.t 29) (.c (.int .i64 4)), none⟩,
             ⟨some 31, .indexA 8 1 (.t 6) (.t 30), none⟩,
             ⟨some 32, .load (.t 31), none⟩,
             ⟨some 33, .val (.t 9), none⟩,
             ⟨some 34, .bin .rem (.t 33) (.c (.int .i64 4)), none⟩,
             ⟨some 35, .bin .mul (.c (.int .i64 8)) (.t 34), none⟩,
             ⟨some 36, .bin .sub (.c (.int .i64 24)) (.t 35), none⟩,
             ⟨some 37, .conv .u64 (.t 36), none⟩,
             ⟨some 38, .bin .shr (.t 32) (.t 37), none⟩,
             ⟨some 39, .conv .u8 (.t 38), none⟩,
             ⟨some 40, .indexA 32 1 (.t 8) (.t 28), none⟩,
             ⟨none, .store 1 (.t 40) (.t 39), none⟩] []))
           (.ops 10 false [
            ⟨some 26, .val (.t 9), none⟩,
            ⟨some 27, .bin .add (.t 26) (.c (.int .i64 1)), none⟩,
            ⟨some 9, .val (.t 27), none⟩] []))))))
      (.seq (.ops 12 false [
        ⟨some 41, .loadN 32 (.t 8), none⟩,
        ⟨none, .store 32 (.t 4) (.t 41), none⟩] [])
       (.ret)))))))
def rs110 : List RR := [.cell 4 (some 32)]
theorem fun110 : FunR Tryd.prog 110 rc110 rs110 42 := ⟨Tryd.f110, Tryd.func110, by kernel_rfl, by kernel_rfl, by kernel_rfl⟩
/-- (*causeway/causewayref03.Writer).lay -/
def rc111 : RC :=
 .seq (.seq (.ops 0 false [
   ⟨some 4, .val (.t 0), none⟩,
   ⟨some 5, .nilCheck (.t 4), none⟩,
   ⟨some 6, .fieldA 1 (.t 5), none⟩,
   ⟨some 7, .load (.t 6), none⟩,
   ⟨some 8, .bin .neq (.t 7) (.c (.int .i64 0)), none⟩] [])
  (.cond (.t 8) (.ret)
   (.skip)))
 (.seq (.seq (.ops 1 false [
    ⟨some 9, .val (.t 0), none⟩,
    ⟨some 10, .nilCheck (.t 9), none⟩,
    ⟨some 11, .fieldA 0 (.t 10), none⟩,
    ⟨some 12, .load (.t 11), none⟩,
    ⟨some 13, .len (.t 12), none⟩,
    ⟨some 14, .val (.t 1), none⟩,
    ⟨some 15, .len (.t 14), none⟩,
    ⟨some 16, .bin .add (.t 13) (.t 15), none⟩,
    ⟨some 17, .bin .gtr (.t 16) (.c (.int .i64 4194304)), none⟩] [])
   (.cond (.t 17) (.seq (.ops 2 false [
      ⟨some 18, .val (.t 0), none⟩,
      ⟨some 19, .nilCheck (.t 18), none⟩,
      ⟨some 20, .fieldA 1 (.t 19), none⟩,
      ⟨none, .store 1 (.t 20) (.c (.int .i64 30)), none⟩] [])
     (.ret))
    (.skip)))
  (.ops 3 false [
   ⟨some 21, .val (.t 0), none⟩,
   ⟨some 22, .val (.t 0), none⟩,
   ⟨some 23, .nilCheck (.t 22), none⟩,
   ⟨some 24, .fieldA 0 (.t 23), none⟩,
   ⟨some 25, .load (.t 24), none⟩,
   ⟨some 26, .val (.t 1), none⟩,
   ⟨some 27, .blt .append #[79, 79] 79 [(.t 25), (.t 26)], none⟩,
   ⟨some 28, .nilCheck (.t 21), none⟩,
   ⟨some 29, .fieldA 0 (.t 28), none⟩,
   ⟨none, .store 1 (.t 29) (.t 27), none⟩] []))
def rs111 : List RR := []
theorem fun111 : FunR Tryd.prog 111 rc111 rs111 30 := ⟨Tryd.f111, Tryd.func111, by kernel_rfl, by kernel_rfl, by kernel_rfl⟩
/-- causeway/causewayref03.Number -/
def rc112 : RC :=
 .seq (.ops 0 false [
  ⟨some 2, .val (.c (.slice none 0 0)), none⟩] [])
 (.seq (.ops 1 false [
   ⟨some 3, .alloc 196 (List.replicate 8 (.int .u8 0)), none⟩] [])
  (.seq (.ops 2 false [
    ⟨some 8, .val (.t 0), none⟩,
    ⟨some 4, .val (.t 8), none⟩] [])
   (.seq (.seq (.ops 3 false [
      ⟨some 5, .val (.c (.int .i64 7)), none⟩] [])
     (.block 0 (.loop (.seq (.seq (.ops 4 false [
          ⟨some 9, .val (.t 5), none⟩,
          ⟨some 10, .bin .geq (.t 9) (.c (.int .i64 0)), none⟩] [])
         (.cond (.t 10) (.skip)
          (.exit 0)))
        (.seq (.block 1 (.seq (.ops 6 false [
            ⟨some 13, .val (.t 5), none⟩,
            ⟨some 14, .val (.t 4), none⟩,
            ⟨some 15, .bin .rem (.t 14) (.c (.int .i64 256)), none⟩,
            ⟨some 16, .conv .u8 (.t 15), none⟩,
            ⟨some 17, .indexA 8 1 (.t 3) (.t 13), none⟩,
            ⟨none, .store 1 (.t 17) (.t 16), none⟩] [])
           (.ops 7 false [
            ⟨some 18, .val (.t 4), none⟩,
            ⟨some 19, .bin .quo (.t 18) (.c (.int .i64 256)), none⟩,
            ⟨some 4, .val (.t 19), none⟩] [])))
         (.ops 5 false [
          ⟨some 11, .val (.t 5), none⟩,
          ⟨some 12, .bin .sub (.t 11) (.c (.int .i64 1)), none⟩,
          ⟨some 5, .val (.t 12), none⟩] []))))))
    (.seq (.ops 8 false [
      ⟨some 20, .sliceA 8 1 (.t 3) none none, none⟩,
      ⟨some 21, .call 141 [(.t 20)], none⟩,
      ⟨some 6, .val (.t 21), none⟩] [])
     (.seq (.ops 9 false [
       ⟨some 22, .val (.t 6), none⟩,
       ⟨some 23, .len (.t 22), none⟩,
       ⟨some 24, .conv .u8 (.t 23), none⟩,
       ⟨some 25, .buildS 5 1 [(.int .u8 0)] [(0, 1, (.t 24))], none⟩,
       ⟨some 7, .val (.t 25), none⟩] [])
      (.seq (.ops 10 false [
        ⟨some 26, .val (.t 7), none⟩,
        ⟨some 27, .val (.t 6), none⟩,
        ⟨some 28, .blt .append #[79, 79] 79 [(.t 26), (.t 27)], none⟩,
        ⟨some 2, .val (.t 28), none⟩] [])
       (.ret)))))))
def rs112 : List RR := [.tmp 2]
theorem fun112 : FunR Tryd.prog 112 rc112 rs112 29 := ⟨Tryd.f112, Tryd.func112, by kernel_rfl, by kernel_rfl, by kernel_rfl⟩
/-- causeway/causewayref03.Wide -/
def rc113 : RC :=
 .seq (.ops 0 false [
  ⟨some 1, .box 30 (.t 0), none⟩,
  ⟨some 2, .val (.c (.slice none 0 0)), none⟩] [])
 (.seq (.ops 1 false [
   ⟨some 6, .loadN 4 (.t 1), none⟩,
   ⟨some 7, .call 142 [(.t 6)], none⟩,
   ⟨some 3, .val (.t 7), none⟩] [])
  (.seq (.ops 2 false [
    ⟨some 8, .val (.t 3), none⟩,
    ⟨some 9, .call 141 [(.t 8)], none⟩,
    ⟨some 4, .val (.t 9), none⟩] [])
   (.seq (.ops 3 false [
     ⟨some 10, .val (.t 4), none⟩,
     ⟨some 11, .len (.t 10), none⟩,
     ⟨some 12, .conv .u8 (.t 11), none⟩,
     ⟨some 13, .buildS 5 1 [(.int .u8 0)] [(0, 1, (.t 12))], none⟩,
     ⟨some 5, .val (.t 13), none⟩] [])
    (.seq (.ops 4 false [
      ⟨some 14, .val (.t 5), none⟩,
      ⟨some 15, .val (.t 4), none⟩,
      ⟨some 16, .blt .append #[79, 79] 79 [(.t 14), (.t 15)], none⟩,
      ⟨some 2, .val (.t 16), none⟩] [])
     (.ret)))))
def rs113 : List RR := [.tmp 2]
theorem fun113 : FunR Tryd.prog 113 rc113 rs113 17 := ⟨Tryd.f113, Tryd.func113, by kernel_rfl, by kernel_rfl, by kernel_rfl⟩
/-- causeway/outbox.count -/
def rc116 : RC :=
 .seq (.ops 0 false [
  ⟨some 2, .val (.c (.bool false)), none⟩] [])
 (.seq (.ops 1 false [
   ⟨some 3, .val (.t 0), none⟩,
   ⟨some 4, .bin .geq (.t 3) (.c (.int .i64 0)), none⟩,
   ⟨some 5, .val (.t 4), none⟩,
   ⟨some 6, .val (.t 0), some (5, true)⟩,
   ⟨some 7, .bin .lss (.t 6) (.c (.int .i64 1099511627776)), some (5, true)⟩,
   ⟨some 8, .pick (.t 5) (.t 7) (.c (.bool false)), none⟩,
   ⟨some 2, .val (.t 8), none⟩] [])
  (.ret))
def rs116 : List RR := [.tmp 2]
theorem fun116 : FunR Tryd.prog 116 rc116 rs116 9 := ⟨Tryd.f116, Tryd.func116, by kernel_rfl, by kernel_rfl, by kernel_rfl⟩
/-- causeway/wide.IsZero -/
def rc117 : RC :=
 .seq (.ops 0 false [
  ⟨some 1, .box 30 (.t 0), none⟩,
  ⟨some 2, .val (.c (.bool false)), none⟩] [])
 (.seq (.ops 1 false [
   ⟨some 3, .loadN 4 (.t 1), none⟩,
   ⟨some 4, .build [(.int .u64 0), (.int .u64 0), (.int .u64 0), (.int .u64 0)] [], none⟩,
   ⟨some 5, .eqn false 30 (.t 3) (.t 4), none⟩,
   ⟨some 2, .val (.t 5), none⟩] [])
  (.ret))
def rs117 : List RR := [.tmp 2]
theorem fun117 : FunR Tryd.prog 117 rc117 rs117 6 := ⟨Tryd.f117, Tryd.func117, by kernel_rfl, by kernel_rfl, by kernel_rfl⟩
/-- (*causeway/wire.Writer).lay -/
def rc131 : RC :=
 .seq (.ops 0 false [
  ⟨some 9, .val (.t 0), none⟩,
  ⟨some 10, .nilCheck (.t 9), none⟩,
  ⟨some 11, .fieldA 0 (.t 10), none⟩,
  ⟨some 12, .load (.t 11), none⟩,
  ⟨some 13, .len (.t 12), none⟩,
  ⟨some 4, .val (.t 13), none⟩] [])
 (.seq (.seq (.ops 1 false [
    ⟨some 14, .val (.t 1), none⟩,
    ⟨some 15, .len (.t 14), none⟩,
    ⟨some 16, .val (.c (.int .i64 0)), none⟩] [])
   (.block 0 (.loop (.seq (.ops 2 false [
       ⟨some 17, .bin .lss (.t 16) (.t 15), none⟩] [])
      (.seq (.cond (.t 17) (.skip)
        (.exit 0))
       (.seq (.block 1 (.seq (.ops 3 false [
           ⟨some 18, .indexS 1 (.t 14) (.t 16), none⟩,
           ⟨some 19, .load (.t 18), none⟩,
           ⟨some 6, .val (.t 19), none⟩] [])
          (.ops 4 false [
           ⟨some 20, .val (.t 4), none⟩,
           ⟨some 21, .val (.t 6), none⟩,
           ⟨some 22, .len (.t 21), none⟩,
           ⟨some 23, .bin .add (.t 20) (.t 22), none⟩,
           ⟨some 4, .val (.t 23), none⟩] [])))
        (.ops 5 false [
         ⟨some 24, .bin .add (.t 16) (.c (.int .i64 1)), none⟩,
         ⟨some 16, .val (.t 24), none⟩] [])))))))
  (.block 2 (.seq (.ops 11 false [
     ⟨some 42, .val (.t 0), none⟩,
     ⟨some 43, .nilCheck (.t 42), none⟩,
     ⟨some 44, .fieldA 1 (.t 43), none⟩,
     ⟨some 45, .load (.t 44), none⟩,
     ⟨some 46, .bin .neq (.t 45) (.c (.int .i64 0)), none⟩,
     ⟨some 41, .val (.t 46), none⟩] [])
    (.cond (.t 41) (.skip)
     (.seq (.ops 12 false [
       ⟨some 48, .val (.t 4), none⟩,
       ⟨some 49, .bin .gtr (.t 48) (.c (.int .i64 4194304)), none⟩,
       ⟨some 47, .val (.t 49), none⟩] [])
      (.cond (.t 47) (.ops 13 false [
        ⟨some 50, .val (.t 0), none⟩,
        ⟨some 51, .nilCheck (.t 50), none⟩,
        ⟨some 52, .fieldA 1 (.t 51), none⟩,
        ⟨none, .store 1 (.t 52) (.c (.int .i64 30)), none⟩] [])
       (.seq (.ops 6 false [
         ⟨some 25, .val (.t 1), none⟩,
         ⟨some 26, .len (.t 25), none⟩,
         ⟨some 27, .val (.c (.int .i64 0)), none⟩] [])
        (.block 3 (.loop (.seq (.ops 7 false [
            ⟨some 28, .bin .lss (.t 27) (.t 26), none⟩] [])
           (.seq (.cond (.t 28) (.skip)
             (.exit 3))
            (.seq (.block 4 (.seq (.ops 8 false [
                ⟨some 29, .indexS 1 (.t 25) (.t 27), none⟩,
                ⟨some 30, .load (.t 29), none⟩,
                ⟨some 8, .val (.t 30), none⟩] [])
               (.ops 9 false [
                ⟨some 31, .val (.t 0), none⟩,
                ⟨some 32, .val (.t 0), none⟩,
                ⟨some 33, .nilCheck (.t 32), none⟩,
                ⟨some 34, .fieldA 0 (.t 33), none⟩,
                ⟨some 35, .load (.t 34), none⟩,
                ⟨some 36, .val (.t 8), none⟩,
                ⟨some 37, .blt .append #[79, 79] 79 [(.t 35), (.t 36)], none⟩,
                ⟨some 38, .nilCheck (.t 31), none⟩,
                ⟨some 39, .fieldA 0 (.t 38), none⟩,
                ⟨none, .store 1 (.t 39) (.t 37), none⟩] [])))
             (.ops 10 false [
              ⟨some 40, .bin .add (.t 27) (.c (.int .i64 1)), none⟩,
              ⟨some 27, .val (.t 40), none⟩] [])))))))))))))
def rs131 : List RR := []
theorem fun131 : FunR Tryd.prog 131 rc131 rs131 53 := ⟨Tryd.f131, Tryd.func131, by kernel_rfl, by kernel_rfl, by kernel_rfl⟩
/-- causeway/wire.form -/
def rc132 : RC :=
 .seq (.ops 0 false [
  ⟨some 2, .val (.c (.slice none 0 0)), none⟩] [])
 (.seq (.ops 1 false [
   ⟨some 3, .alloc 196 (List.replicate 8 (.int .u8 0)), none⟩] [])
  (.seq (.seq (.ops 2 false [
     ⟨some 5, .val (.c (.int .i64 0)), none⟩] [])
    (.block 0 (.loop (.seq (.ops 3 false [
        ⟨some 6, .bin .lss (.t 5) (.c (.int .i64 8)), none⟩] [])
       (.seq (.cond (.t 6) (.skip)
         (.exit 0))
        (.seq (.block 1 (.seq (.ops 4 false [
            ⟨some 7, .val (.t 5), none⟩,
            ⟨some 4, .val (.t 7), none⟩] [])
           (.ops 5 false [
            ⟨some 8, .val (.t 4), none⟩,
            ⟨some 9, .val (.t 0), none⟩,
            ⟨some 10, .val (.t 4), none⟩,
            ⟨some 11, .bin .mul (.c (.int .i64 8)) (.t 10), none⟩,
            ⟨some 12, .bin .sub (.c (.int .i64 56)) (.t 11), none⟩,
            ⟨some 13, .bin .shr (.t 9) (.t 12), none⟩,
            ⟨some 14, .conv .u8 (.t 13), none⟩,
            ⟨some 15, .indexA 8 1 (.t 3) (.t 8), none⟩,
            ⟨none, .store 1 (.t 15) (.t 14), none⟩] [])))
         (.ops 6 false [
          ⟨some 16, .bin .add (.t 5) (.c (.int .i64 1)), none⟩,
          ⟨some 5, .val (.t 16), none⟩] [])))))))
   (.seq (.ops 7 false [
     ⟨some 17, .sliceA 8 1 (.t 3) none none, none⟩,
     ⟨some 18, .call 133 [(.t 17)], none⟩,
     ⟨some 2, .val (.t 18), none⟩] [])
    (.ret))))
def rs132 : List RR := [.tmp 2]
theorem fun132 : FunR Tryd.prog 132 rc132 rs132 19 := ⟨Tryd.f132, Tryd.func132, by kernel_rfl, by kernel_rfl, by kernel_rfl⟩
/-- causeway/wire.short -/
def rc133 : RC :=
 .seq (.ops 0 false [
  ⟨some 2, .val (.c (.slice none 0 0)), none⟩] [])
 (.seq (.block 0 (.loop (.seq (.seq (.ops 1 false [
       ⟨some 3, .val (.t 0), none⟩,
       ⟨some 4, .len (.t 3), none⟩,
       ⟨some 5, .bin .gtr (.t 4) (.c (.int .i64 0)), none⟩,
       ⟨some 6, .val (.t 5), none⟩,
       ⟨some 7, .val (.t 0), some (6, true)⟩,
       ⟨some 8, .indexS 1 (.t 7) (.c (.int .i64 0)), some (6, true)⟩,
       ⟨some 9, .load (.t 8), some (6, true)⟩,
       ⟨some 10, .bin .eql (.t 9) (.c (.int .u8 0)), some (6, true)⟩,
       ⟨some 11, .pick (.t 6) (.t 10) (.c (.bool false)), none⟩] [])
      (.cond (.t 11) (.skip)
       (.exit 0)))
     (.block 1 (.ops 2 false [
       ⟨some 12, .val (.t 0), none⟩,
       ⟨some 13, .slice 1 (.t 12) (some (.c (.int .i64 1))) none none, none⟩,
       ⟨some 0, .val (.t 13), none⟩] [])))))
  (.seq (.ops 3 false [
    ⟨some 14, .val (.t 0), none⟩,
    ⟨some 15, .len (.t 14), none⟩,
    ⟨some 16, .conv .u8 (.t 15), none⟩,
    ⟨some 17, .buildS 5 1 [(.int .u8 0)] [(0, 1, (.t 16))], none⟩,
    ⟨some 18, .val (.t 0), none⟩,
    ⟨some 19, .blt .append #[79, 79] 79 [(.t 17), (.t 18)], none⟩,
    ⟨some 2, .val (.t 19), none⟩] [])
   (.ret)))
def rs133 : List RR := [.tmp 2]
theorem fun133 : FunR Tryd.prog 133 rc133 rs133 20 := ⟨Tryd.f133, Tryd.func133, by kernel_rfl, by kernel_rfl, by kernel_rfl⟩
/-- causeway/tree.cut -/
def rc134 : RC :=
 .seq (.ops 0 false [
  ⟨some 2, .val (.c (.slice none 0 0)), none⟩,
  ⟨some 3, .alloc 25 (List.replicate 32 (.int .u8 0)), none⟩,
  ⟨some 4, .val (.c (.bool false)), none⟩] [])
 (.seq (.ops 1 false [
   ⟨some 6, .val (.t 0), none⟩,
   ⟨some 7, .len (.t 6), none⟩,
   ⟨some 8, .bin .sub (.t 7) (.c (.int .i64 1)), none⟩,
   ⟨some 5, .val (.t 8), none⟩] [])
  (.seq (.seq (.ops 2 false [
     ⟨some 9, .val (.t 5), none⟩,
     ⟨some 10, .bin .lss (.t 9) (.c (.int .i64 0)), none⟩] [])
    (.cond (.t 10) (.seq (.ops 3 false [
       ⟨some 11, .build (List.replicate 32 (.int .u8 0)) [], none⟩,
       ⟨some 2, .val (.c (.slice none 0 0)), none⟩,
       ⟨none, .store 32 (.t 3) (.t 11), none⟩,
       ⟨some 4, .val (.c (.bool false)), none⟩] [])
      (.ret))
     (.skip)))
   (.seq (.ops 4 true [
     ⟨some 12, .val (.t 0), none⟩,
     ⟨some 13, .val (.t 5), none⟩,
     ⟨some 14, .val (.t 5), none⟩,
     ⟨some 15, .slice 32 (.t 12) none (some (.t 13)) (some (.t 14)), none⟩,
     ⟨some 16, .val (.t 0), none⟩,
     ⟨some 17, .val (.t 5), none⟩,
     ⟨some 18, .indexS 32 (.t 16) (.t 17), none⟩,
     ⟨some 19, .loadN 32 (.t 18), none⟩,
     ⟨some 2, .val (.t 15), none⟩,
     ⟨none, .store 32 (.t 3) (.t 19), none⟩,
     ⟨some 4, .val (.c (.bool true)), none⟩] [([], []), ([], []), ([], []), ([0, 1, 2], [0, 1, 2]), ([], []), ([], []), ([4, 5], [4, 5]), ([6], [6]), ([3, 0, 1, 2, 3], [3]), ([7, 8, 0, 1, 2, 3, 4, 5, 6, 7, 8], [7]), ([9, 0, 1, 2, 3, 4, 5, 6, 7, 8, 9], [])])
    (.ret))))
def rs134 : List RR := [.tmp 2, .cell 3 (some 32), .tmp 4]
theorem fun134 : FunR Tryd.prog 134 rc134 rs134 20 := ⟨Tryd.f134, Tryd.func134, by kernel_rfl, by kernel_rfl, by kernel_rfl⟩
/-- causeway/digest.Parts -/
def rc135 : RC :=
 .seq (.ops 0 false [
  ⟨some 2, .alloc 25 (List.replicate 32 (.int .u8 0)), none⟩] [])
 (.seq (.ops 1 false [
   ⟨some 6, .call 155 [], none⟩,
   ⟨some 3, .val (.t 6), none⟩] [])
  (.seq (.seq (.ops 2 false [
     ⟨some 7, .val (.t 0), none⟩,
     ⟨some 8, .len (.t 7), none⟩,
     ⟨some 9, .val (.c (.int .i64 0)), none⟩] [])
    (.block 0 (.loop (.seq (.ops 3 false [
        ⟨some 10, .bin .lss (.t 9) (.t 8), none⟩] [])
       (.seq (.cond (.t 10) (.skip)
         (.exit 0))
        (.seq (.block 1 (.seq (.ops 4 false [
            ⟨some 11, .indexS 1 (.t 7) (.t 9), none⟩,
            ⟨some 12, .load (.t 11), none⟩,
            ⟨some 5, .val (.t 12), none⟩] [])
           (.ops 5 false [
            ⟨some 13, .val (.t 3), none⟩,
            ⟨some 14, .val (.t 5), none⟩,
            ⟨some 15, .call 156 [(.t 13), (.t 14)], none⟩] [])))
         (.ops 6 false [
          ⟨some 16, .bin .add (.t 9) (.c (.int .i64 1)), none⟩,
          ⟨some 9, .val (.t 16), none⟩] [])))))))
   (.seq (.ops 7 false [
     ⟨some 17, .val (.t 3), none⟩,
     ⟨some 18, .call 157 [(.t 17)], none⟩,
     ⟨none, .store 32 (.t 2) (.t 18), none⟩] [])
    (.ret))))
def rs135 : List RR := [.cell 2 (some 32)]
theorem fun135 : FunR Tryd.prog 135 rc135 rs135 19 := ⟨Tryd.f135, Tryd.func135, by kernel_rfl, by kernel_rfl, by kernel_rfl⟩
/-- causeway/causewayref04.path -/
def rc136 : RC :=
 .seq (.ops 0 false [
  ⟨some 4, .val (.c (.slice none 0 0)), none⟩] [])
 (.seq (.seq (.ops 1 false [
    ⟨some 10, .val (.t 0), none⟩,
    ⟨some 11, .len (.t 10), none⟩,
    ⟨some 12, .bin .eql (.t 11) (.c (.int .i64 1)), none⟩] [])
   (.cond (.t 12) (.seq (.ops 2 false [
      ⟨some 4, .val (.c (.slice none 0 0)), none⟩] [])
     (.ret))
    (.skip)))
  (.seq (.ops 3 false [
    ⟨some 13, .val (.t 0), none⟩,
    ⟨some 14, .len (.t 13), none⟩,
    ⟨some 15, .call 105 [(.t 14)], none⟩,
    ⟨some 5, .val (.t 15), none⟩] [])
   (.seq (.seq (.ops 4 false [
      ⟨some 16, .val (.t 1), none⟩,
      ⟨some 17, .val (.t 5), none⟩,
      ⟨some 18, .bin .lss (.t 16) (.t 17), none⟩] [])
     (.cond (.t 18) (.seq (.ops 5 false [
        ⟨some 19, .val (.t 0), none⟩,
        ⟨some 20, .val (.t 5), none⟩,
        ⟨some 21, .slice 1 (.t 19) none (some (.t 20)) none, none⟩,
        ⟨some 22, .val (.t 1), none⟩,
        ⟨some 23, .call 136 [(.t 21), (.t 22)], none⟩,
        ⟨some 6, .val (.t 23), none⟩] [])
       (.seq (.ops 6 false [
         ⟨some 24, .val (.t 0), none⟩,
         ⟨some 25, .val (.t 5), none⟩,
         ⟨some 26, .slice 1 (.t 24) (some (.t 25)) none none, none⟩,
         ⟨some 27, .call 58 [(.t 26)], none⟩,
         ⟨some 7, .alloc 25 (List.replicate 32 (.int .u8 0)), none⟩,
         ⟨none, .store 32 (.t 7) (.t 27), none⟩] [])
        (.seq (.ops 7 false [
          ⟨some 28, .val (.t 6), none⟩,
          ⟨some 29, .loadN 32 (.t 7), none⟩,
          ⟨some 30, .buildS 25 1 (List.replicate 32 (.int .u8 0)) [(0, 32, (.t 29))], none⟩,
          ⟨some 31, .blt .append #[33, 33] 33 [(.t 28), (.t 30)], none⟩,
          ⟨some 4, .val (.t 31), none⟩] [])
         (.ret))))
      (.skip)))
    (.seq (.ops 8 false [
      ⟨some 32, .val (.t 0), none⟩,
      ⟨some 33, .val (.t 5), none⟩,
      ⟨some 34, .slice 1 (.t 32) (some (.t 33)) none none, none⟩,
      ⟨some 35, .val (.t 1), none⟩,
      ⟨some 36, .val (.t 5), none⟩,
      ⟨some 37, .bin .sub (.t 35) (.t 36), none⟩,
      ⟨some 38, .call 136 [(.t 34), (.t 37)], none⟩,
      ⟨some 8, .val (.t 38), none⟩] [])
     (.seq (.ops 9 false [
       ⟨some 39, .val (.t 0), none⟩,
       ⟨some 40, .val (.t 5), none⟩,
       ⟨some 41, .slice 1 (.t 39) none (some (.t 40)) none, none⟩,
       ⟨some 42, .call 58 [(.t 41)], none⟩,
       ⟨some 9, .alloc 25 (List.replicate 32 (.int .u8 0)), none⟩,
       ⟨none, .store 32 (.t 9) (.t 42), none⟩] [])
      (.seq (.ops 10 false [
        ⟨some 43, .val (.t 8), none⟩,
        ⟨some 44, .loadN 32 (.t 9), none⟩,
        ⟨some 45, .buildS 25 1 (List.replicate 32 (.int .u8 0)) [(0, 32, (.t 44))], none⟩,
        ⟨some 46, .blt .append #[33, 33] 33 [(.t 43), (.t 45)], none⟩,
        ⟨some 4, .val (.t 46), none⟩] [])
       (.ret)))))))
def rs136 : List RR := [.tmp 4]
theorem fun136 : FunR Tryd.prog 136 rc136 rs136 47 := ⟨Tryd.f136, Tryd.func136, by kernel_rfl, by kernel_rfl, by kernel_rfl⟩
/-- causeway/digest.Sum -/
def rc137 : RC :=
 .seq (.ops 0 false [
  ⟨some 2, .alloc 25 (List.replicate 32 (.int .u8 0)), none⟩] [])
 (.seq (.ops 1 false [
   ⟨some 3, .val (.t 0), none⟩,
   ⟨some 4, .buildS 79 1 [(.slice none 0 0)] [(0, 1, (.t 3))], none⟩,
   ⟨some 5, .call 135 [(.t 4)], none⟩,
   ⟨none, .store 32 (.t 2) (.t 5), none⟩] [])
  (.ret))
def rs137 : List RR := [.cell 2 (some 32)]
theorem fun137 : FunR Tryd.prog 137 rc137 rs137 6 := ⟨Tryd.f137, Tryd.func137, by kernel_rfl, by kernel_rfl, by kernel_rfl⟩
/-- math/bits.Len -/
def rc138 : RC :=
 .seq (.ops 0 false [
  ⟨some 2, .val (.c (.int .i64 0)), none⟩] [])
 (.seq (.cond (.c (.bool false)) (.seq (.ops 1 false [
     ⟨some 3, .val (.t 0), none⟩,
     ⟨some 4, .conv .u32 (.t 3), none⟩,
     ⟨some 5, .call 158 [(.t 4)], none⟩,
     ⟨some 2, .val (.t 5), none⟩] [])
    (.ret))
   (.skip))
  (.seq (.ops 2 false [
    ⟨some 6, .val (.t 0), none⟩,
    ⟨some 7, .call 159 [(.t 6)], none⟩,
    ⟨some 2, .val (.t 7), none⟩] [])
   (.ret)))
def rs138 : List RR := [.tmp 2]
theorem fun138 : FunR Tryd.prog 138 rc138 rs138 8 := ⟨Tryd.f138, Tryd.func138, by kernel_rfl, by kernel_rfl, by kernel_rfl⟩
/-- causeway/causewayref01.laid -/
def rc139 : RC :=
 .seq (.ops 0 false [
  ⟨some 4, .val (.c (.slice none 0 0)), none⟩] [])
 (.seq (.ops 1 false [
   ⟨some 5, .val (.c (.slice none 0 0)), none⟩] [])
  (.seq (.seq (.ops 2 false [
     ⟨some 6, .val (.c (.int .i64 0)), none⟩] [])
    (.block 0 (.loop (.seq (.seq (.ops 3 false [
         ⟨some 10, .val (.t 6), none⟩,
         ⟨some 11, .val (.t 1), none⟩,
         ⟨some 12, .bin .quo (.t 11) (.c (.int .i64 8)), none⟩,
         ⟨some 13, .bin .lss (.t 10) (.t 12), none⟩] [])
        (.cond (.t 13) (.skip)
         (.exit 0)))
       (.seq (.block 1 (.ops 5 false [
          ⟨some 16, .val (.t 5), none⟩,
          ⟨some 17, .val (.t 0), none⟩,
          ⟨some 18, .val (.t 6), none⟩,
          ⟨some 19, .indexS 1 (.t 17) (.t 18), none⟩,
          ⟨some 20, .load (.t 19), none⟩,
          ⟨some 21, .buildS 5 1 [(.int .u8 0)] [(0, 1, (.t 20))], none⟩,
          ⟨some 22, .blt .append #[79, 79] 79 [(.t 16), (.t 21)], none⟩,
          ⟨some 5, .val (.t 22), none⟩] []))
        (.ops 4 false [
         ⟨some 14, .val (.t 6), none⟩,
         ⟨some 15, .bin .add (.t 14) (.c (.int .i64 1)), none⟩,
         ⟨some 6, .val (.t 15), none⟩] []))))))
   (.seq (.seq (.ops 6 false [
      ⟨some 23, .val (.t 1), none⟩,
      ⟨some 24, .bin .rem (.t 23) (.c (.int .i64 8)), none⟩,
      ⟨some 25, .bin .eql (.t 24) (.c (.int .i64 0)), none⟩] [])
     (.cond (.t 25) (.ops 7 false [
       ⟨some 26, .val (.t 5), none⟩,
       ⟨some 27, .buildS 5 1 [(.int .u8 0)] [(0, 1, (.c (.int .u8 128)))], none⟩,
       ⟨some 28, .blt .append #[79, 79] 79 [(.t 26), (.t 27)], none⟩,
       ⟨some 5, .val (.t 28), none⟩] [])
      (.seq (.ops 8 false [
        ⟨some 29, .val (.t 1), none⟩,
        ⟨some 30, .bin .rem (.t 29) (.c (.int .i64 8)), none⟩,
        ⟨some 31, .bin .sub (.c (.int .i64 7)) (.t 30), none⟩,
        ⟨some 32, .conv .u64 (.t 31), none⟩,
        ⟨some 33, .bin .shl (.c (.int .u8 1)) (.t 32), none⟩,
        ⟨some 7, .val (.t 33), none⟩] [])
       (.seq (.ops 9 false [
         ⟨some 34, .val (.t 0), none⟩,
         ⟨some 35, .val (.t 1), none⟩,
         ⟨some 36, .bin .quo (.t 35) (.c (.int .i64 8)), none⟩,
         ⟨some 37, .indexS 1 (.t 34) (.t 36), none⟩,
         ⟨some 38, .load (.t 37), none⟩,
         ⟨some 39, .val (.t 7), none⟩,
         ⟨some 40, .bin .mul (.c (.int .u8 2)) (.t 39), none⟩,
         ⟨some 41, .bin .sub (.t 40) (.c (.int .u8 1)), none⟩,
         ⟨some 42, .bin .andNot (.t 38) (.t 41), none⟩,
         ⟨some 8, .val (.t 42), none⟩] [])
        (.ops 10 false [
         ⟨some 43, .val (.t 5), none⟩,
         ⟨some 44, .val (.t 8), none⟩,
         ⟨some 45, .val (.t 7), none⟩,
         ⟨some 46, .bin .or (.t 44) (.t 45), none⟩,
         ⟨some 47, .buildS 5 1 [(.int .u8 0)] [(0, 1, (.t 46))], none⟩,
         ⟨some 48, .blt .append #[79, 79] 79 [(.t 43), (.t 47)], none⟩,
         ⟨some 5, .val (.t 48), none⟩] [])))))
    (.seq (.block 2 (.loop (.seq (.seq (.ops 11 false [
          ⟨some 49, .val (.t 5), none⟩,
          ⟨some 50, .len (.t 49), none⟩,
          ⟨some 51, .bin .rem (.t 50) (.c (.int .i64 64)), none⟩,
          ⟨some 52, .bin .neq (.t 51) (.c (.int .i64 56)), none⟩] [])
         (.cond (.t 52) (.skip)
          (.exit 2)))
        (.block 3 (.ops 12 false [
          ⟨some 53, .val (.t 5), none⟩,
          ⟨some 54, .buildS 5 1 [(.int .u8 0)] [(0, 1, (.c (.int .u8 0)))], none⟩,
          ⟨some 55, .blt .append #[79, 79] 79 [(.t 53), (.t 54)], none⟩,
          ⟨some 5, .val (.t 55), none⟩] [])))))
     (.seq (.seq (.ops 13 false [
        ⟨some 9, .val (.c (.int .i64 7)), none⟩] [])
       (.block 4 (.loop (.seq (.seq (.ops 14 false [
            ⟨some 56, .val (.t 9), none⟩,
            ⟨some 57, .bin .geq (.t 56) (.c (.int .i64 0)), none⟩] [])
           (.cond (.t 57) (.skip)
            (.exit 4)))
          (.seq (.block 5 (.ops 16 false [
             ⟨some 60, .val (.t 5), none⟩,
             ⟨some 61, .val (.t 1), none⟩,
             ⟨some 62, .conv .u64 (.t 61), none⟩,
             ⟨some 63, .val (.t 9), none⟩,
             ⟨some 64, .bin .mul (.c (.int .i64 8)) (.t 63), none⟩,
             ⟨some 65, .conv .u64 (.t 64), none⟩,
             ⟨some 66, .bin .shr (.t 62) (.t 65), none⟩,
             ⟨some 67, .conv .u8 (.t 66), none⟩,
             ⟨some 68, .buildS 5 1 [(.int .u8 0)] [(0, 1, (.t 67))], none⟩,
             ⟨some 69, .blt .append #[79, 79] 79 [(.t 60), (.t 68)], none⟩,
             ⟨some 5, .val (.t 69), none⟩] []))
           (.ops 15 false [
            ⟨some 58, .val (.t 9), none⟩,
            ⟨some 59, .bin .sub (.t 58) (.c (.int .i64 1)), none⟩,
            ⟨some 9, .val (.t 59), none⟩] []))))))
      (.seq (.ops 17 false [
        ⟨some 70, .val (.t 5), none⟩,
        ⟨some 4, .val (.t 70), none⟩] [])
       (.ret)))))))
def rs139 : List RR := [.tmp 4]
theorem fun139 : FunR Tryd.prog 139 rc139 rs139 71 := ⟨Tryd.f139, Tryd.func139, by kernel_rfl, by kernel_rfl, by kernel_rfl⟩
/-- causeway/causewayref01.taken -/
def rc140 : RC :=
 .seq (.ops 0 false [
  ⟨some 3, .box 216 (.t 0), none⟩,
  ⟨some 6, .alloc 216 (List.replicate 8 (.int .u32 0)), none⟩] [])
 (.seq (.ops 1 false [
   ⟨some 7, .alloc 232 (List.replicate 64 (.int .u32 0)), none⟩] [])
  (.seq (.seq (.ops 2 false [
     ⟨some 8, .val (.c (.int .i64 0)), none⟩] [])
    (.block 0 (.loop (.seq (.seq (.ops 3 false [
         ⟨some 17, .val (.t 8), none⟩,
         ⟨some 18, .bin .lss (.t 17) (.c (.int .i64 16)), none⟩] [])
        (.cond (.t 18) (.skip)
         (.exit 0)))
       (.seq (.block 1 (.ops 5 false [
          ⟨some 21, .val (.t 8), none⟩,
          ⟨some 22, .val (.t 1), none⟩,
          ⟨some 23, .val (.t 2), none⟩,
          ⟨some 24, .val (.t 8), none⟩,
          ⟨some 25, .bin .mul (.c (.int .i64 4)) (.t 24), none⟩,
          ⟨some 26, .bin .add (.t 23) (.t 25), none⟩,
          ⟨some 27, .call 160 [(.t 22), (.t 26)], none⟩,
          ⟨some 28, .indexA 64 1 (.t 7) (.t 21), none⟩,
          ⟨none, .store 1 (.t 28) (.t 27), none⟩] []))
        (.ops 4 false [
         ⟨some 19, .val (.t 8), none⟩,
         ⟨some 20, .bin .add (.t 19) (.c (.int .i64 1)), none⟩,
         ⟨some 8, .val (.t 20), none⟩] []))))))
   (.seq (.seq (.ops 6 false [
      ⟨some 9, .val (.c (.int .i64 16)), none⟩] [])
     (.block 2 (.loop (.seq (.seq (.ops 7 false [
          ⟨some 29, .val (.t 9), none⟩,
          ⟨some 30, .bin .lss (.t 29) (.c (.int .i64 64)), none⟩] [])
         (.cond (.t 30) (.skip)
          (.exit 2)))
        (.seq (.block 3 (.seq (.ops 9 false [
            ⟨some 33, .val (.t 9), none⟩,
            ⟨some 34, .bin .sub (.t 33) (.c (.int .i64 2)), none⟩,
            ⟨some 35, .indexA 64 1 (.t 7) (.t 34), none⟩,
            ⟨some 36, .load (.t 35), none⟩,
            ⟨some 10, .val (.t 36), none⟩] [])
           (.seq (.ops 10 false [
             ⟨some 37, .val (.t 9), none⟩,
             ⟨some 38, .bin .sub (.t 37) (.c (.int .i64 15)), none⟩,
             ⟨some 39, .indexA 64 1 (.t 7) (.t 38), none⟩,
             ⟨some 40, .load (.t 39), none⟩,
             ⟨some 11, .val (.t 40), none⟩] [])
            (.seq (.ops 11 false [
              ⟨some 41, .val (.t 10), none⟩,
              ⟨some 42, .call 161 [(.t 41), (.c (.int .u32 17))], none⟩,
              ⟨some 43, .val (.t 10), none⟩,
              ⟨some 44, .call 161 [(.t 43), (.c (.int .u32 19))], none⟩,
              ⟨some 45, .bin .xor (.t 42) (.t 44), none⟩,
              ⟨some 46, .val (.t 10), none⟩,
              ⟨some 47, .bin .shr (.t 46) (.c (.int .u64 10)), none⟩,
              ⟨some 48, .bin .xor (.t 45) (.t 47), none⟩,
              ⟨some 10, .val (.t 48), none⟩] [])
             (.seq (.ops 12 false [
               ⟨some 49, .val (.t 11), none⟩,
               ⟨some 50, .call 161 [(.t 49), (.c (.int .u32 7))], none⟩,
               ⟨some 51, .val (.t 11), none⟩,
               ⟨some 52, .call 161 [(.t 51), (.c (.int .u32 18))], none⟩,
               ⟨some 53, .bin .xor (.t 50) (.t 52), none⟩,
               ⟨some 54, .val (.t 11), none⟩,
               ⟨some 55, .bin .shr (.t 54) (.c (.int .u64 3)), none⟩,
               ⟨some 56, .bin .xor (.t 53) (.t 55), none⟩,
               ⟨some 11, .val (.t 56), none⟩] [])
              (.ops 13 true [
               ⟨some 57, .val (.t 9), none⟩,
               ⟨some 58, .val (.t 10), none⟩,
               ⟨some 59, .val (.t 9), none⟩,
               ⟨some 60, .bin .sub (.t 59) (.c (.int .i64 7)), none⟩,
               ⟨some 61, .indexA 64 1 (.t 7) (.t 60), none⟩,
               ⟨some 62, .load (.t 61), none⟩,
               ⟨some 63, .bin .add (.t 58) (.t 62), none⟩,
               ⟨some 64, .val (.t 11), none⟩,
               ⟨some 65, .bin .add (.t 63) (.t 64), none⟩,
               ⟨some 66, .val (.t 9), none⟩,
               ⟨some 67, .bin .sub (.t 66) (.c (.int .i64 16)), none⟩,
               ⟨some 68, .indexA 64 1 (.t 7) (.t 67), none⟩,
               ⟨some 69, .load (.t 68), none⟩,
               ⟨some 70, .bin .add (.t 65) (.t 69), none⟩,
               ⟨some 71, .indexA 64 1 (.t 7) (.t 57), none⟩,
               ⟨none, .store 1 (.t 71) (.t 70), none⟩] [([], []), ([], []), ([], []), ([2], [2]), ([3], [3]), ([4], [4]), ([1, 5], [1, 5]), ([], []), ([6, 7], [6, 7]), ([], []), ([9], [9]), ([10], [10]), ([11], [11]), ([8, 12], [8, 12]), ([0, 0, 1, 2, 3, 4, 5, 6, 7, 8, 9, 10, 11, 12, 13], [0]), ([14, 13, 0, 1, 2, 3, 4, 5, 6, 7, 8, 9, 10, 11, 12, 13], [13, 14])]))))))
         (.ops 8 false [
          ⟨some 31, .val (.t 9), none⟩,
          ⟨some 32, .bin .add (.t 31) (.c (.int .i64 1)), none⟩,
          ⟨some 9, .val (.t 32), none⟩] []))))))
    (.seq (.ops 14 false [
      ⟨some 72, .loadN 8 (.t 3), none⟩,
      ⟨some 12, .alloc 216 (List.replicate 8 (.int .u32 0)), none⟩,
      ⟨none, .store 8 (.t 12) (.t 72), none⟩] [])
     (.seq (.seq (.ops 15 false [
        ⟨some 13, .val (.c (.int .i64 0)), none⟩] [])
       (.block 4 (.loop (.seq (.seq (.ops 16 false [
            ⟨some 73, .val (.t 13), none⟩,
            ⟨some 74, .bin .lss (.t 73) (.c (.int .i64 64)), none⟩] [])
           (.cond (.t 74) (.skip)
            (.exit 4)))
          (.seq (.block 5 (.seq (.ops 18 true [
              ⟨some 77, .indexA 8 1 (.t 12) (.c (.int .i64 4)), none⟩,
              ⟨some 78, .load (.t 77), none⟩,
              ⟨some 79, .call 161 [(.t 78), (.c (.int .u32 6))], none⟩,
              ⟨some 80, .indexA 8 1 (.t 12) (.c (.int .i64 4)), none⟩,
              ⟨some 81, .load (.t 80), none⟩,
              ⟨some 82, .call 161 [(.t 81), (.c (.int .u32 11))], none⟩,
              ⟨some 83, .bin .xor (.t 79) (.t 82), none⟩,
              ⟨some 84, .indexA 8 1 (.t 12) (.c (.int .i64 4)), none⟩,
              ⟨some 85, .load (.t 84), none⟩,
              ⟨some 86, .call 161 [(.t 85), (.c (.int .u32 25))], none⟩,
              ⟨some 87, .bin .xor (.t 83) (.t 86), none⟩,
              ⟨some 14, .val (.t 87), none⟩] [([], []), ([0], [0]), ([1], [1]), ([], []), ([3], [3]), ([4, 2], [4]), ([2, 5], [2, 5]), ([], []), ([7], [7]), ([8, 5], [8]), ([6, 9], [6, 9]), ([10, 9, 0, 1, 2, 3, 4, 5, 6, 7, 8, 9, 10], [10])])
             (.seq (.ops 19 true [
               ⟨some 88, .val (.t 14), none⟩,
               ⟨some 89, .indexA 8 1 (.t 12) (.c (.int .i64 7)), none⟩,
               ⟨some 90, .load (.t 89), none⟩,
               ⟨some 91, .bin .add (.t 88) (.t 90), none⟩,
               ⟨some 92, .indexA 8 1 (.t 12) (.c (.int .i64 4)), none⟩,
               ⟨some 93, .load (.t 92), none⟩,
               ⟨some 94, .indexA 8 1 (.t 12) (.c (.int .i64 5)), none⟩,
               ⟨some 95, .load (.t 94), none⟩,
               ⟨some 96, .bin .and (.t 93) (.t 95), none⟩,
               ⟨some 97, .indexA 8 1 (.t 12) (.c (.int .i64 4)), none⟩,
               ⟨some 98, .load (.t 97), none⟩,
               ⟨some 99, .bnot (.t 98), none⟩,
               ⟨some 100, .indexA 8 1 (.t 12) (.c (.int .i64 6)), none⟩,
               ⟨some 101, .load (.t 100), none⟩,
               ⟨some 102, .bin .and (.t 99) (.t 101), none⟩,
               ⟨some 103, .bin .xor (.t 96) (.t 102), none⟩,
               ⟨some 104, .bin .add (.t 91) (.t 103), none⟩,
               ⟨some 105, .val (.t 13), none⟩,
               ⟨some 106, .indexA 64 1 (.c (.pointer (some ⟨1, 0, none⟩))) (.t 105), none⟩,
               ⟨some 107, .load (.t 106), none⟩,
               ⟨some 108, .bin .add (.t 104) (.t 107), none⟩,
               ⟨some 109, .val (.t 13), none⟩,
               ⟨some 110, .indexA 64 1 (.t 7) (.t 109), none⟩,
               ⟨some 111, .load (.t 110), none⟩,
               ⟨some 112, .bin .add (.t 108) (.t 111), none⟩,
               ⟨some 14, .val (.t 112), none⟩] [([], []), ([], []), ([1], [1]), ([0, 2], [0, 2]), ([], []), ([4], [4]), ([], []), ([6], [6]), ([5, 7], [5, 7]), ([], []), ([9], [9]), ([10], [10]), ([], []), ([12], [12]), ([11, 13], [11, 13]), ([8, 14], [8, 14]), ([3, 15], [3, 15]), ([], []), ([17], [17]), ([18], [18]), ([16, 19], [16, 19]), ([], []), ([21], [21]), ([22], [22]), ([20, 23], [20, 23]), ([24, 0, 1, 2, 3, 4, 5, 6, 7, 8, 9, 10, 11, 12, 13, 14, 15, 16, 17, 18, 19, 20, 21, 22, 23, 24], [0, 24])])
              (.seq (.ops 20 true [
                ⟨some 113, .indexA 8 1 (.t 12) (.c (.int .i64 0)), none⟩,
                ⟨some 114, .load (.t 113), none⟩,
                ⟨some 115, .call 161 [(.t 114), (.c (.int .u32 2))], none⟩,
                ⟨some 116, .indexA 8 1 (.t 12) (.c (.int .i64 0)), none⟩,
                ⟨some 117, .load (.t 116), none⟩,
                ⟨some 118, .call 161 [(.t 117), (.c (.int .u32 13))], none⟩,
                ⟨some 119, .bin .xor (.t 115) (.t 118), none⟩,
                ⟨some 120, .indexA 8 1 (.t 12) (.c (.int .i64 0)), none⟩,
                ⟨some 121, .load (.t 120), none⟩,
                ⟨some 122, .call 161 [(.t 121), (.c (.int .u32 22))], none⟩,
                ⟨some 123, .bin .xor (.t 119) (.t 122), none⟩,
                ⟨some 15, .val (.t 123), none⟩] [([], []), ([0], [0]), ([1], [1]), ([], []), ([3], [3]), ([4, 2], [4]), ([2, 5], [2, 5]), ([], []), ([7], [7]), ([8, 5], [8]), ([6, 9], [6, 9]), ([10, 9, 0, 1, 2, 3, 4, 5, 6, 7, 8, 9, 10], [10])])
               (.seq (.ops 21 false [
                 ⟨some 124, .val (.t 15), none⟩,
                 ⟨some 125, .indexA 8 1 (.t 12) (.c (.int .i64 0)), none⟩,
                 ⟨some 126, .load (.t 125), none⟩,
                 ⟨some 127, .indexA 8 1 (.t 12) (.c (.int .i64 1)), none⟩,
                 ⟨some 128, .load (.t 127), none⟩,
                 ⟨some 129, .bin .and (.t 126) (.t 128), none⟩,
                 ⟨some 130, .indexA 8 1 (.t 12) (.c (.int .i64 0)), none⟩,
                 ⟨some 131, .load (.t 130), none⟩,
                 ⟨some 132, .indexA 8 1 (.t 12) (.c (.int .i64 2)), none⟩,
                 ⟨some 133, .load (.t 132), none⟩,
                 ⟨some 134, .bin .and (.t 131) (.t 133), none⟩,
                 ⟨some 135, .bin .xor (.t 129) (.t 134), none⟩,
                 ⟨some 136, .indexA 8 1 (.t 12) (.c (.int .i64 1)), none⟩,
                 ⟨some 137, .load (.t 136), none⟩,
                 ⟨some 138, .indexA 8 1 (.t 12) (.c (.int .i64 2)), none⟩,
                 ⟨some 139, .load (.t 138), none⟩,
                 ⟨some 140, .bin .and (.t 137) (.t 139), none⟩,
                 ⟨some 141, .bin .xor (.t 135) (.t 140), none⟩,
                 ⟨some 142, .bin .add (.t 124) (.t 141), none⟩,
                 ⟨some 15, .val (.t 142), none⟩] [])
                (.seq (.ops 22 false [
                  ⟨some 143, .indexA 8 1 (.t 12) (.c (.int .i64 6)), none⟩,
                  ⟨some 144, .load (.t 143), none⟩,
                  ⟨some 145, .indexA 8 1 (.t 12) (.c (.int .i64 7)), none⟩,
                  ⟨none, .store 1 (.t 145) (.t 144), none⟩] [])
                 (.seq (.ops 23 false [
                   ⟨some 146, .indexA 8 1 (.t 12) (.c (.int .i64 5)), none⟩,
                   ⟨some 147, .load (.t 146), none⟩,
                   ⟨some 148, .indexA 8 1 (.t 12) (.c (.int .i64 6)), none⟩,
                   ⟨none, .store 1 (.t 148) (.t 147), none⟩] [])
                  (.seq (.ops 24 false [
                    ⟨some 149, .indexA 8 1 (.t 12) (.c (.int .i64 4)), none⟩,
                    ⟨some 150, .load (.t 149), none⟩,
                    ⟨some 151, .indexA 8 1 (.t 12) (.c (.int .i64 5)), none⟩,
                    ⟨none, .store 1 (.t 151) (.t 150), none⟩] [])
                   (.seq (.ops 25 false [
                     ⟨some 152, .indexA 8 1 (.t 12) (.c (.int .i64 3)), none⟩,
                     ⟨some 153, .load (.t 152), none⟩,
                     ⟨some 154, .val (.t 14), none⟩,
                     ⟨some 155, .bin .add (.t 153) (.t 154), none⟩,
                     ⟨some 156, .indexA 8 1 (.t 12) (.c (.int .i64 4)), none⟩,
                     ⟨none, .store 1 (.t 156) (.t 155), none⟩] [])
                    (.seq (.ops 26 false [
                      ⟨some 157, .indexA 8 1 (.t 12) (.c (.int .i64 2)), none⟩,
                      ⟨some 158, .load (.t 157), none⟩,
                      ⟨some 159, .indexA 8 1 (.t 12) (.c (.int .i64 3)), none⟩,
                      ⟨none, .store 1 (.t 159) (.t 158), none⟩] [])
                     (.seq (.ops 27 false [
                       ⟨some 160, .indexA 8 1 (.t 12) (.c (.int .i64 1)), none⟩,
                       ⟨some 161, .load (.t 160), none⟩,
                       ⟨some 162, .indexA 8 1 (.t 12) (.c (.int .i64 2)), none⟩,
                       ⟨none, .store 1 (.t 162) (.t 161), none⟩] [])
                      (.seq (.ops 28 false [
                        ⟨some 163, .indexA 8 1 (.t 12) (.c (.int .i64 0)), none⟩,
                        ⟨some 164, .load (.t 163), none⟩,
                        ⟨some 165, .indexA 8 1 (.t 12) (.c (.int .i64 1)), none⟩,
                        ⟨none, .store 1 (.t 165) (.t 164), none⟩] [])
                       (.ops 29 false [
                        ⟨some 166, .val (.t 14), none⟩,
                        ⟨some 167, .val (.t 15), none⟩,
                        ⟨some 168, .bin .add (.t 166) (.t 167), none⟩,
                        ⟨some 169, .indexA 8 1 (.t 12) (.c (.int .i64 0)), none⟩,
                        ⟨none, .store 1 (.t 169) (.t 168), none⟩] [])))))))))))))
           (.ops 17 false [
            ⟨some 75, .val (.t 13), none⟩,
            ⟨some 76, .bin .add (.t 75) (.c (.int .i64 1)), none⟩,
            ⟨some 13, .val (.t 76), none⟩] []))))))
      (.seq (.seq (.ops 30 false [
         ⟨some 16, .val (.c (.int .i64 0)), none⟩] [])
        (.block 6 (.loop (.seq (.seq (.ops 31 false [
             ⟨some 170, .val (.t 16), none⟩,
             ⟨some 171, .bin .lss (.t 170) (.c (.int .i64 8)), none⟩] [])
            (.cond (.t 171) (.skip)
             (.exit 6)))
           (.seq (.block 7 (.ops 33 true [
              ⟨some 174, .val (.t 16), none⟩,
              ⟨some 175, .val (.t 16), none⟩,
              ⟨some 176, .indexA 8 1 (.t 12) (.t 175), none⟩,
              ⟨some 177, .load (.t 176), none⟩,
              ⟨some 178, .val (.t 16), none⟩,
              ⟨some 179, .indexA 8 1 (.t 3) (.t 178), none⟩,
              ⟨some 180, .load (.t 179), none⟩,
              ⟨some 181, .bin .add (.t 177) (.t 180), none⟩,
              ⟨some 182, .indexA 8 1 (.t 12) (.t 174), none⟩,
              ⟨none, .store 1 (.t 182) (.t 181), none⟩] [([], []), ([], []), ([1], [1]), ([2], [2]), ([], []), ([4], [4]), ([5], [5]), ([3, 6], [3, 6]), ([0, 0, 1, 2, 3, 4, 5, 6, 7], [0]), ([8, 7, 0, 1, 2, 3, 4, 5, 6, 7], [7, 8])]))
            (.ops 32 false [
             ⟨some 172, .val (.t 16), none⟩,
             ⟨some 173, .bin .add (.t 172) (.c (.int .i64 1)), none⟩,
             ⟨some 16, .val (.t 173), none⟩] []))))))
       (.seq (.ops 34 false [
         ⟨some 183, .loadN 8 (.t 12), none⟩,
         ⟨none, .store 8 (.t 6) (.t 183), none⟩] [])
        (.ret))))))))
def rs140 : List RR := [.cell 6 (some 8)]
theorem fun140 : FunR Tryd.prog 140 rc140 rs140 184 := ⟨Tryd.f140, Tryd.func140, by kernel_rfl, by kernel_rfl, by kernel_rfl⟩
/-- causeway/causewayref03.bare -/
def rc141 : RC :=
 .seq (.ops 0 false [
  ⟨some 2, .val (.c (.slice none 0 0)), none⟩] [])
 (.seq (.seq (.ops 1 false [
    ⟨some 3, .val (.c (.int .i64 0)), none⟩] [])
   (.block 0 (.loop (.seq (.seq (.ops 2 false [
        ⟨some 4, .val (.t 3), none⟩,
        ⟨some 5, .val (.t 0), none⟩,
        ⟨some 6, .len (.t 5), none⟩,
        ⟨some 7, .bin .lss (.t 4) (.t 6), none⟩] [])
       (.cond (.t 7) (.skip)
        (.exit 0)))
      (.seq (.block 1 (.seq (.ops 4 false [
          ⟨some 10, .val (.t 0), none⟩,
          ⟨some 11, .val (.t 3), none⟩,
          ⟨some 12, .indexS 1 (.t 10) (.t 11), none⟩,
          ⟨some 13, .load (.t 12), none⟩,
          ⟨some 14, .bin .neq (.t 13) (.c (.int .u8 0)), none⟩] [])
         (.cond (.t 14) (.seq (.ops 5 false [
            ⟨some 15, .val (.t 0), none⟩,
            ⟨some 16, .val (.t 3), none⟩,
            ⟨some 17, .slice 1 (.t 15) (some (.t 16)) none none, none⟩,
            ⟨some 2, .val (.t 17), none⟩] [])
           (.ret))
          (.skip))))
       (.ops 3 false [
        ⟨some 8, .val (.t 3), none⟩,
        ⟨some 9, .bin .add (.t 8) (.c (.int .i64 1)), none⟩,
        ⟨some 3, .val (.t 9), none⟩] []))))))
  (.seq (.ops 6 false [
    ⟨some 2, .val (.c (.slice none 0 0)), none⟩] [])
   (.ret)))
def rs141 : List RR := [.tmp 2]
theorem fun141 : FunR Tryd.prog 141 rc141 rs141 18 := ⟨Tryd.f141, Tryd.func141, by kernel_rfl, by kernel_rfl, by kernel_rfl⟩
/-- causeway/causewayref03.Plain -/
def rc142 : RC :=
 .seq (.ops 0 false [
  ⟨some 1, .box 30 (.t 0), none⟩,
  ⟨some 2, .val (.c (.slice none 0 0)), none⟩] [])
 (.seq (.ops 1 false [
   ⟨some 7, .mkS 79 (.c (.int .i64 32)) (.c (.int .i64 32)), none⟩,
   ⟨some 3, .val (.t 7), none⟩] [])
  (.seq (.seq (.ops 2 false [
     ⟨some 4, .val (.c (.int .i64 0)), none⟩] [])
    (.block 0 (.loop (.seq (.seq (.ops 3 false [
         ⟨some 8, .val (.t 4), none⟩,
         ⟨some 9, .bin .lss (.t 8) (.c (.int .i64 4)), none⟩] [])
        (.cond (.t 9) (.skip)
         (.exit 0)))
       (.seq (.block 1 (.seq (.ops 5 false [
           ⟨some 12, .val (.t 4), none⟩,
           ⟨some 13, .indexA 4 1 (.t 1) (.t 12), none⟩,
           ⟨some 14, .load (.t 13), none⟩,
           ⟨some 5, .val (.t 14), none⟩] [])
          (.seq (.ops 6 false [
            ⟨some 6, .val (.c (.int .i64 0)), none⟩] [])
           (.block 2 (.loop (.seq (.seq (.ops 7 false [
                ⟨some 15, .val (.t 6), none⟩,
                ⟨some 16, .bin .lss (.t 15) (.c (.int .i64 8)), none⟩] [])
               (.cond (.t 16) (.skip)
                (.exit 2)))
              (.seq (.block 3 (.seq (.ops 9 false [
                  ⟨some 19, .val (.t 3), none⟩,
                  ⟨some 20, .val (.t 4), none⟩,
                  ⟨some 21, .bin .mul (.c (.int .i64 8)) (.t 20), none⟩,
                  ⟨some 22, .bin .sub (.c (.int .i64 31)) (.t 21), none⟩,
                  ⟨some 23, .val (.t 6), none⟩,
                  ⟨some 24, .bin .sub (.t 22) (.t 23), none⟩,
                  ⟨some 25, .val (.t 5), none⟩,
                  ⟨some 26, .bin .rem (.t 25) (.c (.int .u64 256)), none⟩,
                  ⟨some 27, .conv .u8 (.t 26), none⟩,
                  ⟨some 28, .indexS 1 (.t 19) (.t 24), none⟩,
                  ⟨none, .store 1 (.t 28) (.t 27), none⟩] [])
                 (.ops 10 false [
                  ⟨some 29, .val (.t 5), none⟩,
                  ⟨some 30, .bin .quo (.t 29) (.c (.int .u64 256)), none⟩,
                  ⟨some 5, .val (.t 30), none⟩] [])))
               (.ops 8 false [
                ⟨some 17, .val (.t 6), none⟩,
                ⟨some 18, .bin .add (.t 17) (.c (.int .i64 1)), none⟩,
                ⟨some 6, .val (.t 18), none⟩] []))))))))
        (.ops 4 false [
         ⟨some 10, .val (.t 4), none⟩,
         ⟨some 11, .bin .add (.t 10) (.c (.int .i64 1)), none⟩,
         ⟨some 4, .val (.t 11), none⟩] []))))))
   (.seq (.ops 11 false [
     ⟨some 31, .val (.t 3), none⟩,
     ⟨some 2, .val (.t 31), none⟩] [])
    (.ret))))
def rs142 : List RR := [.tmp 2]
theorem fun142 : FunR Tryd.prog 142 rc142 rs142 32 := ⟨Tryd.f142, Tryd.func142, by kernel_rfl, by kernel_rfl, by kernel_rfl⟩
/-- causeway/digest.New -/
def rc155 : RC :=
 .seq (.ops 0 false [
  ⟨some 0, .val (.c (.pointer none)), none⟩] [])
 (.seq (.ops 1 false [
   ⟨some 1, .call 171 [], none⟩,
   ⟨some 2, .build [(.int .u32 0), (.int .u32 0), (.int .u32 0), (.int .u32 0), (.int .u32 0), (.int .u32 0), (.int .u32 0), (.int .u32 0), (.int .u8 0), (.int .u8 0), (.int .u8 0), (.int .u8 0), (.int .u8 0), (.int .u8 0), (.int .u8 0), (.int .u8 0), (.int .u8 0), (.int .u8 0), (.int .u8 0), (.int .u8 0), (.int .u8 0), (.int .u8 0), (.int .u8 0), (.int .u8 0), (.int .u8 0), (.int .u8 0), (.int .u8 0), (.int .u8 0), (.int .u8 0), (.int .u8 0), (.int .u8 0), (.int .u8 0), (.int .u8 0), (.int .u8 0), (.int .u8 0), (.int .u8 0), (.int .u8 0), (.int .u8 0), (.int .u8 0), (.int .u8 0), (.int .u8 0), (.int .u8 0), (.int .u8 0), (.int .u8 0), (.int .u8 0), (.int .u8 0), (.int .u8 0), (.int .u8 0), (.int .u8 0), (.int .u8 0), (.int .u8 0), (.int .u8 0), (.int .u8 0), (.int .u8 0), (.int .u8 0), (.int .u8 0), (.int .u8 0), (.int .u8 0), (.int .u8 0), (.int .u8 0), (.int .u8 0), (.int .u8 0), (.int .u8 0), (.int .u8 0), (.int .u8 0), (.int .u8 0), (.int .u8 0), (.int .u8 0), (.int .u8 0), (.int .u8 0), (.int .u8 0), (.int .u8 0), (.int .i64 0)] [(0, 8, (.t 1))], none⟩,
   ⟨some 3, .box 245 (.t 2), none⟩,
   ⟨some 0, .val (.t 3), none⟩] [])
  (.ret))
def rs155 : List RR := [.tmp 0]
theorem fun155 : FunR Tryd.prog 155 rc155 rs155 4 := ⟨Tryd.f155, Tryd.func155, by kernel_rfl, by kernel_rfl, by kernel_rfl⟩
/-- (*causeway/digest.Hasher).Write -/
def rc156 : RC :=
 .block 0 (.loop (.seq (.seq (.ops 0 false [
     ⟨some 6, .val (.t 1), none⟩,
     ⟨some 7, .len (.t 6), none⟩,
     ⟨some 8, .bin .gtr (.t 7) (.c (.int .i64 0)), none⟩] [])
    (.cond (.t 8) (.skip)
     (.exit 0)))
   (.block 1 (.seq (.ops 1 false [
      ⟨some 9, .val (.t 0), none⟩,
      ⟨some 10, .nilCheck (.t 9), none⟩,
      ⟨some 11, .fieldA 72 (.t 10), none⟩,
      ⟨some 12, .load (.t 11), none⟩,
      ⟨some 13, .bin .rem (.t 12) (.c (.int .i64 64)), none⟩,
      ⟨some 4, .val (.t 13), none⟩] [])
     (.seq (.ops 2 false [
       ⟨some 14, .val (.t 0), none⟩,
       ⟨some 15, .nilCheck (.t 14), none⟩,
       ⟨some 16, .fieldA 8 (.t 15), none⟩,
       ⟨some 17, .val (.t 4), none⟩,
       ⟨some 18, .sliceA 64 1 (.t 16) (some (.t 17)) none, none⟩,
       ⟨some 19, .val (.t 1), none⟩,
       ⟨some 20, .blt .copy #[79, 79] 3 [(.t 18), (.t 19)], none⟩,
       ⟨some 5, .val (.t 20), none⟩] [])
      (.seq (.ops 3 false [
        ⟨some 21, .val (.t 1), none⟩,
        ⟨some 22, .val (.t 5), none⟩,
        ⟨some 23, .slice 1 (.t 21) (some (.t 22)) none none, none⟩,
        ⟨some 1, .val (.t 23), none⟩] [])
       (.seq (.ops 4 false [
         ⟨some 24, .val (.t 0), none⟩,
         ⟨some 25, .nilCheck (.t 24), none⟩,
         ⟨some 26, .fieldA 72 (.t 25), none⟩,
         ⟨some 27, .load (.t 26), none⟩,
         ⟨some 28, .val (.t 5), none⟩,
         ⟨some 29, .bin .add (.t 27) (.t 28), none⟩,
         ⟨some 30, .nilCheck (.t 24), none⟩,
         ⟨some 31, .fieldA 72 (.t 30), none⟩,
         ⟨none, .store 1 (.t 31) (.t 29), none⟩] [])
        (.seq (.ops 5 false [
          ⟨some 32, .val (.t 4), none⟩,
          ⟨some 33, .val (.t 5), none⟩,
          ⟨some 34, .bin .add (.t 32) (.t 33), none⟩,
          ⟨some 35, .bin .eql (.t 34) (.c (.int .i64 64)), none⟩] [])
         (.cond (.t 35) (.ops 6 true [
           ⟨some 36, .val (.t 0), none⟩,
           ⟨some 37, .val (.t 0), none⟩,
           ⟨some 38, .nilCheck (.t 37), none⟩,
           ⟨some 39, .fieldA 0 (.t 38), none⟩,
           ⟨some 40, .loadN 8 (.t 39), none⟩,
           ⟨some 41, .val (.t 0), none⟩,
           ⟨some 42, .nilCheck (.t 41), none⟩,
           ⟨some 43, .fieldA 8 (.t 42), none⟩,
           ⟨some 44, .loadN 64 (.t 43), none⟩,
           ⟨some 45, .call 172 [(.t 40), (.t 44)], none⟩,
           ⟨some 46, .nilCheck (.t 36), none⟩,
           ⟨some 47, .fieldA 0 (.t 46), none⟩,
           ⟨none, .store 8 (.t 47) (.t 45), none⟩] [([], []), ([], []), ([1], [1]), ([2], [2]), ([3], [3]), ([], []), ([5], [5]), ([6], [6]), ([7], [7]), ([4, 8], [4, 8]), ([0, 0, 1, 2, 3, 4, 5, 6, 7, 8, 9], [0]), ([10, 0, 1, 2, 3, 4, 5, 6, 7, 8, 9], [10]), ([11, 9, 9, 0, 1, 2, 3, 4, 5, 6, 7, 8, 9], [9, 11])])
          (.skip))))))))))
def rs156 : List RR := []
theorem fun156 : FunR Tryd.prog 156 rc156 rs156 48 := ⟨Tryd.f156, Tryd.func156, by kernel_rfl, by kernel_rfl, by kernel_rfl⟩
/-- (*causeway/digest.Hasher).Sum -/
def rc157 : RC :=
 .seq (.ops 0 false [
  ⟨some 2, .alloc 25 (List.replicate 32 (.int .u8 0)), none⟩] [])
 (.seq (.ops 1 false [
   ⟨some 3, .val (.t 0), none⟩,
   ⟨some 4, .call 173 [(.t 3), (.c (.int .u8 0)), (.c (.int .i64 0))], none⟩,
   ⟨none, .store 32 (.t 2) (.t 4), none⟩] [])
  (.ret))
def rs157 : List RR := [.cell 2 (some 32)]
theorem fun157 : FunR Tryd.prog 157 rc157 rs157 5 := ⟨Tryd.f157, Tryd.func157, by kernel_rfl, by kernel_rfl, by kernel_rfl⟩
/-- math/bits.Len64 -/
def rc159 : RC :=
 .seq (.ops 0 false [
  ⟨some 2, .val (.c (.int .i64 0)), none⟩] [])
 (.seq (.seq (.ops 1 false [
    ⟨some 3, .val (.t 0), none⟩,
    ⟨some 4, .bin .geq (.t 3) (.c (.int .u64 4294967296)), none⟩] [])
   (.cond (.t 4) (.seq (.ops 2 false [
      ⟨some 5, .val (.t 0), none⟩,
      ⟨some 6, .bin .shr (.t 5) (.c (.int .u64 32)), none⟩,
      ⟨some 0, .val (.t 6), none⟩] [])
     (.ops 3 false [
      ⟨some 2, .val (.c (.int .i64 32)), none⟩] []))
    (.skip)))
  (.seq (.seq (.ops 4 false [
     ⟨some 7, .val (.t 0), none⟩,
     ⟨some 8, .bin .geq (.t 7) (.c (.int .u64 65536)), none⟩] [])
    (.cond (.t 8) (.seq (.ops 5 false [
       ⟨some 9, .val (.t 0), none⟩,
       ⟨some 10, .bin .shr (.t 9) (.c (.int .u64 16)), none⟩,
       ⟨some 0, .val (.t 10), none⟩] [])
      (.ops 6 false [
       ⟨some 11, .val (.t 2), none⟩,
       ⟨some 12, .bin .add (.t 11) (.c (.int .i64 16)), none⟩,
       ⟨some 2, .val (.t 12), none⟩] []))
     (.skip)))
   (.seq (.seq (.ops 7 false [
      ⟨some 13, .val (.t 0), none⟩,
      ⟨some 14, .bin .geq (.t 13) (.c (.int .u64 256)), none⟩] [])
     (.cond (.t 14) (.seq (.ops 8 false [
        ⟨some 15, .val (.t 0), none⟩,
        ⟨some 16, .bin .shr (.t 15) (.c (.int .u64 8)), none⟩,
        ⟨some 0, .val (.t 16), none⟩] [])
       (.ops 9 false [
        ⟨some 17, .val (.t 2), none⟩,
        ⟨some 18, .bin .add (.t 17) (.c (.int .i64 8)), none⟩,
        ⟨some 2, .val (.t 18), none⟩] []))
      (.skip)))
    (.seq (.ops 10 false [
      ⟨some 19, .val (.t 2), none⟩,
      ⟨some 20, .val (.t 0), none⟩,
      ⟨some 21, .conv .u8 (.t 20), none⟩,
      ⟨some 22, .idx 9 (.c (.string ⟨#[0, 1, 2, 2, 3, 3, 3, 3, 4, 4, 4, 4, 4, 4, 4, 4, 5, 5, 5, 5, 5, 5, 5, 5, 5, 5, 5, 5, 5, 5, 5, 5, 6, 6, 6, 6, 6, 6, 6, 6, 6, 6, 6, 6, 6, 6, 6, 6, 6, 6, 6, 6, 6, 6, 6, 6, 6, 6, 6, 6, 6, 6, 6, 6, 7, 7, 7, 7, 7, 7, 7, 7, 7, 7, 7, 7, 7, 7, 7, 7, 7, 7, 7, 7, 7, 7, 7, 7, 7, 7, 7, 7, 7, 7, 7, 7, 7, 7, 7, 7, 7, 7, 7, 7, 7, 7, 7, 7, 7, 7, 7, 7, 7, 7, 7, 7, 7, 7, 7, 7, 7, 7, 7, 7, 7, 7, 7, 7, 8, 8, 8, 8, 8, 8, 8, 8, 8, 8, 8, 8, 8, 8, 8, 8, 8, 8, 8, 8, 8, 8, 8, 8, 8, 8, 8, 8, 8, 8, 8, 8, 8, 8, 8, 8, 8, 8, 8, 8, 8, 8, 8, 8, 8, 8, 8, 8, 8, 8, 8, 8, 8, 8, 8, 8, 8, 8, 8, 8, 8, 8, 8, 8, 8, 8, 8, 8, 8, 8, 8, 8, 8, 8, 8, 8, 8, 8, 8, 8, 8, 8, 8, 8, 8, 8, 8, 8, 8, 8, 8, 8, 8, 8, 8, 8, 8, 8, 8, 8, 8, 8, 8, 8, 8, 8, 8, 8, 8, 8, 8, 8, 8, 8, 8, 8, 8, 8, 8, 8, 8, 8, 8, 8, 8, 8, 8, 8]⟩)) (.t 21), none⟩,
      ⟨some 23, .conv .i64 (.t 22), none⟩,
      ⟨some 24, .bin .add (.t 19) (.t 23), none⟩,
      ⟨some 2, .val (.t 24), none⟩] [])
     (.ret)))))
def rs159 : List RR := [.tmp 2]
theorem fun159 : FunR Tryd.prog 159 rc159 rs159 25 := ⟨Tryd.f159, Tryd.func159, by kernel_rfl, by kernel_rfl, by kernel_rfl⟩
/-- causeway/causewayref01.word -/
def rc160 : RC :=
 .seq (.ops 0 false [
  ⟨some 4, .val (.c (.int .u32 0)), none⟩] [])
 (.seq (.ops 1 true [
   ⟨some 5, .val (.t 0), none⟩,
   ⟨some 6, .val (.t 1), none⟩,
   ⟨some 7, .indexS 1 (.t 5) (.t 6), none⟩,
   ⟨some 8, .load (.t 7), none⟩,
   ⟨some 9, .conv .u32 (.t 8), none⟩,
   ⟨some 10, .bin .shl (.t 9) (.c (.int .u64 24)), none⟩,
   ⟨some 11, .val (.t 0), none⟩,
   ⟨some 12, .val (.t 1), none⟩,
   ⟨some 13, .bin .add (.t 12) (.c (.int .i64 1)), none⟩,
   ⟨some 14, .indexS 1 (.t 11) (.t 13), none⟩,
   ⟨some 15, .load (.t 14), none⟩,
   ⟨some 16, .conv .u32 (.t 15), none⟩,
   ⟨some 17, .bin .shl (.t 16) (.c (.int .u64 16)), none⟩,
   ⟨some 18, .bin .or (.t 10) (.t 17), none⟩,
   ⟨some 19, .val (.t 0), none⟩,
   ⟨some 20, .val (.t 1), none⟩,
   ⟨some 21, .bin .add (.t 20) (.c (.int .i64 2)), none⟩,
   ⟨some 22, .indexS 1 (.t 19) (.t 21), none⟩,
   ⟨some 23, .load (.t 22), none⟩,
   ⟨some 24, .conv .u32 (.t 23), none⟩,
   ⟨some 25, .bin .shl (.t 24) (.c (.int .u64 8)), none⟩,
   ⟨some 26, .bin .or (.t 18) (.t 25), none⟩,
   ⟨some 27, .val (.t 0), none⟩,
   ⟨some 28, .val (.t 1), none⟩,
   ⟨some 29, .bin .add (.t 28) (.c (.int .i64 3)), none⟩,
   ⟨some 30, .indexS 1 (.t 27) (.t 29), none⟩,
   ⟨some 31, .load (.t 30), none⟩,
   ⟨some 32, .conv .u32 (.t 31), none⟩,
   ⟨some 33, .bin .or (.t 26) (.t 32), none⟩,
   ⟨some 4, .val (.t 33), none⟩] [([], []), ([], []), ([0, 1], [0, 1]), ([2], [2]), ([3], [3]), ([4], [4]), ([], []), ([], []), ([7], [7]), ([6, 8], [6, 8]), ([9], [9]), ([10], [10]), ([11], [11]), ([5, 12], [5, 12]), ([], []), ([], []), ([15], [15]), ([14, 16], [14, 16]), ([17], [17]), ([18], [18]), ([19], [19]), ([13, 20], [13, 20]), ([], []), ([], []), ([23], [23]), ([22, 24], [22, 24]), ([25], [25]), ([26], [26]), ([21, 27], [21, 27]), ([28, 0, 1, 2, 3, 4, 5, 6, 7, 8, 9, 10, 11, 12, 13, 14, 15, 16, 17, 18, 19, 20, 21, 22, 23, 24, 25, 26, 27, 28], [28])])
  (.ret))
def rs160 : List RR := [.tmp 4]
theorem fun160 : FunR Tryd.prog 160 rc160 rs160 34 := ⟨Tryd.f160, Tryd.func160, by kernel_rfl, by kernel_rfl, by kernel_rfl⟩
/-- causeway/causewayref01.turned -/
def rc161 : RC :=
 .seq (.ops 0 false [
  ⟨some 4, .val (.c (.int .u32 0)), none⟩] [])
 (.seq (.ops 1 false [
   ⟨some 5, .val (.t 0), none⟩,
   ⟨some 6, .val (.t 1), none⟩,
   ⟨some 7, .bin .shr (.t 5) (.t 6), none⟩,
   ⟨some 8, .val (.t 0), none⟩,
   ⟨some 9, .val (.t 1), none⟩,
   ⟨some 10, .bin .sub (.c (.int .u32 32)) (.t 9), none⟩,
   ⟨some 11, .bin .shl (.t 8) (.t 10), none⟩,
   ⟨some 12, .bin .or (.t 7) (.t 11), none⟩,
   ⟨some 4, .val (.t 12), none⟩] [])
  (.ret))
def rs161 : List RR := [.tmp 4]
theorem fun161 : FunR Tryd.prog 161 rc161 rs161 13 := ⟨Tryd.f161, Tryd.func161, by kernel_rfl, by kernel_rfl, by kernel_rfl⟩
/-- causeway/digest.begin -/
def rc171 : RC :=
 .seq (.ops 0 false [
  ⟨some 0, .alloc 242 (List.replicate 8 (.int .u32 0)), none⟩] [])
 (.seq (.ops 1 false [
   ⟨some 1, .build (List.replicate 8 (.int .u32 0)) [(0, 1, (.c (.int .u32 1779033703))), (1, 1, (.c (.int .u32 3144134277))), (2, 1, (.c (.int .u32 1013904242))), (3, 1, (.c (.int .u32 2773480762))), (4, 1, (.c (.int .u32 1359893119))), (5, 1, (.c (.int .u32 2600822924))), (6, 1, (.c (.int .u32 528734635))), (7, 1, (.c (.int .u32 1541459225)))], none⟩,
   ⟨none, .store 8 (.t 0) (.t 1), none⟩] [])
  (.ret))
def rs171 : List RR := [.cell 0 (some 8)]
theorem fun171 : FunR Tryd.prog 171 rc171 rs171 2 := ⟨Tryd.f171, Tryd.func171, by kernel_rfl, by kernel_rfl, by kernel_rfl⟩
/-- (causeway/digest.state).take -/
def rc172 : RC :=
 .seq (.ops 0 false [
  ⟨some 2, .box 242 (.t 0), none⟩,
  ⟨some 3, .box 241 (.t 1), none⟩,
  ⟨some 4, .alloc 242 (List.replicate 8 (.int .u32 0)), none⟩] [])
 (.seq (.ops 1 false [
   ⟨some 20, .loadN 64 (.t 3), none⟩,
   ⟨some 21, .call 181 [(.t 20)], none⟩,
   ⟨some 5, .alloc 232 (List.replicate 64 (.int .u32 0)), none⟩,
   ⟨none, .store 64 (.t 5) (.t 21), none⟩] [])
  (.seq (.ops 2 true [
    ⟨some 22, .indexA 8 1 (.t 2) (.c (.int .i64 0)), none⟩,
    ⟨some 23, .load (.t 22), none⟩,
    ⟨some 24, .indexA 8 1 (.t 2) (.c (.int .i64 1)), none⟩,
    ⟨some 25, .load (.t 24), none⟩,
    ⟨some 26, .indexA 8 1 (.t 2) (.c (.int .i64 2)), none⟩,
    ⟨some 27, .load (.t 26), none⟩,
    ⟨some 28, .indexA 8 1 (.t 2) (.c (.int .i64 3)), none⟩,
    ⟨some 29, .load (.t 28), none⟩,
    ⟨some 30, .indexA 8 1 (.t 2) (.c (.int .i64 4)), none⟩,
    ⟨some 31, .load (.t 30), none⟩,
    ⟨some 32, .indexA 8 1 (.t 2) (.c (.int .i64 5)), none⟩,
    ⟨some 33, .load (.t 32), none⟩,
    ⟨some 34, .indexA 8 1 (.t 2) (.c (.int .i64 6)), none⟩,
    ⟨some 35, .load (.t 34), none⟩,
    ⟨some 36, .indexA 8 1 (.t 2) (.c (.int .i64 7)), none⟩,
    ⟨some 37, .load (.t 36), none⟩,
    ⟨some 6, .val (.t 23), none⟩,
    ⟨some 7, .val (.t 25), none⟩,
    ⟨some 8, .val (.t 27), none⟩,
    ⟨some 9, .val (.t 29), none⟩,
    ⟨some 10, .val (.t 31), none⟩,
    ⟨some 11, .val (.t 33), none⟩,
    ⟨some 12, .val (.t 35), none⟩,
    ⟨some 13, .val (.t 37), none⟩] [([], []), ([0], [0]), ([], []), ([2], [2]), ([], []), ([4], [4]), ([], []), ([6], [6]), ([], []), ([8], [8]), ([], []), ([10], [10]), ([], []), ([12], [12]), ([], []), ([14], [14]), ([1, 0, 1], [1]), ([3, 16, 0, 1, 2, 3, 16], [3]), ([5, 17, 0, 1, 2, 3, 4, 5, 16, 17], [5]), ([7, 18, 0, 1, 2, 3, 4, 5, 6, 7, 16, 17, 18], [7]), ([9, 19, 0, 1, 2, 3, 4, 5, 6, 7, 8, 9, 16, 17, 18, 19], [9]), ([11, 20, 0, 1, 2, 3, 4, 5, 6, 7, 8, 9, 10, 11, 16, 17, 18, 19, 20], [11]), ([13, 21, 0, 1, 2, 3, 4, 5, 6, 7, 8, 9, 10, 11, 12, 13, 16, 17, 18, 19, 20, 21], [13]), ([15, 22, 0, 1, 2, 3, 4, 5, 6, 7, 8, 9, 10, 11, 12, 13, 14, 15, 16, 17, 18, 19, 20, 21, 22], [15])])
   (.seq (.seq (.ops 3 false [
      ⟨some 38, .loadN 64 (.c (.pointer (some ⟨4, 0, none⟩))), none⟩,
      ⟨some 39, .val (.c (.int .i64 0)), none⟩] [])
     (.block 0 (.loop (.seq (.ops 4 false [
         ⟨some 40, .bin .lss (.t 39) (.c (.int .i64 64)), none⟩] [])
        (.seq (.cond (.t 40) (.skip)
          (.exit 0))
         (.seq (.block 1 (.seq (.ops 5 false [
             ⟨some 41, .val (.t 39), none⟩,
             ⟨some 42, .idx 232 (.t 38) (.t 39), none⟩,
             ⟨some 14, .val (.t 41), none⟩,
             ⟨some 15, .val (.t 42), none⟩] [])
            (.seq (.ops 6 false [
              ⟨some 43, .val (.t 10), none⟩,
              ⟨some 44, .call 182 [(.t 43), (.c (.int .i64 (-6)))], none⟩,
              ⟨some 45, .val (.t 10), none⟩,
              ⟨some 46, .call 182 [(.t 45), (.c (.int .i64 (-11)))], none⟩,
              ⟨some 47, .bin .xor (.t 44) (.t 46), none⟩,
              ⟨some 48, .val (.t 10), none⟩,
              ⟨some 49, .call 182 [(.t 48), (.c (.int .i64 (-25)))], none⟩,
              ⟨some 50, .bin .xor (.t 47) (.t 49), none⟩,
              ⟨some 16, .val (.t 50), none⟩] [])
             (.seq (.ops 7 false [
               ⟨some 51, .val (.t 16), none⟩,
               ⟨some 52, .val (.t 13), none⟩,
               ⟨some 53, .val (.t 10), none⟩,
               ⟨some 54, .val (.t 11), none⟩,
               ⟨some 55, .bin .and (.t 53) (.t 54), none⟩,
               ⟨some 56, .val (.t 10), none⟩,
               ⟨some 57, .bnot (.t 56), none⟩,
               ⟨some 58, .val (.t 12), none⟩,
               ⟨some 59, .bin .and (.t 57) (.t 58), none⟩,
               ⟨some 60, .bin .xor (.t 55) (.t 59), none⟩,
               ⟨some 61, .bin .add (.t 52) (.t 60), none⟩,
               ⟨some 62, .val (.t 15), none⟩,
               ⟨some 63, .bin .add (.t 61) (.t 62), none⟩,
               ⟨some 64, .val (.t 14), none⟩,
               ⟨some 65, .indexA 64 1 (.t 5) (.t 64), none⟩,
               ⟨some 66, .load (.t 65), none⟩,
               ⟨some 67, .bin .add (.t 63) (.t 66), none⟩,
               ⟨some 68, .bin .add (.t 51) (.t 67), none⟩,
               ⟨some 16, .val (.t 68), none⟩] [])
              (.seq (.ops 8 false [
                ⟨some 69, .val (.t 6), none⟩,
                ⟨some 70, .call 182 [(.t 69), (.c (.int .i64 (-2)))], none⟩,
                ⟨some 71, .val (.t 6), none⟩,
                ⟨some 72, .call 182 [(.t 71), (.c (.int .i64 (-13)))], none⟩,
                ⟨some 73, .bin .xor (.t 70) (.t 72), none⟩,
                ⟨some 74, .val (.t 6), none⟩,
                ⟨some 75, .call 182 [(.t 74), (.c (.int .i64 (-22)))], none⟩,
                ⟨some 76, .bin .xor (.t 73) (.t 75), none⟩,
                ⟨some 17, .val (.t 76), none⟩] [])
               (.seq (.ops 9 false [
                 ⟨some 77, .val (.t 17), none⟩,
                 ⟨some 78, .val (.t 6), none⟩,
                 ⟨some 79, .val (.t 7), none⟩,
                 ⟨some 80, .bin .and (.t 78) (.t 79), none⟩,
                 ⟨some 81, .val (.t 6), none⟩,
                 ⟨some 82, .val (.t 8), none⟩,
                 ⟨some 83, .bin .and (.t 81) (.t 82), none⟩,
                 ⟨some 84, .bin .xor (.t 80) (.t 83), none⟩,
                 ⟨some 85, .val (.t 7), none⟩,
                 ⟨some 86, .val (.t 8), none⟩,
                 ⟨some 87, .bin .and (.t 85) (.t 86), none⟩,
                 ⟨some 88, .bin .xor (.t 84) (.t 87), none⟩,
                 ⟨some 89, .bin .add (.t 77) (.t 88), none⟩,
                 ⟨some 17, .val (.t 89), none⟩] [])
                (.ops 10 false [
                 ⟨some 90, .val (.t 16), none⟩,
                 ⟨some 91, .val (.t 17), none⟩,
                 ⟨some 92, .bin .add (.t 90) (.t 91), none⟩,
                 ⟨some 93, .val (.t 6), none⟩,
                 ⟨some 94, .val (.t 7), none⟩,
                 ⟨some 95, .val (.t 8), none⟩,
                 ⟨some 96, .val (.t 9), none⟩,
                 ⟨some 97, .val (.t 16), none⟩,
                 ⟨some 98, .bin .add (.t 96) (.t 97), none⟩,
                 ⟨some 99, .val (.t 10), none⟩,
                 ⟨some 100, .val (.t 11), none⟩,
                 ⟨some 101, .val (.t 12), none⟩,
                 ⟨some 6, .val (.t 92), none⟩,
                 ⟨some 7, .val (.t 93), none⟩,
                 ⟨some 8, .val (.t 94), none⟩,
                 ⟨some 9, .val (.t 95), none⟩,
                 ⟨some 10, .val (.t 98), none⟩,
                 ⟨some 11, .val (.t 99), none⟩,
                 ⟨some 12, .val (.t 100), none⟩,
                 ⟨some 13, .val (.t 101), none⟩] [])))))))
          (.ops 11 false [
           ⟨some 102, .bin .add (.t 39) (.c (.int .i64 1)), none⟩,
           ⟨some 39, .val (.t 102), none⟩] [])))))))
    (.seq (.seq (.ops 12 false [
       ⟨some 103, .val (.t 6), none⟩,
       ⟨some 104, .val (.t 7), none⟩,
       ⟨some 105, .val (.t 8), none⟩,
       ⟨some 106, .val (.t 9), none⟩,
       ⟨some 107, .val (.t 10), none⟩,
       ⟨some 108, .val (.t 11), none⟩,
       ⟨some 109, .val (.t 12), none⟩,
       ⟨some 110, .val (.t 13), none⟩,
       ⟨some 111, .build (List.replicate 8 (.int .u32 0)) [(0, 1, (.t 103)), (1, 1, (.t 104)), (2, 1, (.t 105)), (3, 1, (.t 106)), (4, 1, (.t 107)), (5, 1, (.t 108)), (6, 1, (.t 109)), (7, 1, (.t 110))], none⟩,
       ⟨some 112, .val (.c (.int .i64 0)), none⟩] [])
      (.block 2 (.loop (.seq (.ops 13 false [
          ⟨some 113, .bin .lss (.t 112) (.c (.int .i64 8)), none⟩] [])
         (.seq (.cond (.t 113) (.skip)
           (.exit 2))
          (.seq (.block 3 (.seq (.ops 14 false [
              ⟨some 114, .val (.t 112), none⟩,
              ⟨some 115, .idx 216 (.t 111) (.t 112), none⟩,
              ⟨some 18, .val (.t 114), none⟩,
              ⟨some 19, .val (.t 115), none⟩] [])
             (.ops 15 false [
              ⟨some 116, .val (.t 18), none⟩,
              ⟨some 117, .indexA 8 1 (.t 2) (.t 116), none⟩,
              ⟨some 118, .load (.t 117), none⟩,
              ⟨some 119, .val (.t 19), none⟩,
              ⟨some 120, .bin .add (.t 118) (.t 119), none⟩,
              ⟨some 121, .indexA 8 1 (.t 2) (.t 116), none⟩,
              ⟨none, .store 1 (.t 121) (.t 120), none⟩] [])))
           (.ops 16 false [
            ⟨some 122, .bin .add (.t 112) (.c (.int .i64 1)), none⟩,
            ⟨some 112, .val (.t 122), none⟩] [])))))))
     (.seq (.ops 17 false [
       ⟨some 123, .loadN 8 (.t 2), none⟩,
       ⟨none, .store 8 (.t 4) (.t 123), none⟩] [])
      (.ret))))))
def rs172 : List RR := [.cell 4 (some 8)]
theorem fun172 : FunR Tryd.prog 172 rc172 rs172 124 := ⟨Tryd.f172, Tryd.func172, by kernel_rfl, by kernel_rfl, by kernel_rfl⟩
/-- (*causeway/digest.Hasher).end -/
def rc173 : RC :=
 .seq (.ops 0 false [
  ⟨some 6, .alloc 25 (List.replicate 32 (.int .u8 0)), none⟩] [])
 (.seq (.ops 1 true [
   ⟨some 14, .val (.t 0), none⟩,
   ⟨some 15, .nilCheck (.t 14), none⟩,
   ⟨some 16, .fieldA 0 (.t 15), none⟩,
   ⟨some 17, .loadN 8 (.t 16), none⟩,
   ⟨some 18, .val (.t 0), none⟩,
   ⟨some 19, .nilCheck (.t 18), none⟩,
   ⟨some 20, .fieldA 8 (.t 19), none⟩,
   ⟨some 21, .loadN 64 (.t 20), none⟩,
   ⟨some 7, .alloc 242 (List.replicate 8 (.int .u32 0)), none⟩,
   ⟨some 8, .alloc 241 (List.replicate 64 (.int .u8 0)), none⟩,
   ⟨none, .store 8 (.t 7) (.t 17), none⟩,
   ⟨none, .store 64 (.t 8) (.t 21), none⟩] [([], []), ([0], [0]), ([1], [1]), ([2], [2]), ([], []), ([4], [4]), ([5], [5]), ([6], [6]), ([], []), ([], []), ([8, 3, 0, 1, 2, 3, 8, 9], [3, 8]), ([9, 7, 10, 0, 1, 2, 3, 4, 5, 6, 7, 8, 9, 10], [7, 9])])
  (.seq (.ops 2 false [
    ⟨some 22, .val (.t 0), none⟩,
    ⟨some 23, .nilCheck (.t 22), none⟩,
    ⟨some 24, .fieldA 72 (.t 23), none⟩,
    ⟨some 25, .load (.t 24), none⟩,
    ⟨some 26, .bin .rem (.t 25) (.c (.int .i64 64)), none⟩,
    ⟨some 9, .val (.t 26), none⟩] [])
   (.seq (.ops 3 false [
     ⟨some 27, .val (.t 9), none⟩,
     ⟨some 28, .sliceA 64 1 (.t 8) (some (.t 27)) none, none⟩,
     ⟨none, .blt .clear #[79] 0 [(.t 28)], none⟩] [])
    (.seq (.ops 4 true [
      ⟨some 29, .val (.t 9), none⟩,
      ⟨some 30, .val (.t 1), none⟩,
      ⟨some 31, .val (.t 2), none⟩,
      ⟨some 32, .bin .shr (.c (.int .u8 255)) (.t 31), none⟩,
      ⟨some 33, .bin .andNot (.t 30) (.t 32), none⟩,
      ⟨some 34, .val (.t 2), none⟩,
      ⟨some 35, .bin .shr (.c (.int .u8 128)) (.t 34), none⟩,
      ⟨some 36, .bin .or (.t 33) (.t 35), none⟩,
      ⟨some 37, .indexA 64 1 (.t 8) (.t 29), none⟩,
      ⟨none, .store 1 (.t 37) (.t 36), none⟩] [([], []), ([], []), ([], []), ([2], [2]), ([1, 3], [1, 3]), ([], []), ([5], [5]), ([4, 6], [4, 6]), ([0, 0, 1, 2, 3, 4, 5, 6, 7], [0]), ([8, 7, 0, 1, 2, 3, 4, 5, 6, 7], [7, 8])])
     (.seq (.seq (.ops 5 false [
        ⟨some 38, .val (.t 9), none⟩,
        ⟨some 39, .bin .geq (.t 38) (.c (.int .i64 56)), none⟩] [])
       (.cond (.t 39) (.ops 6 false [
         ⟨some 40, .loadN 8 (.t 7), none⟩,
         ⟨some 41, .loadN 64 (.t 8), none⟩,
         ⟨some 42, .call 172 [(.t 40), (.t 41)], none⟩,
         ⟨some 43, .build (List.replicate 64 (.int .u8 0)) [], none⟩,
         ⟨none, .store 8 (.t 7) (.t 42), none⟩,
         ⟨none, .store 64 (.t 8) (.t 43), none⟩] [])
        (.skip)))
      (.seq (.ops 7 false [
        ⟨some 44, .val (.t 0), none⟩,
        ⟨some 45, .nilCheck (.t 44), none⟩,
        ⟨some 46, .fieldA 72 (.t 45), none⟩,
        ⟨some 47, .load (.t 46), none⟩,
        ⟨some 48, .conv .u64 (.t 47), none⟩,
        ⟨some 49, .bin .mul (.t 48) (.c (.int .u64 8)), none⟩,
        ⟨some 50, .val (.t 2), none⟩,
        ⟨some 51, .conv .u64 (.t 50), none⟩,
        ⟨some 52, .bin .add (.t 49) (.t 51), none⟩,
        ⟨some 10, .val (.t 52), none⟩] [])
       (.seq (.seq (.ops 8 false [
          ⟨some 53, .val (.c (.int .i64 0)), none⟩] [])
         (.block 0 (.loop (.seq (.ops 9 false [
             ⟨some 54, .bin .lss (.t 53) (.c (.int .i64 8)), none⟩] [])
            (.seq (.cond (.t 54) (.skip)
              (.exit 0))
             (.seq (.block 1 (.seq (.ops 10 false [
                 ⟨some 55, .val (.t 53), none⟩,
                 ⟨some 11, .val (.t 55), none⟩] [])
                (.ops 11 false [
                 ⟨some 56, .val (.t 11), none⟩,
                 ⟨some 57, .bin .sub (.c (.int .i64 63)) (.t 56), none⟩,
                 ⟨some 58, .val (.t 10), none⟩,
                 ⟨some 59, .val (.t 11), none⟩,
                 ⟨some 60, .bin .mul (.c (.int .i64 8)) (.t 59), none⟩,
                 ⟨some 61, .bin .shr (.t 58) (.t 60), none⟩,
                 ⟨some 62, .conv .u8 (.t 61), none⟩,
                 ⟨some 63, .indexA 64 1 (.t 8) (.t 57), none⟩,
                 ⟨none, .store 1 (.t 63) (.t 62), none⟩] [])))
              (.ops 12 false [
               ⟨some 64, .bin .add (.t 53) (.c (.int .i64 1)), none⟩,
               ⟨some 53, .val (.t 64), none⟩] [])))))))
        (.seq (.ops 13 false [
          ⟨some 65, .loadN 8 (.t 7), none⟩,
          ⟨some 66, .loadN 64 (.t 8), none⟩,
          ⟨some 67, .call 172 [(.t 65), (.t 66)], none⟩,
          ⟨none, .store 8 (.t 7) (.t 67), none⟩] [])
         (.seq (.ops 14 false [
           ⟨some 12, .alloc 25 (List.replicate 32 (.int .u8 0)), none⟩] [])
          (.seq (.seq (.ops 15 false [
             ⟨some 68, .val (.c (.int .i64 0)), none⟩] [])
            (.block 2 (.loop (.seq (.ops 16 false [
                ⟨some 69, .bin .lss (.t 68) (.c (.int .i64 32)), none⟩] [])
               (.seq (.cond (.t 69) (.skip)
                 (.exit 2))
                (.seq (.block 3 (.seq (.ops 17 false [
                    ⟨some 70, .val (.t 68), none⟩,
                    ⟨some 13, .val (.t 70), none⟩] [])
                   (.ops 18 false [
                    ⟨some 71, .val (.t 13), none⟩,
                    ⟨some 72, .val (.t 13), none⟩,
                    ⟨some 73, .bin .quo (.t 72) (.c (.int .i64 4)), none⟩,
                    ⟨some 74, .indexA 8 1 (.t 7) (.t 73), none⟩,
                    ⟨some 75, .load (.t 74), none⟩,
                    ⟨some 76, .val (.t 13), none⟩,
                    ⟨some 77, .bin .rem (.t 76) (.c (.int .i64 4)), none⟩,
                    ⟨some 78, .bin .mul (.c (.int .i64 8)) (.t 77), none⟩,
                    ⟨some 79, .bin .sub (.c (.int .i64 24)) (.t 78), none⟩,
                    ⟨some 80, .bin .shr (.t 75) (.t 79), none⟩,
                    ⟨some 81, .conv .u8 (.t 80), none⟩,
                    ⟨some 82, .indexA 32 1 (.t 12) (.t 71), none⟩,
                    ⟨none, .store 1 (.t 82) (.t 81), none⟩] [])))
                 (.ops 19 false [
                  ⟨some 83, .bin .add (.t 68) (.c (.int .i64 1)), none⟩,
                  ⟨some 68, .val (.t 83), none⟩] [])))))))
           (.seq (.ops 20 false [
             ⟨some 84, .loadN 32 (.t 12), none⟩,
             ⟨none, .store 32 (.t 6) (.t 84), none⟩] [])
            (.ret))))))))))))
def rs173 : List RR := [.cell 6 (some 32)]
theorem fun173 : FunR Tryd.prog 173 rc173 rs173 85 := ⟨Tryd.f173, Tryd.func173, by kernel_rfl, by kernel_rfl, by kernel_rfl⟩
/-- causeway/digest.words -/
def rc181 : RC :=
 .seq (.ops 0 false [
  ⟨some 1, .box 241 (.t 0), none⟩,
  ⟨some 2, .alloc 232 (List.replicate 64 (.int .u32 0)), none⟩] [])
 (.seq (.ops 1 false [
   ⟨some 3, .alloc 232 (List.replicate 64 (.int .u32 0)), none⟩] [])
  (.seq (.seq (.ops 2 false [
     ⟨some 8, .val (.c (.int .i64 0)), none⟩] [])
    (.block 0 (.loop (.seq (.ops 3 false [
        ⟨some 9, .bin .lss (.t 8) (.c (.int .i64 16)), none⟩] [])
       (.seq (.cond (.t 9) (.skip)
         (.exit 0))
        (.seq (.block 1 (.seq (.ops 4 false [
            ⟨some 10, .val (.t 8), none⟩,
            ⟨some 4, .val (.t 10), none⟩] [])
           (.ops 5 true [
            ⟨some 11, .val (.t 4), none⟩,
            ⟨some 12, .val (.t 4), none⟩,
            ⟨some 13, .bin .mul (.c (.int .i64 4)) (.t 12), none⟩,
            ⟨some 14, .indexA 64 1 (.t 1) (.t 13), none⟩,
            ⟨some 15, .load (.t 14), none⟩,
            ⟨some 16, .conv .u32 (.t 15), none⟩,
            ⟨some 17, .bin .shl (.t 16) (.c (.int .u64 24)), none⟩,
            ⟨some 18, .val (.t 4), none⟩,
            ⟨some 19, .bin .mul (.c (.int .i64 4)) (.t 18), none⟩,
            ⟨some 20, .bin .add (.t 19) (.c (.int .i64 1)), none⟩,
            ⟨some 21, .indexA 64 1 (.t 1) (.t 20), none⟩,
            ⟨some 22, .load (.t 21), none⟩,
            ⟨some 23, .conv .u32 (.t 22), none⟩,
            ⟨some 24, .bin .shl (.t 23) (.c (.int .u64 16)), none⟩,
            ⟨some 25, .bin .or (.t 17) (.t 24), none⟩,
            ⟨some 26, .val (.t 4), none⟩,
            ⟨some 27, .bin .mul (.c (.int .i64 4)) (.t 26), none⟩,
            ⟨some 28, .bin .add (.t 27) (.c (.int .i64 2)), none⟩,
            ⟨some 29, .indexA 64 1 (.t 1) (.t 28), none⟩,
            ⟨some 30, .load (.t 29), none⟩,
            ⟨some 31, .conv .u32 (.t 30), none⟩,
            ⟨some 32, .bin .shl (.t 31) (.c (.int .u64 8)), none⟩,
            ⟨some 33, .bin .or (.t 25) (.t 32), none⟩,
            ⟨some 34, .val (.t 4), none⟩,
            ⟨some 35, .bin .mul (.c (.int .i64 4)) (.t 34), none⟩,
            ⟨some 36, .bin .add (.t 35) (.c (.int .i64 3)), none⟩,
            ⟨some 37, .indexA 64 1 (.t 1) (.t 36), none⟩,
            ⟨some 38, .load (.t 37), none⟩,
            ⟨some 39, .conv .u32 (.t 38), none⟩,
            ⟨some 40, .bin .or (.t 33) (.t 39), none⟩,
            ⟨some 41, .indexA 64 1 (.t 3) (.t 11), none⟩,
            ⟨none, .store 1 (.t 41) (.t 40), none⟩] [([], []), ([], []), ([1], [1]), ([2], [2]), ([3], [3]), ([4], [4]), ([5], [5]), ([], []), ([7], [7]), ([8], [8]), ([9], [9]), ([10], [10]), ([11], [11]), ([12], [12]), ([6, 13], [6, 13]), ([], []), ([15], [15]), ([16], [16]), ([17], [17]), ([18], [18]), ([19], [19]), ([20], [20]), ([14, 21], [14, 21]), ([], []), ([23], [23]), ([24], [24]), ([25], [25]), ([26], [26]), ([27], [27]), ([22, 28], [22, 28]), ([0, 0, 1, 2, 3, 4, 5, 6, 7, 8, 9, 10, 11, 12, 13, 14, 15, 16, 17, 18, 19, 20, 21, 22, 23, 24, 25, 26, 27, 28, 29], [0]), ([30, 29, 0, 1, 2, 3, 4, 5, 6, 7, 8, 9, 10, 11, 12, 13, 14, 15, 16, 17, 18, 19, 20, 21, 22, 23, 24, 25, 26, 27, 28, 29], [29, 30])])))
         (.ops 6 false [
          ⟨some 42, .bin .add (.t 8) (.c (.int .i64 1)), none⟩,
          ⟨some 8, .val (.t 42), none⟩] [])))))))
   (.seq (.seq (.ops 7 false [
      ⟨some 5, .val (.c (.int .i64 16)), none⟩] [])
     (.block 2 (.loop (.seq (.seq (.ops 8 false [
          ⟨some 43, .val (.t 5), none⟩,
          ⟨some 44, .bin .lss (.t 43) (.c (.int .i64 64)), none⟩] [])
         (.cond (.t 44) (.skip)
          (.exit 2)))
        (.seq (.block 3 (.seq (.ops 10 true [
            ⟨some 47, .val (.t 5), none⟩,
            ⟨some 48, .bin .sub (.t 47) (.c (.int .i64 2)), none⟩,
            ⟨some 49, .indexA 64 1 (.t 3) (.t 48), none⟩,
            ⟨some 50, .load (.t 49), none⟩,
            ⟨some 51, .val (.t 5), none⟩,
            ⟨some 52, .bin .sub (.t 51) (.c (.int .i64 15)), none⟩,
            ⟨some 53, .indexA 64 1 (.t 3) (.t 52), none⟩,
            ⟨some 54, .load (.t 53), none⟩,
            ⟨some 6, .val (.t 50), none⟩,
            ⟨some 7, .val (.t 54), none⟩] [([], []), ([0], [0]), ([1], [1]), ([2], [2]), ([], []), ([4], [4]), ([5], [5]), ([6], [6]), ([3, 0, 1, 2, 3], [3]), ([7, 8, 0, 1, 2, 3, 4, 5, 6, 7, 8], [7])])
           (.seq (.ops 11 false [
             ⟨some 55, .val (.t 6), none⟩,
             ⟨some 56, .call 182 [(.t 55), (.c (.int .i64 (-17)))], none⟩,
             ⟨some 57, .val (.t 6), none⟩,
             ⟨some 58, .call 182 [(.t 57), (.c (.int .i64 (-19)))], none⟩,
             ⟨some 59, .bin .xor (.t 56) (.t 58), none⟩,
             ⟨some 60, .val (.t 6), none⟩,
             ⟨some 61, .bin .shr (.t 60) (.c (.int .u64 10)), none⟩,
             ⟨some 62, .bin .xor (.t 59) (.t 61), none⟩,
             ⟨some 6, .val (.t 62), none⟩] [])
            (.seq (.ops 12 false [
              ⟨some 63, .val (.t 7), none⟩,
              ⟨some 64, .call 182 [(.t 63), (.c (.int .i64 (-7)))], none⟩,
              ⟨some 65, .val (.t 7), none⟩,
              ⟨some 66, .call 182 [(.t 65), (.c (.int .i64 (-18)))], none⟩,
              ⟨some 67, .bin .xor (.t 64) (.t 66), none⟩,
              ⟨some 68, .val (.t 7), none⟩,
              ⟨some 69, .bin .shr (.t 68) (.c (.int .u64 3)), none⟩,
              ⟨some 70, .bin .xor (.t 67) (.t 69), none⟩,
              ⟨some 7, .val (.t 70), none⟩] [])
             (.ops 13 true [
              ⟨some 71, .val (.t 5), none⟩,
              ⟨some 72, .val (.t 6), none⟩,
              ⟨some 73, .val (.t 5), none⟩,
              ⟨some 74, .bin .sub (.t 73) (.c (.int .i64 7)), none⟩,
              ⟨some 75, .indexA 64 1 (.t 3) (.t 74), none⟩,
              ⟨some 76, .load (.t 75), none⟩,
              ⟨some 77, .bin .add (.t 72) (.t 76), none⟩,
              ⟨some 78, .val (.t 7), none⟩,
              ⟨some 79, .bin .add (.t 77) (.t 78), none⟩,
              ⟨some 80, .val (.t 5), none⟩,
              ⟨some 81, .bin .sub (.t 80) (.c (.int .i64 16)), none⟩,
              ⟨some 82, .indexA 64 1 (.t 3) (.t 81), none⟩,
              ⟨some 83, .load (.t 82), none⟩,
              ⟨some 84, .bin .add (.t 79) (.t 83), none⟩,
              ⟨some 85, .indexA 64 1 (.t 3) (.t 71), none⟩,
              ⟨none, .store 1 (.t 85) (.t 84), none⟩] [([], []), ([], []), ([], []), ([2], [2]), ([3], [3]), ([4], [4]), ([1, 5], [1, 5]), ([], []), ([6, 7], [6, 7]), ([], []), ([9], [9]), ([10], [10]), ([11], [11]), ([8, 12], [8, 12]), ([0, 0, 1, 2, 3, 4, 5, 6, 7, 8, 9, 10, 11, 12, 13], [0]), ([14, 13, 0, 1, 2, 3, 4, 5, 6, 7, 8, 9, 10, 11, 12, 13], [13, 14])])))))
         (.ops 9 false [
          ⟨some 45, .val (.t 5), none⟩,
          ⟨some 46, .bin .add (.t 45) (.c (.int .i64 1)), none⟩,
          ⟨some 5, .val (.t 46), none⟩] []))))))
    (.seq (.ops 14 false [
      ⟨some 86, .loadN 64 (.t 3), none⟩,
      ⟨none, .store 64 (.t 2) (.t 86), none⟩] [])
     (.ret)))))
def rs181 : List RR := [.cell 2 (some 64)]
theorem fun181 : FunR Tryd.prog 181 rc181 rs181 87 := ⟨Tryd.f181, Tryd.func181, by kernel_rfl, by kernel_rfl, by kernel_rfl⟩
/-- math/bits.RotateLeft32 -/
def rc182 : RC :=
 .seq (.ops 0 false [
  ⟨some 4, .val (.c (.int .u32 0)), none⟩] [])
 (.seq (.ops 1 false [
   ⟨some 6, .val (.t 1), none⟩,
   ⟨some 7, .conv .u64 (.t 6), none⟩,
   ⟨some 8, .bin .and (.t 7) (.c (.int .u64 31)), none⟩,
   ⟨some 5, .val (.t 8), none⟩] [])
  (.seq (.ops 2 false [
    ⟨some 9, .val (.t 0), none⟩,
    ⟨some 10, .val (.t 5), none⟩,
    ⟨some 11, .bin .shl (.t 9) (.t 10), none⟩,
    ⟨some 12, .val (.t 0), none⟩,
    ⟨some 13, .val (.t 5), none⟩,
    ⟨some 14, .bin .sub (.c (.int .u64 32)) (.t 13), none⟩,
    ⟨some 15, .bin .shr (.t 12) (.t 14), none⟩,
    ⟨some 16, .bin .or (.t 11) (.t 15), none⟩,
    ⟨some 4, .val (.t 16), none⟩] [])
   (.ret)))
def rs182 : List RR := [.tmp 4]
theorem fun182 : FunR Tryd.prog 182 rc182 rs182 17 := ⟨Tryd.f182, Tryd.func182, by kernel_rfl, by kernel_rfl, by kernel_rfl⟩
end Go.Proofs.YthdpknlnpeaiiaaDoor
