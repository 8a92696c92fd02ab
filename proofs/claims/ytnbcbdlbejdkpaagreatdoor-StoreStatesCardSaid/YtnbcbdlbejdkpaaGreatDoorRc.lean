/-
  The resolved texts of this seat's functions, printed by this session's own program, and that they are what the translation has.
-/
import Derived.Test.YtnbcbdlbejdkpaaGreatDoorChecked
import Derived.Test.YtnbcbdlbejdkpaaGreatDoorZCd
import Derived.KernelRfl
namespace Go.Proofs.YtnbcbdlbejdkpaaGreatDoor
open Go Go.Sl
set_option maxRecDepth 100000
/-- causeway/causewaylaw07.StoreStates -/
def rc4 : RC :=
 .seq (.ops 0 false [
  ⟨some 1, .box 59 (.t 0), none⟩,
  ⟨some 2, .val (.c (.bool false)), none⟩] [])
 (.seq (.ops 1 false [
   ⟨some 20, .call 18 [], none⟩,
   ⟨some 3, .val (.t 20), none⟩] [])
  (.seq (.ops 2 false [
    ⟨some 21, .fieldA 0 (.t 1), none⟩,
    ⟨some 22, .load (.t 21), none⟩,
    ⟨some 23, .build [(.slice none 0 0), (.slice none 0 0), (.slice none 0 0), (.bool false), (.slice none 0 0)] [(0, 1, (.t 22))], none⟩,
    ⟨some 24, .box 64 (.t 23), none⟩,
    ⟨some 4, .val (.t 24), none⟩] [])
   (.seq (.ops 3 false [
     ⟨some 25, .fieldA 0 (.t 1), none⟩,
     ⟨some 26, .load (.t 25), none⟩,
     ⟨some 27, .call 19 [(.t 26)], none⟩,
     ⟨some 5, .val (.t 27), none⟩] [])
    (.seq (.seq (.ops 4 false [
       ⟨some 6, .val (.c (.int .i64 0)), none⟩] [])
      (.block 0 (.loop (.seq (.seq (.ops 5 false [
           ⟨some 28, .val (.t 6), none⟩,
           ⟨some 29, .fieldA 1 (.t 1), none⟩,
           ⟨some 30, .load (.t 29), none⟩,
           ⟨some 31, .len (.t 30), none⟩,
           ⟨some 32, .bin .lss (.t 28) (.t 31), none⟩] [])
          (.cond (.t 32) (.skip)
           (.exit 0)))
         (.seq (.block 1 (.seq (.ops 7 true [
             ⟨some 35, .val (.t 4), none⟩,
             ⟨some 36, .val (.t 4), none⟩,
             ⟨some 37, .nilCheck (.t 36), none⟩,
             ⟨some 38, .fieldA 1 (.t 37), none⟩,
             ⟨some 39, .load (.t 38), none⟩,
             ⟨some 40, .fieldA 1 (.t 1), none⟩,
             ⟨some 41, .load (.t 40), none⟩,
             ⟨some 42, .val (.t 6), none⟩,
             ⟨some 43, .indexS 2 (.t 41) (.t 42), none⟩,
             ⟨some 44, .loadN 2 (.t 43), none⟩,
             ⟨some 45, .buildS 68 1 [(.string ⟨#[]⟩), (.int .i64 0)] [(0, 2, (.t 44))], none⟩,
             ⟨some 46, .blt .append #[56, 56] 56 [(.t 39), (.t 45)], none⟩,
             ⟨some 47, .nilCheck (.t 35), none⟩,
             ⟨some 48, .fieldA 1 (.t 47), none⟩,
             ⟨none, .store 1 (.t 48) (.t 46), none⟩] [([], []), ([], []), ([1], [1]), ([2], [2]), ([3], [3]), ([], []), ([5], [5]), ([], []), ([6, 7], [6, 7]), ([8], [8]), ([9], [9]), ([4, 10], [4, 10]), ([0, 0, 1, 2, 3, 4, 5, 6, 7, 8, 9, 10, 11], [0]), ([12, 0, 1, 2, 3, 4, 5, 6, 7, 8, 9, 10, 11], [12]), ([13, 11, 11, 0, 1, 2, 3, 4, 5, 6, 7, 8, 9, 10, 11], [11, 13])])
            (.ops 8 true [
             ⟨some 49, .val (.t 5), none⟩,
             ⟨some 50, .val (.t 5), none⟩,
             ⟨some 51, .nilCheck (.t 50), none⟩,
             ⟨some 52, .fieldA 2 (.t 51), none⟩,
             ⟨some 53, .load (.t 52), none⟩,
             ⟨some 54, .fieldA 1 (.t 1), none⟩,
             ⟨some 55, .load (.t 54), none⟩,
             ⟨some 56, .val (.t 6), none⟩,
             ⟨some 57, .indexS 2 (.t 55) (.t 56), none⟩,
             ⟨some 58, .loadN 2 (.t 57), none⟩,
             ⟨some 59, .buildS 68 1 [(.string ⟨#[]⟩), (.int .i64 0)] [(0, 2, (.t 58))], none⟩,
             ⟨some 60, .blt .append #[56, 56] 56 [(.t 53), (.t 59)], none⟩,
             ⟨some 61, .nilCheck (.t 49), none⟩,
             ⟨some 62, .fieldA 2 (.t 61), none⟩,
             ⟨none, .store 1 (.t 62) (.t 60), none⟩] [([], []), ([], []), ([1], [1]), ([2], [2]), ([3], [3]), ([], []), ([5], [5]), ([], []), ([6, 7], [6, 7]), ([8], [8]), ([9], [9]), ([4, 10], [4, 10]), ([0, 0, 1, 2, 3, 4, 5, 6, 7, 8, 9, 10, 11], [0]), ([12, 0, 1, 2, 3, 4, 5, 6, 7, 8, 9, 10, 11], [12]), ([13, 11, 11, 0, 1, 2, 3, 4, 5, 6, 7, 8, 9, 10, 11], [11, 13])])))
          (.ops 6 false [
           ⟨some 33, .val (.t 6), none⟩,
           ⟨some 34, .bin .add (.t 33) (.c (.int .i64 1)), none⟩,
           ⟨some 6, .val (.t 34), none⟩] []))))))
     (.seq (.ops 9 false [
       ⟨some 64, .val (.t 4), none⟩,
       ⟨some 65, .iface 60 (.t 64), none⟩,
       ⟨some 66, .call 20 [(.t 65)], none⟩,
       ⟨some 63, .val (.t 66), none⟩,
       ⟨some 67, .extract 0 (.t 63), none⟩,
       ⟨some 68, .extract 1 (.t 63), none⟩,
       ⟨some 7, .val (.t 67), none⟩,
       ⟨some 8, .val (.t 68), none⟩] [])
      (.seq (.seq (.ops 10 false [
         ⟨some 69, .val (.t 3), none⟩,
         ⟨some 70, .not (.t 69), none⟩,
         ⟨some 71, .val (.t 70), none⟩,
         ⟨some 72, .val (.t 7), some (71, false)⟩,
         ⟨some 73, .eqp .ptr false (.t 72) (.c (.pointer none)), some (71, false)⟩,
         ⟨some 74, .pick (.t 71) (.c (.bool true)) (.t 73), none⟩,
         ⟨some 75, .val (.t 74), none⟩,
         ⟨some 76, .val (.t 8), some (75, false)⟩,
         ⟨some 77, .bin .neq (.t 76) (.c (.int .i64 0)), some (75, false)⟩,
         ⟨some 78, .pick (.t 75) (.c (.bool true)) (.t 77), none⟩] [])
        (.cond (.t 78) (.seq (.ops 11 false [
           ⟨some 2, .val (.c (.bool false)), none⟩] [])
          (.ret))
         (.skip)))
       (.seq (.seq (.ops 12 false [
          ⟨some 9, .val (.c (.int .i64 0)), none⟩] [])
         (.block 2 (.loop (.seq (.seq (.ops 13 false [
              ⟨some 79, .val (.t 9), none⟩,
              ⟨some 80, .fieldA 2 (.t 1), none⟩,
              ⟨some 81, .load (.t 80), none⟩,
              ⟨some 82, .len (.t 81), none⟩,
              ⟨some 83, .bin .lss (.t 79) (.t 82), none⟩] [])
             (.cond (.t 83) (.skip)
              (.exit 2)))
            (.seq (.block 3 (.seq (.ops 15 false [
                ⟨some 86, .val (.t 4), none⟩,
                ⟨some 87, .val (.t 7), none⟩,
                ⟨some 88, .val (.t 5), none⟩,
                ⟨some 89, .fieldA 2 (.t 1), none⟩,
                ⟨some 90, .load (.t 89), none⟩,
                ⟨some 91, .val (.t 9), none⟩,
                ⟨some 92, .indexS 4 (.t 90) (.t 91), none⟩,
                ⟨some 93, .loadN 4 (.t 92), none⟩,
                ⟨some 94, .call 21 [(.t 86), (.t 87), (.t 88), (.t 93)], none⟩,
                ⟨some 10, .val (.t 94), none⟩] [])
               (.seq (.seq (.ops 16 false [
                  ⟨some 95, .val (.t 10), none⟩,
                  ⟨some 96, .not (.t 95), none⟩] [])
                 (.cond (.t 96) (.seq (.ops 17 false [
                    ⟨some 2, .val (.c (.bool false)), none⟩] [])
                   (.ret))
                  (.skip)))
                (.seq (.seq (.ops 18 false [
                   ⟨some 11, .val (.c (.int .i64 0)), none⟩] [])
                  (.block 4 (.loop (.seq (.seq (.ops 19 false [
                       ⟨some 97, .val (.t 11), none⟩,
                       ⟨some 98, .val (.t 4), none⟩,
                       ⟨some 99, .nilCheck (.t 98), none⟩,
                       ⟨some 100, .fieldA 4 (.t 99), none⟩,
                       ⟨some 101, .load (.t 100), none⟩,
                       ⟨some 102, .len (.t 101), none⟩,
                       ⟨some 103, .bin .lss (.t 97) (.t 102), none⟩] [])
                      (.cond (.t 103) (.skip)
                       (.exit 4)))
                     (.seq (.block 5 (.seq (.ops 21 false [
                         ⟨some 106, .val (.t 4), none⟩,
                         ⟨some 107, .nilCheck (.t 106), none⟩,
                         ⟨some 108, .fieldA 4 (.t 107), none⟩,
                         ⟨some 109, .load (.t 108), none⟩,
                         ⟨some 110, .val (.t 11), none⟩,
                         ⟨some 111, .indexS 1 (.t 109) (.t 110), none⟩,
                         ⟨some 112, .load (.t 111), none⟩,
                         ⟨some 113, .len (.t 112), none⟩,
                         ⟨some 114, .bin .sub (.t 113) (.c (.int .i64 40)), none⟩,
                         ⟨some 12, .val (.t 114), none⟩] [])
                        (.seq (.ops 22 true [
                          ⟨some 115, .val (.t 4), none⟩,
                          ⟨some 116, .nilCheck (.t 115), none⟩,
                          ⟨some 117, .fieldA 4 (.t 116), none⟩,
                          ⟨some 118, .load (.t 117), none⟩,
                          ⟨some 119, .val (.t 11), none⟩,
                          ⟨some 120, .indexS 1 (.t 118) (.t 119), none⟩,
                          ⟨some 121, .load (.t 120), none⟩,
                          ⟨some 122, .val (.t 4), none⟩,
                          ⟨some 123, .nilCheck (.t 122), none⟩,
                          ⟨some 124, .fieldA 4 (.t 123), none⟩,
                          ⟨some 125, .load (.t 124), none⟩,
                          ⟨some 126, .val (.t 11), none⟩,
                          ⟨some 127, .indexS 1 (.t 125) (.t 126), none⟩,
                          ⟨some 128, .load (.t 127), none⟩,
                          ⟨some 129, .val (.t 12), none⟩,
                          ⟨some 130, .slice 1 (.t 128) none (some (.t 129)) none, none⟩,
                          ⟨some 131, .call 22 [(.t 121), (.t 130)], none⟩,
                          ⟨some 13, .val (.t 131), none⟩] [([], []), ([0], [0]), ([1], [1]), ([2], [2]), ([], []), ([3, 4], [3, 4]), ([5], [5]), ([], []), ([7], [7]), ([8], [8]), ([9], [9]), ([], []), ([10, 11], [10, 11]), ([12], [12]), ([], []), ([13, 14], [13, 14]), ([6, 15], [6, 15]), ([16, 16, 0, 1, 2, 3, 4, 5, 6, 7, 8, 9, 10, 11, 12, 13, 14, 15, 16], [16])])
                         (.seq (.seq (.ops 23 false [
                            ⟨some 132, .val (.t 13), none⟩,
                            ⟨some 133, .not (.t 132), none⟩] [])
                           (.cond (.t 133) (.seq (.ops 24 false [
                              ⟨some 2, .val (.c (.bool false)), none⟩] [])
                             (.ret))
                            (.skip)))
                          (.ops 25 false [
                           ⟨some 134, .val (.t 4), none⟩,
                           ⟨some 135, .nilCheck (.t 134), none⟩,
                           ⟨some 136, .fieldA 4 (.t 135), none⟩,
                           ⟨some 137, .load (.t 136), none⟩,
                           ⟨some 138, .val (.t 11), none⟩,
                           ⟨some 139, .indexS 1 (.t 137) (.t 138), none⟩,
                           ⟨some 140, .load (.t 139), none⟩,
                           ⟨some 141, .call 23 [(.t 140)], none⟩] [])))))
                      (.ops 20 false [
                       ⟨some 104, .val (.t 11), none⟩,
                       ⟨some 105, .bin .add (.t 104) (.c (.int .i64 1)), none⟩,
                       ⟨some 11, .val (.t 105), none⟩] []))))))
                 (.ops 26 false [
                  ⟨some 142, .val (.t 4), none⟩,
                  ⟨some 143, .nilCheck (.t 142), none⟩,
                  ⟨some 144, .fieldA 4 (.t 143), none⟩,
                  ⟨none, .store 1 (.t 144) (.c (.slice none 0 0)), none⟩] [])))))
             (.ops 14 false [
              ⟨some 84, .val (.t 9), none⟩,
              ⟨some 85, .bin .add (.t 84) (.c (.int .i64 1)), none⟩,
              ⟨some 9, .val (.t 85), none⟩] []))))))
        (.seq (.ops 27 false [
          ⟨some 145, .val (.t 7), none⟩,
          ⟨some 146, .call 24 [(.t 145)], none⟩,
          ⟨some 14, .val (.t 146), none⟩] [])
         (.seq (.ops 28 false [
           ⟨some 147, .val (.t 5), none⟩,
           ⟨some 148, .call 25 [(.t 147)], none⟩,
           ⟨some 15, .val (.t 148), none⟩] [])
          (.seq (.ops 29 false [
            ⟨some 149, .val (.t 14), none⟩,
            ⟨some 150, .val (.t 15), none⟩,
            ⟨some 151, .call 26 [(.t 149), (.t 150)], none⟩,
            ⟨some 16, .val (.t 151), none⟩] [])
           (.seq (.ops 30 false [
             ⟨some 152, .val (.t 7), none⟩,
             ⟨some 153, .val (.t 5), none⟩,
             ⟨some 154, .call 27 [(.t 152), (.t 153)], none⟩,
             ⟨some 17, .val (.t 154), none⟩] [])
            (.seq (.seq (.ops 31 false [
               ⟨some 18, .val (.c (.int .i64 0)), none⟩] [])
              (.block 6 (.loop (.seq (.seq (.ops 32 false [
                   ⟨some 155, .val (.t 18), none⟩,
                   ⟨some 156, .val (.t 14), none⟩,
                   ⟨some 157, .len (.t 156), none⟩,
                   ⟨some 158, .bin .lss (.t 155) (.t 157), none⟩] [])
                  (.cond (.t 158) (.skip)
                   (.exit 6)))
                 (.seq (.block 7 (.seq (.ops 34 false [
                     ⟨some 161, .val (.t 4), none⟩,
                     ⟨some 162, .val (.t 14), none⟩,
                     ⟨some 163, .val (.t 18), none⟩,
                     ⟨some 164, .indexS 1 (.t 162) (.t 163), none⟩,
                     ⟨some 165, .load (.t 164), none⟩,
                     ⟨some 166, .call 28 [(.t 161), (.t 165)], none⟩,
                     ⟨some 19, .val (.t 166), none⟩] [])
                    (.seq (.ops 35 false [
                      ⟨some 167, .val (.t 19), none⟩,
                      ⟨some 168, .bin .neq (.t 167) (.c (.int .i64 1)), none⟩] [])
                     (.cond (.t 168) (.seq (.ops 36 false [
                        ⟨some 2, .val (.c (.bool false)), none⟩] [])
                       (.ret))
                      (.skip)))))
                  (.ops 33 false [
                   ⟨some 159, .val (.t 18), none⟩,
                   ⟨some 160, .bin .add (.t 159) (.c (.int .i64 1)), none⟩,
                   ⟨some 18, .val (.t 160), none⟩] []))))))
             (.seq (.ops 37 false [
               ⟨some 169, .val (.t 16), none⟩,
               ⟨some 170, .val (.t 169), none⟩,
               ⟨some 171, .val (.t 17), some (170, true)⟩,
               ⟨some 172, .pick (.t 170) (.t 171) (.c (.bool false)), none⟩,
               ⟨some 173, .val (.t 172), none⟩,
               ⟨some 174, .val (.t 4), some (173, true)⟩,
               ⟨some 175, .nilCheck (.t 174), some (173, true)⟩,
               ⟨some 176, .fieldA 3 (.t 175), some (173, true)⟩,
               ⟨some 177, .load (.t 176), some (173, true)⟩,
               ⟨some 178, .not (.t 177), some (173, true)⟩,
               ⟨some 179, .pick (.t 173) (.t 178) (.c (.bool false)), none⟩,
               ⟨some 180, .val (.t 179), none⟩,
               ⟨some 181, .val (.t 4), some (180, true)⟩,
               ⟨some 182, .nilCheck (.t 181), some (180, true)⟩,
               ⟨some 183, .fieldA 2 (.t 182), some (180, true)⟩,
               ⟨some 184, .load (.t 183), some (180, true)⟩,
               ⟨some 185, .len (.t 184), some (180, true)⟩,
               ⟨some 186, .val (.t 14), some (180, true)⟩,
               ⟨some 187, .len (.t 186), some (180, true)⟩,
               ⟨some 188, .bin .eql (.t 185) (.t 187), some (180, true)⟩,
               ⟨some 189, .pick (.t 180) (.t 188) (.c (.bool false)), none⟩,
               ⟨some 2, .val (.t 189), none⟩] [])
              (.ret))))))))))))))
def rs4 : List RR := [.tmp 2]
theorem fun4 : FunR Tryz.prog 4 rc4 rs4 190 := ⟨Tryz.f4, Tryz.func4, by kernel_rfl, by kernel_rfl, by kernel_rfl⟩
/-- causeway/causewaylaw07.awake -/
def rc18 : RC :=
 .seq (.ops 0 false [
  ⟨some 0, .val (.c (.bool false)), none⟩] [])
 (.seq (.ops 1 false [
   ⟨some 8, .call 41 [], none⟩,
   ⟨some 1, .val (.t 8), none⟩] [])
  (.seq (.seq (.ops 2 false [
     ⟨some 9, .val (.t 1), none⟩,
     ⟨some 10, .eqp .ptr false (.t 9) (.c (.pointer none)), none⟩] [])
    (.cond (.t 10) (.seq (.ops 3 false [
       ⟨some 0, .val (.c (.bool false)), none⟩] [])
      (.ret))
     (.skip)))
   (.seq (.ops 4 false [
     ⟨some 11, .val (.t 1), none⟩,
     ⟨some 12, .buildS 5 2 [(.int .u8 0), (.int .u8 0)] [(0, 1, (.c (.int .u8 1))), (1, 1, (.c (.int .u8 2)))], none⟩,
     ⟨some 13, .call 42 [(.t 11), (.c (.string ⟨#[97]⟩)), (.t 12)], none⟩,
     ⟨some 2, .val (.t 13), none⟩] [])
    (.seq (.ops 5 false [
      ⟨some 14, .val (.t 1), none⟩,
      ⟨some 15, .call 55 [(.t 14)], none⟩,
      ⟨some 3, .val (.t 15), none⟩] [])
     (.seq (.ops 6 false [
       ⟨some 17, .val (.t 1), none⟩,
       ⟨some 18, .iface 99 (.t 17), none⟩,
       ⟨some 19, .call 20 [(.t 18)], none⟩,
       ⟨some 16, .val (.t 19), none⟩,
       ⟨some 20, .extract 0 (.t 16), none⟩,
       ⟨some 21, .extract 1 (.t 16), none⟩,
       ⟨some 4, .val (.t 20), none⟩,
       ⟨some 5, .val (.t 21), none⟩] [])
      (.seq (.seq (.ops 7 false [
         ⟨some 22, .val (.t 4), none⟩,
         ⟨some 23, .eqp .ptr false (.t 22) (.c (.pointer none)), none⟩] [])
        (.cond (.t 23) (.seq (.ops 8 false [
           ⟨some 0, .val (.c (.bool false)), none⟩] [])
          (.ret))
         (.skip)))
       (.seq (.ops 9 false [
         ⟨some 25, .val (.t 4), none⟩,
         ⟨some 26, .call 56 [(.t 25), (.c (.string ⟨#[97]⟩))], none⟩,
         ⟨some 24, .val (.t 26), none⟩,
         ⟨some 27, .extract 0 (.t 24), none⟩,
         ⟨some 28, .extract 1 (.t 24), none⟩,
         ⟨some 6, .val (.t 27), none⟩,
         ⟨some 7, .val (.t 28), none⟩] [])
        (.seq (.ops 10 false [
          ⟨some 29, .val (.t 2), none⟩,
          ⟨some 30, .bin .eql (.t 29) (.c (.int .i64 0)), none⟩,
          ⟨some 31, .val (.t 30), none⟩,
          ⟨some 32, .val (.t 3), some (31, true)⟩,
          ⟨some 33, .bin .eql (.t 32) (.c (.int .i64 1)), some (31, true)⟩,
          ⟨some 34, .pick (.t 31) (.t 33) (.c (.bool false)), none⟩,
          ⟨some 35, .val (.t 34), none⟩,
          ⟨some 36, .val (.t 5), some (35, true)⟩,
          ⟨some 37, .bin .eql (.t 36) (.c (.int .i64 0)), some (35, true)⟩,
          ⟨some 38, .pick (.t 35) (.t 37) (.c (.bool false)), none⟩,
          ⟨some 39, .val (.t 38), none⟩,
          ⟨some 40, .val (.t 7), some (39, true)⟩,
          ⟨some 41, .bin .eql (.t 40) (.c (.int .i64 0)), some (39, true)⟩,
          ⟨some 42, .pick (.t 39) (.t 41) (.c (.bool false)), none⟩,
          ⟨some 43, .val (.t 42), none⟩,
          ⟨some 44, .val (.t 6), some (43, true)⟩,
          ⟨some 45, .cvt 74 9 (.t 44), some (43, true)⟩,
          ⟨some 46, .eqp .str false (.t 45) (.c (.string ⟨#[1, 2]⟩)), some (43, true)⟩,
          ⟨some 47, .pick (.t 43) (.t 46) (.c (.bool false)), none⟩,
          ⟨some 0, .val (.t 47), none⟩] [])
         (.ret)))))))))
def rs18 : List RR := [.tmp 0]
theorem fun18 : FunR Tryz.prog 18 rc18 rs18 48 := ⟨Tryz.f18, Tryz.func18, by kernel_rfl, by kernel_rfl, by kernel_rfl⟩
/-- causeway/causewayref07.Over -/
def rc19 : RC :=
 .seq (.ops 0 false [
  ⟨some 2, .val (.c (.pointer none)), none⟩] [])
 (.seq (.ops 1 false [
   ⟨some 3, .val (.t 0), none⟩,
   ⟨some 4, .build [(.slice none 0 0), (.bool false), (.slice none 0 0), (.slice none 0 0), (.slice none 0 0), (.slice none 0 0), (.int .i64 0)] [(0, 1, (.t 3))], none⟩,
   ⟨some 5, .box 70 (.t 4), none⟩,
   ⟨some 2, .val (.t 5), none⟩] [])
  (.ret))
def rs19 : List RR := [.tmp 2]
theorem fun19 : FunR Tryz.prog 19 rc19 rs19 6 := ⟨Tryz.f19, Tryz.func19, by kernel_rfl, by kernel_rfl, by kernel_rfl⟩
/-- causeway/store.Over -/
def rc20 : RC :=
 .seq (.ops 0 false [
  ⟨some 2, .val (.c (.pointer none)), none⟩,
  ⟨some 3, .val (.c (.int .i64 0)), none⟩] [])
 (.seq (.seq (.ops 1 false [
    ⟨some 4, .val (.t 0), none⟩,
    ⟨some 5, .eqp .ifc false (.t 4) (.c .nilIface), none⟩] [])
   (.cond (.t 5) (.seq (.ops 2 false [
      ⟨some 2, .val (.c (.pointer none)), none⟩,
      ⟨some 3, .val (.c (.int .i64 1)), none⟩] [])
     (.ret))
    (.skip)))
  (.seq (.ops 3 false [
    ⟨some 6, .val (.t 0), none⟩,
    ⟨some 7, .mkMap 115, none⟩,
    ⟨some 8, .mkMap 115, none⟩,
    ⟨some 9, .build [.nilIface, (.map none), (.map none), (.slice none 0 0), (.slice none 0 0)] [(0, 1, (.t 6)), (1, 1, (.t 7)), (2, 1, (.t 8))], none⟩,
    ⟨some 10, .box 118 (.t 9), none⟩,
    ⟨some 2, .val (.t 10), none⟩,
    ⟨some 3, .val (.c (.int .i64 0)), none⟩] [])
   (.ret)))
def rs20 : List RR := [.tmp 2, .tmp 3]
theorem fun20 : FunR Tryz.prog 20 rc20 rs20 11 := ⟨Tryz.f20, Tryz.func20, by kernel_rfl, by kernel_rfl, by kernel_rfl⟩
/-- causeway/causewaylaw07.play -/
def rc21 : RC :=
 .seq (.ops 0 false [
  ⟨some 7, .box 76 (.t 3), none⟩,
  ⟨some 8, .val (.c (.bool false)), none⟩] [])
 (.seq (.seq (.ops 1 false [
    ⟨some 29, .fieldA 0 (.t 7), none⟩,
    ⟨some 30, .load (.t 29), none⟩] [])
   (.block 0 (.seq (.ops 2 false [
      ⟨some 32, .bin .eql (.t 30) (.c (.int .i64 1)), none⟩,
      ⟨some 31, .val (.t 32), none⟩] [])
     (.cond (.t 31) (.seq (.ops 3 false [
        ⟨some 34, .val (.t 1), none⟩,
        ⟨some 35, .fieldA 1 (.t 7), none⟩,
        ⟨some 36, .load (.t 35), none⟩,
        ⟨some 37, .call 56 [(.t 34), (.t 36)], none⟩,
        ⟨some 33, .val (.t 37), none⟩,
        ⟨some 38, .extract 0 (.t 33), none⟩,
        ⟨some 39, .extract 1 (.t 33), none⟩,
        ⟨some 9, .val (.t 38), none⟩,
        ⟨some 10, .val (.t 39), none⟩] [])
       (.seq (.ops 4 false [
         ⟨some 41, .val (.t 1), none⟩,
         ⟨some 42, .fieldA 1 (.t 7), none⟩,
         ⟨some 43, .load (.t 42), none⟩,
         ⟨some 44, .call 56 [(.t 41), (.t 43)], none⟩,
         ⟨some 40, .val (.t 44), none⟩,
         ⟨some 45, .extract 0 (.t 40), none⟩,
         ⟨some 46, .extract 1 (.t 40), none⟩,
         ⟨some 11, .val (.t 45), none⟩,
         ⟨some 12, .val (.t 46), none⟩] [])
        (.seq (.ops 5 false [
          ⟨some 48, .val (.t 2), none⟩,
          ⟨some 49, .fieldA 1 (.t 7), none⟩,
          ⟨some 50, .load (.t 49), none⟩,
          ⟨some 51, .call 57 [(.t 48), (.t 50)], none⟩,
          ⟨some 47, .val (.t 51), none⟩,
          ⟨some 52, .extract 0 (.t 47), none⟩,
          ⟨some 53, .extract 1 (.t 47), none⟩,
          ⟨some 13, .val (.t 52), none⟩,
          ⟨some 14, .val (.t 53), none⟩] [])
         (.seq (.ops 6 false [
           ⟨some 54, .val (.t 9), none⟩,
           ⟨some 55, .val (.t 13), none⟩,
           ⟨some 56, .call 58 [(.t 54), (.t 55)], none⟩,
           ⟨some 15, .val (.t 56), none⟩] [])
          (.seq (.ops 7 false [
            ⟨some 57, .val (.t 11), none⟩,
            ⟨some 58, .val (.t 13), none⟩,
            ⟨some 59, .call 58 [(.t 57), (.t 58)], none⟩,
            ⟨some 16, .val (.t 59), none⟩] [])
           (.seq (.ops 8 false [
             ⟨some 60, .val (.t 9), none⟩,
             ⟨some 61, .val (.t 11), none⟩,
             ⟨some 62, .call 59 [(.t 60), (.t 61)], none⟩,
             ⟨some 17, .val (.t 62), none⟩] [])
            (.seq (.ops 9 false [
              ⟨some 63, .val (.t 15), none⟩,
              ⟨some 64, .val (.t 63), none⟩,
              ⟨some 65, .val (.t 16), some (64, true)⟩,
              ⟨some 66, .pick (.t 64) (.t 65) (.c (.bool false)), none⟩,
              ⟨some 67, .val (.t 66), none⟩,
              ⟨some 68, .val (.t 17), some (67, true)⟩,
              ⟨some 69, .pick (.t 67) (.t 68) (.c (.bool false)), none⟩,
              ⟨some 70, .val (.t 69), none⟩,
              ⟨some 71, .val (.t 10), some (70, true)⟩,
              ⟨some 72, .val (.t 14), some (70, true)⟩,
              ⟨some 73, .bin .eql (.t 71) (.t 72), some (70, true)⟩,
              ⟨some 74, .pick (.t 70) (.t 73) (.c (.bool false)), none⟩,
              ⟨some 8, .val (.t 74), none⟩] [])
             (.ret))))))))
      (.seq (.ops 10 false [
        ⟨some 76, .bin .eql (.t 30) (.c (.int .i64 2)), none⟩,
        ⟨some 75, .val (.t 76), none⟩] [])
       (.cond (.t 75) (.seq (.ops 11 false [
          ⟨some 77, .fieldA 2 (.t 7), none⟩,
          ⟨some 78, .load (.t 77), none⟩,
          ⟨some 79, .call 60 [(.t 78)], none⟩,
          ⟨some 18, .val (.t 79), none⟩] [])
         (.seq (.ops 12 true [
           ⟨some 80, .val (.t 1), none⟩,
           ⟨some 81, .fieldA 1 (.t 7), none⟩,
           ⟨some 82, .load (.t 81), none⟩,
           ⟨some 83, .val (.t 18), none⟩,
           ⟨some 84, .fieldA 2 (.t 7), none⟩,
           ⟨some 85, .load (.t 84), none⟩,
           ⟨some 86, .len (.t 85), none⟩,
           ⟨some 87, .slice 1 (.t 83) none (some (.t 86)) none, none⟩,
           ⟨some 88, .call 61 [(.t 80), (.t 82), (.t 87)], none⟩,
           ⟨some 19, .val (.t 88), none⟩] [([], []), ([], []), ([1], [1]), ([], []), ([], []), ([4], [4]), ([5], [5]), ([3, 6], [3, 6]), ([0, 2, 7], [0, 2, 7]), ([8, 8, 0, 1, 2, 3, 4, 5, 6, 7, 8], [8])])
          (.seq (.ops 13 false [
            ⟨some 89, .val (.t 18), none⟩,
            ⟨some 90, .fieldA 2 (.t 7), none⟩,
            ⟨some 91, .load (.t 90), none⟩,
            ⟨some 92, .call 22 [(.t 89), (.t 91)], none⟩,
            ⟨some 20, .val (.t 92), none⟩] [])
           (.seq (.ops 14 false [
             ⟨some 93, .val (.t 18), none⟩,
             ⟨some 94, .call 23 [(.t 93)], none⟩] [])
            (.seq (.ops 15 false [
              ⟨some 95, .val (.t 2), none⟩,
              ⟨some 96, .fieldA 1 (.t 7), none⟩,
              ⟨some 97, .load (.t 96), none⟩,
              ⟨some 98, .fieldA 2 (.t 7), none⟩,
              ⟨some 99, .load (.t 98), none⟩,
              ⟨some 100, .call 62 [(.t 95), (.t 97), (.t 99)], none⟩,
              ⟨some 21, .val (.t 100), none⟩] [])
             (.seq (.ops 16 false [
               ⟨some 101, .val (.t 20), none⟩,
               ⟨some 102, .val (.t 101), none⟩,
               ⟨some 103, .val (.t 19), some (102, true)⟩,
               ⟨some 104, .val (.t 21), some (102, true)⟩,
               ⟨some 105, .bin .eql (.t 103) (.t 104), some (102, true)⟩,
               ⟨some 106, .pick (.t 102) (.t 105) (.c (.bool false)), none⟩,
               ⟨some 8, .val (.t 106), none⟩] [])
              (.ret)))))))
        (.seq (.ops 17 false [
          ⟨some 108, .bin .eql (.t 30) (.c (.int .i64 3)), none⟩,
          ⟨some 107, .val (.t 108), none⟩] [])
         (.cond (.t 107) (.seq (.ops 18 false [
            ⟨some 109, .val (.t 1), none⟩,
            ⟨some 110, .call 49 [(.t 109)], none⟩,
            ⟨some 22, .val (.t 110), none⟩] [])
           (.seq (.ops 19 false [
             ⟨some 111, .val (.t 2), none⟩,
             ⟨some 112, .call 63 [(.t 111)], none⟩,
             ⟨some 23, .val (.t 112), none⟩] [])
            (.seq (.ops 20 false [
              ⟨some 113, .val (.t 22), none⟩,
              ⟨some 114, .val (.t 23), none⟩,
              ⟨some 115, .bin .eql (.t 113) (.t 114), none⟩,
              ⟨some 8, .val (.t 115), none⟩] [])
             (.ret))))
          (.seq (.ops 21 false [
            ⟨some 117, .bin .eql (.t 30) (.c (.int .i64 4)), none⟩,
            ⟨some 116, .val (.t 117), none⟩] [])
           (.cond (.t 116) (.seq (.ops 22 false [
              ⟨some 118, .val (.t 1), none⟩,
              ⟨some 119, .fieldA 3 (.t 7), none⟩,
              ⟨some 120, .load (.t 119), none⟩,
              ⟨some 121, .call 50 [(.t 118), (.t 120)], none⟩,
              ⟨some 24, .val (.t 121), none⟩] [])
             (.seq (.ops 23 false [
               ⟨some 122, .val (.t 2), none⟩,
               ⟨some 123, .fieldA 3 (.t 7), none⟩,
               ⟨some 124, .load (.t 123), none⟩,
               ⟨some 125, .call 64 [(.t 122), (.t 124)], none⟩,
               ⟨some 25, .val (.t 125), none⟩] [])
              (.seq (.ops 24 false [
                ⟨some 126, .val (.t 24), none⟩,
                ⟨some 127, .val (.t 25), none⟩,
                ⟨some 128, .bin .eql (.t 126) (.t 127), none⟩,
                ⟨some 8, .val (.t 128), none⟩] [])
               (.ret))))
            (.seq (.ops 25 false [
              ⟨some 130, .bin .eql (.t 30) (.c (.int .i64 5)), none⟩,
              ⟨some 129, .val (.t 130), none⟩] [])
             (.cond (.t 129) (.seq (.ops 26 false [
                ⟨some 131, .val (.t 1), none⟩,
                ⟨some 132, .call 24 [(.t 131)], none⟩,
                ⟨some 26, .val (.t 132), none⟩] [])
               (.seq (.ops 27 false [
                 ⟨some 133, .val (.t 2), none⟩,
                 ⟨some 134, .call 25 [(.t 133)], none⟩,
                 ⟨some 27, .val (.t 134), none⟩] [])
                (.seq (.ops 28 false [
                  ⟨some 135, .val (.t 26), none⟩,
                  ⟨some 136, .val (.t 27), none⟩,
                  ⟨some 137, .call 26 [(.t 135), (.t 136)], none⟩,
                  ⟨some 8, .val (.t 137), none⟩] [])
                 (.ret))))
              (.seq (.ops 29 false [
                ⟨some 139, .bin .eql (.t 30) (.c (.int .i64 6)), none⟩,
                ⟨some 138, .val (.t 139), none⟩] [])
               (.cond (.t 138) (.seq (.ops 30 false [
                  ⟨some 140, .val (.t 1), none⟩,
                  ⟨some 141, .val (.t 2), none⟩,
                  ⟨some 142, .call 27 [(.t 140), (.t 141)], none⟩,
                  ⟨some 8, .val (.t 142), none⟩] [])
                 (.ret))
                (.seq (.ops 31 false [
                  ⟨some 144, .bin .eql (.t 30) (.c (.int .i64 7)), none⟩,
                  ⟨some 143, .val (.t 144), none⟩] [])
                 (.cond (.t 143) (.seq (.ops 32 false [
                    ⟨some 28, .val (.c (.int .i64 0)), none⟩] [])
                   (.block 1 (.loop (.seq (.seq (.ops 33 false [
                        ⟨some 145, .val (.t 28), none⟩,
                        ⟨some 146, .val (.t 0), none⟩,
                        ⟨some 147, .nilCheck (.t 146), none⟩,
                        ⟨some 148, .fieldA 1 (.t 147), none⟩,
                        ⟨some 149, .load (.t 148), none⟩,
                        ⟨some 150, .len (.t 149), none⟩,
                        ⟨some 151, .bin .lss (.t 145) (.t 150), none⟩] [])
                       (.cond (.t 151) (.skip)
                        (.exit 1)))
                      (.seq (.block 2 (.seq (.ops 35 true [
                          ⟨some 154, .val (.t 0), none⟩,
                          ⟨some 155, .nilCheck (.t 154), none⟩,
                          ⟨some 156, .fieldA 1 (.t 155), none⟩,
                          ⟨some 157, .load (.t 156), none⟩,
                          ⟨some 158, .val (.t 28), none⟩,
                          ⟨some 159, .indexS 2 (.t 157) (.t 158), none⟩,
                          ⟨some 160, .fieldA 0 (.t 159), none⟩,
                          ⟨some 161, .load (.t 160), none⟩,
                          ⟨some 162, .fieldA 1 (.t 7), none⟩,
                          ⟨some 163, .load (.t 162), none⟩,
                          ⟨some 164, .eqp .str false (.t 161) (.t 163), none⟩] [([], []), ([0], [0]), ([1], [1]), ([2], [2]), ([], []), ([3, 4], [3, 4]), ([5], [5]), ([6], [6]), ([], []), ([8], [8]), ([7, 9], [7, 9])])
                         (.cond (.t 164) (.seq (.ops 36 false [
                            ⟨some 165, .val (.t 0), none⟩,
                            ⟨some 166, .nilCheck (.t 165), none⟩,
                            ⟨some 167, .fieldA 1 (.t 166), none⟩,
                            ⟨some 168, .load (.t 167), none⟩,
                            ⟨some 169, .val (.t 28), none⟩,
                            ⟨some 170, .indexS 2 (.t 168) (.t 169), none⟩,
                            ⟨some 171, .fieldA 1 (.t 170), none⟩,
                            ⟨none, .store 1 (.t 171) (.c (.int .i64 0)), none⟩] [])
                           (.ops 37 false [
                            ⟨some 172, .val (.t 2), none⟩,
                            ⟨some 173, .nilCheck (.t 172), none⟩,
                            ⟨some 174, .fieldA 2 (.t 173), none⟩,
                            ⟨some 175, .load (.t 174), none⟩,
                            ⟨some 176, .val (.t 28), none⟩,
                            ⟨some 177, .indexS 2 (.t 175) (.t 176), none⟩,
                            ⟨some 178, .fieldA 1 (.t 177), none⟩,
                            ⟨none, .store 1 (.t 178) (.c (.int .i64 0)), none⟩] []))
                          (.skip))))
                       (.ops 34 false [
                        ⟨some 152, .val (.t 28), none⟩,
                        ⟨some 153, .bin .add (.t 152) (.c (.int .i64 1)), none⟩,
                        ⟨some 28, .val (.t 153), none⟩] []))))))
                  (.seq (.ops 38 false [
                    ⟨some 180, .bin .eql (.t 30) (.c (.int .i64 8)), none⟩,
                    ⟨some 179, .val (.t 180), none⟩] [])
                   (.cond (.t 179) (.seq (.ops 39 true [
                      ⟨some 181, .val (.t 0), none⟩,
                      ⟨some 182, .val (.t 0), none⟩,
                      ⟨some 183, .nilCheck (.t 182), none⟩,
                      ⟨some 184, .fieldA 0 (.t 183), none⟩,
                      ⟨some 185, .load (.t 184), none⟩,
                      ⟨some 186, .fieldA 1 (.t 7), none⟩,
                      ⟨some 187, .load (.t 186), none⟩,
                      ⟨some 188, .fieldA 2 (.t 7), none⟩,
                      ⟨some 189, .load (.t 188), none⟩,
                      ⟨some 190, .call 65 [(.t 185), (.t 187), (.t 189)], none⟩,
                      ⟨some 191, .nilCheck (.t 181), none⟩,
                      ⟨some 192, .fieldA 0 (.t 191), none⟩,
                      ⟨none, .store 1 (.t 192) (.t 190), none⟩] [([], []), ([], []), ([1], [1]), ([2], [2]), ([3], [3]), ([], []), ([5], [5]), ([], []), ([7], [7]), ([4, 6, 8], [4, 6, 8]), ([0, 0, 1, 2, 3, 4, 5, 6, 7, 8, 9], [0]), ([10, 0, 1, 2, 3, 4, 5, 6, 7, 8, 9], [10]), ([11, 9, 9, 0, 1, 2, 3, 4, 5, 6, 7, 8, 9], [9, 11])])
                     (.ops 40 true [
                      ⟨some 193, .val (.t 2), none⟩,
                      ⟨some 194, .val (.t 2), none⟩,
                      ⟨some 195, .nilCheck (.t 194), none⟩,
                      ⟨some 196, .fieldA 0 (.t 195), none⟩,
                      ⟨some 197, .load (.t 196), none⟩,
                      ⟨some 198, .fieldA 1 (.t 7), none⟩,
                      ⟨some 199, .load (.t 198), none⟩,
                      ⟨some 200, .fieldA 2 (.t 7), none⟩,
                      ⟨some 201, .load (.t 200), none⟩,
                      ⟨some 202, .call 65 [(.t 197), (.t 199), (.t 201)], none⟩,
                      ⟨some 203, .nilCheck (.t 193), none⟩,
                      ⟨some 204, .fieldA 0 (.t 203), none⟩,
                      ⟨none, .store 1 (.t 204) (.t 202), none⟩] [([], []), ([], []), ([1], [1]), ([2], [2]), ([3], [3]), ([], []), ([5], [5]), ([], []), ([7], [7]), ([4, 6, 8], [4, 6, 8]), ([0, 0, 1, 2, 3, 4, 5, 6, 7, 8, 9], [0]), ([10, 0, 1, 2, 3, 4, 5, 6, 7, 8, 9], [10]), ([11, 9, 9, 0, 1, 2, 3, 4, 5, 6, 7, 8, 9], [9, 11])]))
                    (.skip)))))))))))))))))))
  (.seq (.ops 41 false [
    ⟨some 8, .val (.c (.bool true)), none⟩] [])
   (.ret)))
def rs21 : List RR := [.tmp 8]
theorem fun21 : FunR Tryz.prog 21 rc21 rs21 205 := ⟨Tryz.f21, Tryz.func21, by kernel_rfl, by kernel_rfl, by kernel_rfl⟩
/-- causeway/causewaylaw07.kept -/
def rc22 : RC :=
 .seq (.ops 0 false [
  ⟨some 4, .val (.c (.bool false)), none⟩] [])
 (.seq (.seq (.ops 1 false [
    ⟨some 6, .val (.t 1), none⟩,
    ⟨some 7, .len (.t 6), none⟩,
    ⟨some 5, .val (.t 7), none⟩] [])
   (.block 0 (.loop (.seq (.seq (.ops 2 false [
        ⟨some 8, .val (.t 5), none⟩,
        ⟨some 9, .val (.t 0), none⟩,
        ⟨some 10, .len (.t 9), none⟩,
        ⟨some 11, .bin .lss (.t 8) (.t 10), none⟩] [])
       (.cond (.t 11) (.skip)
        (.exit 0)))
      (.seq (.block 1 (.seq (.ops 4 false [
          ⟨some 14, .val (.t 0), none⟩,
          ⟨some 15, .val (.t 5), none⟩,
          ⟨some 16, .indexS 1 (.t 14) (.t 15), none⟩,
          ⟨some 17, .load (.t 16), none⟩,
          ⟨some 18, .bin .neq (.t 17) (.c (.int .u8 201)), none⟩] [])
         (.cond (.t 18) (.seq (.ops 5 false [
            ⟨some 4, .val (.c (.bool false)), none⟩] [])
           (.ret))
          (.skip))))
       (.ops 3 false [
        ⟨some 12, .val (.t 5), none⟩,
        ⟨some 13, .bin .add (.t 12) (.c (.int .i64 1)), none⟩,
        ⟨some 5, .val (.t 13), none⟩] []))))))
  (.seq (.ops 6 false [
    ⟨some 19, .val (.t 0), none⟩,
    ⟨some 20, .val (.t 1), none⟩,
    ⟨some 21, .len (.t 20), none⟩,
    ⟨some 22, .slice 1 (.t 19) none (some (.t 21)) none, none⟩,
    ⟨some 23, .val (.t 1), none⟩,
    ⟨some 24, .call 58 [(.t 22), (.t 23)], none⟩,
    ⟨some 4, .val (.t 24), none⟩] [])
   (.ret)))
def rs22 : List RR := [.tmp 4]
theorem fun22 : FunR Tryz.prog 22 rc22 rs22 25 := ⟨Tryz.f22, Tryz.func22, by kernel_rfl, by kernel_rfl, by kernel_rfl⟩
/-- causeway/causewaylaw07.spoil -/
def rc23 : RC :=
 .seq (.ops 0 false [
  ⟨some 2, .val (.c (.int .i64 0)), none⟩] [])
 (.block 0 (.loop (.seq (.seq (.ops 1 false [
      ⟨some 3, .val (.t 2), none⟩,
      ⟨some 4, .val (.t 0), none⟩,
      ⟨some 5, .len (.t 4), none⟩,
      ⟨some 6, .bin .lss (.t 3) (.t 5), none⟩] [])
     (.cond (.t 6) (.skip)
      (.exit 0)))
    (.seq (.block 1 (.ops 3 false [
       ⟨some 9, .val (.t 0), none⟩,
       ⟨some 10, .val (.t 2), none⟩,
       ⟨some 11, .val (.t 0), none⟩,
       ⟨some 12, .val (.t 2), none⟩,
       ⟨some 13, .indexS 1 (.t 11) (.t 12), none⟩,
       ⟨some 14, .load (.t 13), none⟩,
       ⟨some 15, .bin .xor (.t 14) (.c (.int .u8 165)), none⟩,
       ⟨some 16, .indexS 1 (.t 9) (.t 10), none⟩,
       ⟨none, .store 1 (.t 16) (.t 15), none⟩] []))
     (.ops 2 false [
      ⟨some 7, .val (.t 2), none⟩,
      ⟨some 8, .bin .add (.t 7) (.c (.int .i64 1)), none⟩,
      ⟨some 2, .val (.t 8), none⟩] [])))))
def rs23 : List RR := []
theorem fun23 : FunR Tryz.prog 23 rc23 rs23 17 := ⟨Tryz.f23, Tryz.func23, by kernel_rfl, by kernel_rfl, by kernel_rfl⟩
/-- (*causeway/store.State).Touched -/
def rc24 : RC :=
 .seq (.ops 0 false [
  ⟨some 2, .val (.c (.slice none 0 0)), none⟩] [])
 (.seq (.ops 1 false [
   ⟨some 3, .val (.t 0), none⟩,
   ⟨some 4, .nilCheck (.t 3), none⟩,
   ⟨some 5, .fieldA 1 (.t 4), none⟩,
   ⟨some 6, .load (.t 5), none⟩,
   ⟨some 7, .call 67 [(.t 6)], none⟩,
   ⟨some 8, .call 66 [(.t 7)], none⟩,
   ⟨some 2, .val (.t 8), none⟩] [])
  (.ret))
def rs24 : List RR := [.tmp 2]
theorem fun24 : FunR Tryz.prog 24 rc24 rs24 9 := ⟨Tryz.f24, Tryz.func24, by kernel_rfl, by kernel_rfl, by kernel_rfl⟩
/-- (*causeway/causewayref07.State).Touched -/
def rc25 : RC :=
 .seq (.ops 0 false [
  ⟨some 2, .val (.c (.slice none 0 0)), none⟩] [])
 (.seq (.ops 1 false [
   ⟨some 3, .val (.c (.slice none 0 0)), none⟩] [])
  (.seq (.seq (.ops 2 false [
     ⟨some 4, .val (.c (.int .i64 0)), none⟩] [])
    (.block 0 (.loop (.seq (.seq (.ops 3 false [
         ⟨some 5, .val (.t 4), none⟩,
         ⟨some 6, .val (.t 0), none⟩,
         ⟨some 7, .nilCheck (.t 6), none⟩,
         ⟨some 8, .fieldA 3 (.t 7), none⟩,
         ⟨some 9, .load (.t 8), none⟩,
         ⟨some 10, .len (.t 9), none⟩,
         ⟨some 11, .bin .lss (.t 5) (.t 10), none⟩] [])
        (.cond (.t 11) (.skip)
         (.exit 0)))
       (.seq (.block 1 (.ops 5 false [
          ⟨some 14, .val (.t 3), none⟩,
          ⟨some 15, .val (.t 0), none⟩,
          ⟨some 16, .nilCheck (.t 15), none⟩,
          ⟨some 17, .fieldA 3 (.t 16), none⟩,
          ⟨some 18, .load (.t 17), none⟩,
          ⟨some 19, .val (.t 4), none⟩,
          ⟨some 20, .indexS 2 (.t 18) (.t 19), none⟩,
          ⟨some 21, .fieldA 0 (.t 20), none⟩,
          ⟨some 22, .load (.t 21), none⟩,
          ⟨some 23, .buildS 9 1 [(.string ⟨#[]⟩)] [(0, 1, (.t 22))], none⟩,
          ⟨some 24, .blt .append #[61, 61] 61 [(.t 14), (.t 23)], none⟩,
          ⟨some 3, .val (.t 24), none⟩] []))
        (.ops 4 false [
         ⟨some 12, .val (.t 4), none⟩,
         ⟨some 13, .bin .add (.t 12) (.c (.int .i64 1)), none⟩,
         ⟨some 4, .val (.t 13), none⟩] []))))))
   (.seq (.ops 6 false [
     ⟨some 25, .val (.t 3), none⟩,
     ⟨some 2, .val (.t 25), none⟩] [])
    (.ret))))
def rs25 : List RR := [.tmp 2]
theorem fun25 : FunR Tryz.prog 25 rc25 rs25 26 := ⟨Tryz.f25, Tryz.func25, by kernel_rfl, by kernel_rfl, by kernel_rfl⟩
/-- causeway/causewaylaw07.sameTexts -/
def rc26 : RC :=
 .seq (.ops 0 false [
  ⟨some 4, .val (.c (.bool false)), none⟩] [])
 (.seq (.seq (.ops 1 false [
    ⟨some 6, .val (.t 0), none⟩,
    ⟨some 7, .len (.t 6), none⟩,
    ⟨some 8, .val (.t 1), none⟩,
    ⟨some 9, .len (.t 8), none⟩,
    ⟨some 10, .bin .neq (.t 7) (.t 9), none⟩] [])
   (.cond (.t 10) (.seq (.ops 2 false [
      ⟨some 4, .val (.c (.bool false)), none⟩] [])
     (.ret))
    (.skip)))
  (.seq (.seq (.ops 3 false [
     ⟨some 5, .val (.c (.int .i64 0)), none⟩] [])
    (.block 0 (.loop (.seq (.seq (.ops 4 false [
         ⟨some 11, .val (.t 5), none⟩,
         ⟨some 12, .val (.t 0), none⟩,
         ⟨some 13, .len (.t 12), none⟩,
         ⟨some 14, .bin .lss (.t 11) (.t 13), none⟩] [])
        (.cond (.t 14) (.skip)
         (.exit 0)))
       (.seq (.block 1 (.seq (.ops 6 true [
           ⟨some 17, .val (.t 0), none⟩,
           ⟨some 18, .val (.t 5), none⟩,
           ⟨some 19, .indexS 1 (.t 17) (.t 18), none⟩,
           ⟨some 20, .load (.t 19), none⟩,
           ⟨some 21, .val (.t 1), none⟩,
           ⟨some 22, .val (.t 5), none⟩,
           ⟨some 23, .indexS 1 (.t 21) (.t 22), none⟩,
           ⟨some 24, .load (.t 23), none⟩,
           ⟨some 25, .eqp .str true (.t 20) (.t 24), none⟩] [([], []), ([], []), ([0, 1], [0, 1]), ([2], [2]), ([], []), ([], []), ([4, 5], [4, 5]), ([6], [6]), ([3, 7], [3, 7])])
          (.cond (.t 25) (.seq (.ops 7 false [
             ⟨some 4, .val (.c (.bool false)), none⟩] [])
            (.ret))
           (.skip))))
        (.ops 5 false [
         ⟨some 15, .val (.t 5), none⟩,
         ⟨some 16, .bin .add (.t 15) (.c (.int .i64 1)), none⟩,
         ⟨some 5, .val (.t 16), none⟩] []))))))
   (.seq (.ops 8 false [
     ⟨some 4, .val (.c (.bool true)), none⟩] [])
    (.ret))))
def rs26 : List RR := [.tmp 4]
theorem fun26 : FunR Tryz.prog 26 rc26 rs26 26 := ⟨Tryz.f26, Tryz.func26, by kernel_rfl, by kernel_rfl, by kernel_rfl⟩
/-- causeway/causewaylaw07.changes -/
def rc27 : RC :=
 .seq (.ops 0 false [
  ⟨some 4, .val (.c (.bool false)), none⟩] [])
 (.seq (.ops 1 false [
   ⟨some 14, .val (.t 0), none⟩,
   ⟨some 15, .call 34 [(.t 14)], none⟩,
   ⟨some 5, .val (.t 15), none⟩] [])
  (.seq (.ops 2 false [
    ⟨some 16, .val (.t 0), none⟩,
    ⟨some 17, .call 34 [(.t 16)], none⟩,
    ⟨some 6, .val (.t 17), none⟩] [])
   (.seq (.ops 3 false [
     ⟨some 18, .val (.t 1), none⟩,
     ⟨some 19, .call 35 [(.t 18)], none⟩,
     ⟨some 7, .val (.t 19), none⟩] [])
    (.seq (.ops 4 false [
      ⟨some 20, .val (.t 5), none⟩,
      ⟨some 21, .val (.t 7), none⟩,
      ⟨some 22, .call 68 [(.t 20), (.t 21)], none⟩,
      ⟨some 8, .val (.t 22), none⟩] [])
     (.seq (.ops 5 false [
       ⟨some 23, .val (.t 6), none⟩,
       ⟨some 24, .val (.t 7), none⟩,
       ⟨some 25, .call 68 [(.t 23), (.t 24)], none⟩,
       ⟨some 9, .val (.t 25), none⟩] [])
      (.seq (.seq (.ops 6 false [
         ⟨some 26, .val (.t 8), none⟩,
         ⟨some 27, .not (.t 26), none⟩,
         ⟨some 28, .val (.t 27), none⟩,
         ⟨some 29, .val (.t 9), some (28, false)⟩,
         ⟨some 30, .not (.t 29), some (28, false)⟩,
         ⟨some 31, .pick (.t 28) (.c (.bool true)) (.t 30), none⟩] [])
        (.cond (.t 31) (.seq (.ops 7 false [
           ⟨some 4, .val (.c (.bool false)), none⟩] [])
          (.ret))
         (.skip)))
       (.seq (.seq (.ops 8 false [
          ⟨some 10, .val (.c (.int .i64 0)), none⟩] [])
         (.block 0 (.loop (.seq (.seq (.ops 9 false [
              ⟨some 32, .val (.t 10), none⟩,
              ⟨some 33, .val (.t 5), none⟩,
              ⟨some 34, .len (.t 33), none⟩,
              ⟨some 35, .bin .lss (.t 32) (.t 34), none⟩] [])
             (.cond (.t 35) (.skip)
              (.exit 0)))
            (.seq (.block 1 (.seq (.ops 11 true [
                ⟨some 38, .val (.t 5), none⟩,
                ⟨some 39, .val (.t 10), none⟩,
                ⟨some 40, .indexS 3 (.t 38) (.t 39), none⟩,
                ⟨some 41, .fieldA 1 (.t 40), none⟩,
                ⟨some 42, .load (.t 41), none⟩,
                ⟨some 43, .val (.t 5), none⟩,
                ⟨some 44, .val (.t 10), none⟩,
                ⟨some 45, .indexS 3 (.t 43) (.t 44), none⟩,
                ⟨some 46, .fieldA 2 (.t 45), none⟩,
                ⟨some 47, .load (.t 46), none⟩,
                ⟨some 48, .call 59 [(.t 42), (.t 47)], none⟩,
                ⟨some 11, .val (.t 48), none⟩] [([], []), ([], []), ([0, 1], [0, 1]), ([2], [2]), ([3], [3]), ([], []), ([], []), ([5, 6], [5, 6]), ([7], [7]), ([8], [8]), ([4, 9], [4, 9]), ([10, 10, 0, 1, 2, 3, 4, 5, 6, 7, 8, 9, 10], [10])])
               (.seq (.ops 12 true [
                 ⟨some 49, .val (.t 6), none⟩,
                 ⟨some 50, .val (.t 10), none⟩,
                 ⟨some 51, .indexS 3 (.t 49) (.t 50), none⟩,
                 ⟨some 52, .fieldA 2 (.t 51), none⟩,
                 ⟨some 53, .load (.t 52), none⟩,
                 ⟨some 54, .val (.t 6), none⟩,
                 ⟨some 55, .val (.t 10), none⟩,
                 ⟨some 56, .indexS 3 (.t 54) (.t 55), none⟩,
                 ⟨some 57, .fieldA 1 (.t 56), none⟩,
                 ⟨some 58, .load (.t 57), none⟩,
                 ⟨some 59, .call 59 [(.t 53), (.t 58)], none⟩,
                 ⟨some 12, .val (.t 59), none⟩] [([], []), ([], []), ([0, 1], [0, 1]), ([2], [2]), ([3], [3]), ([], []), ([], []), ([5, 6], [5, 6]), ([7], [7]), ([8], [8]), ([4, 9], [4, 9]), ([10, 10, 0, 1, 2, 3, 4, 5, 6, 7, 8, 9, 10], [10])])
                (.seq (.seq (.ops 13 false [
                   ⟨some 60, .val (.t 11), none⟩,
                   ⟨some 61, .not (.t 60), none⟩,
                   ⟨some 62, .val (.t 61), none⟩,
                   ⟨some 63, .val (.t 12), some (62, false)⟩,
                   ⟨some 64, .not (.t 63), some (62, false)⟩,
                   ⟨some 65, .pick (.t 62) (.c (.bool true)) (.t 64), none⟩] [])
                  (.cond (.t 65) (.seq (.ops 14 false [
                     ⟨some 4, .val (.c (.bool false)), none⟩] [])
                    (.ret))
                   (.skip)))
                 (.ops 15 false [
                  ⟨some 66, .val (.t 5), none⟩,
                  ⟨some 67, .val (.t 10), none⟩,
                  ⟨some 68, .indexS 3 (.t 66) (.t 67), none⟩,
                  ⟨some 69, .fieldA 0 (.t 68), none⟩,
                  ⟨none, .store 1 (.t 69) (.c (.string ⟨#[109, 105, 110, 101]⟩)), none⟩] [])))))
             (.ops 10 false [
              ⟨some 36, .val (.t 10), none⟩,
              ⟨some 37, .bin .add (.t 36) (.c (.int .i64 1)), none⟩,
              ⟨some 10, .val (.t 37), none⟩] []))))))
        (.seq (.ops 16 false [
          ⟨some 70, .val (.t 5), none⟩,
          ⟨some 71, .build [(.string ⟨#[]⟩), (.slice none 0 0), (.slice none 0 0)] [(0, 1, (.c (.string ⟨#[109, 111, 114, 101]⟩)))], none⟩,
          ⟨some 72, .buildS 126 1 [(.string ⟨#[]⟩), (.slice none 0 0), (.slice none 0 0)] [(0, 3, (.t 71))], none⟩,
          ⟨some 73, .blt .append #[89, 89] 89 [(.t 70), (.t 72)], none⟩,
          ⟨some 5, .val (.t 73), none⟩] [])
         (.seq (.ops 17 false [
           ⟨some 74, .val (.t 0), none⟩,
           ⟨some 75, .call 34 [(.t 74)], none⟩,
           ⟨some 13, .val (.t 75), none⟩] [])
          (.seq (.ops 18 false [
            ⟨some 76, .val (.t 5), none⟩,
            ⟨some 77, .len (.t 76), none⟩,
            ⟨some 78, .val (.t 7), none⟩,
            ⟨some 79, .len (.t 78), none⟩,
            ⟨some 80, .bin .add (.t 79) (.c (.int .i64 1)), none⟩,
            ⟨some 81, .bin .eql (.t 77) (.t 80), none⟩,
            ⟨some 82, .val (.t 81), none⟩,
            ⟨some 83, .val (.t 13), some (82, true)⟩,
            ⟨some 84, .val (.t 7), some (82, true)⟩,
            ⟨some 85, .call 68 [(.t 83), (.t 84)], some (82, true)⟩,
            ⟨some 86, .pick (.t 82) (.t 85) (.c (.bool false)), none⟩,
            ⟨some 4, .val (.t 86), none⟩] [])
           (.ret)))))))))))
def rs27 : List RR := [.tmp 4]
theorem fun27 : FunR Tryz.prog 27 rc27 rs27 87 := ⟨Tryz.f27, Tryz.func27, by kernel_rfl, by kernel_rfl, by kernel_rfl⟩
/-- (*causeway/causewaylaw07.teller).often -/
def rc28 : RC :=
 .seq (.ops 0 false [
  ⟨some 4, .val (.c (.int .i64 0)), none⟩] [])
 (.seq (.ops 1 false [
   ⟨some 5, .val (.c (.int .i64 0)), none⟩] [])
  (.seq (.seq (.ops 2 false [
     ⟨some 6, .val (.c (.int .i64 0)), none⟩] [])
    (.block 0 (.loop (.seq (.seq (.ops 3 false [
         ⟨some 7, .val (.t 6), none⟩,
         ⟨some 8, .val (.t 0), none⟩,
         ⟨some 9, .nilCheck (.t 8), none⟩,
         ⟨some 10, .fieldA 2 (.t 9), none⟩,
         ⟨some 11, .load (.t 10), none⟩,
         ⟨some 12, .len (.t 11), none⟩,
         ⟨some 13, .bin .lss (.t 7) (.t 12), none⟩] [])
        (.cond (.t 13) (.skip)
         (.exit 0)))
       (.seq (.block 1 (.seq (.ops 5 false [
           ⟨some 16, .val (.t 0), none⟩,
           ⟨some 17, .nilCheck (.t 16), none⟩,
           ⟨some 18, .fieldA 2 (.t 17), none⟩,
           ⟨some 19, .load (.t 18), none⟩,
           ⟨some 20, .val (.t 6), none⟩,
           ⟨some 21, .indexS 1 (.t 19) (.t 20), none⟩,
           ⟨some 22, .load (.t 21), none⟩,
           ⟨some 23, .val (.t 1), none⟩,
           ⟨some 24, .eqp .str false (.t 22) (.t 23), none⟩] [])
          (.cond (.t 24) (.ops 6 false [
            ⟨some 25, .val (.t 5), none⟩,
            ⟨some 26, .bin .add (.t 25) (.c (.int .i64 1)), none⟩,
            ⟨some 5, .val (.t 26), none⟩] [])
           (.skip))))
        (.ops 4 false [
         ⟨some 14, .val (.t 6), none⟩,
         ⟨some 15, .bin .add (.t 14) (.c (.int .i64 1)), none⟩,
         ⟨some 6, .val (.t 15), none⟩] []))))))
   (.seq (.ops 7 false [
     ⟨some 27, .val (.t 5), none⟩,
     ⟨some 4, .val (.t 27), none⟩] [])
    (.ret))))
def rs28 : List RR := [.tmp 4]
theorem fun28 : FunR Tryz.prog 28 rc28 rs28 28 := ⟨Tryz.f28, Tryz.func28, by kernel_rfl, by kernel_rfl, by kernel_rfl⟩
/-- causeway/causewayref07.Part -/
def rc30 : RC :=
 .seq (.ops 0 false [
  ⟨some 2, .val (.c (.pointer none)), none⟩] [])
 (.seq (.ops 1 false [
   ⟨some 3, .val (.t 0), none⟩,
   ⟨some 4, .build [(.slice none 0 0), (.bool false), (.slice none 0 0), (.slice none 0 0), (.slice none 0 0), (.slice none 0 0), (.int .i64 0)] [(0, 1, (.t 3)), (1, 1, (.c (.bool true)))], none⟩,
   ⟨some 5, .box 70 (.t 4), none⟩,
   ⟨some 2, .val (.t 5), none⟩] [])
  (.ret))
def rs30 : List RR := [.tmp 2]
theorem fun30 : FunR Tryz.prog 30 rc30 rs30 6 := ⟨Tryz.f30, Tryz.func30, by kernel_rfl, by kernel_rfl, by kernel_rfl⟩
/-- (*causeway/store.State).Changes -/
def rc34 : RC :=
 .seq (.ops 0 false [
  ⟨some 2, .val (.c (.slice none 0 0)), none⟩] [])
 (.seq (.ops 1 false [
   ⟨some 3, .val (.c (.slice none 0 0)), none⟩] [])
  (.seq (.seq (.ops 2 false [
     ⟨some 7, .val (.t 0), none⟩,
     ⟨some 8, .call 24 [(.t 7)], none⟩,
     ⟨some 9, .len (.t 8), none⟩,
     ⟨some 10, .val (.c (.int .i64 0)), none⟩] [])
    (.block 0 (.loop (.seq (.ops 3 false [
        ⟨some 11, .bin .lss (.t 10) (.t 9), none⟩] [])
       (.seq (.cond (.t 11) (.skip)
         (.exit 0))
        (.seq (.block 1 (.seq (.ops 4 false [
            ⟨some 12, .indexS 1 (.t 8) (.t 10), none⟩,
            ⟨some 13, .load (.t 12), none⟩,
            ⟨some 5, .val (.t 13), none⟩] [])
           (.seq (.ops 5 false [
             ⟨some 14, .val (.t 0), none⟩,
             ⟨some 15, .val (.t 5), none⟩,
             ⟨some 16, .call 82 [(.t 14), (.t 15)], none⟩,
             ⟨some 6, .val (.t 16), none⟩] [])
            (.seq (.ops 6 false [
              ⟨some 17, .val (.t 6), none⟩,
              ⟨some 18, .val (.t 0), none⟩,
              ⟨some 19, .nilCheck (.t 18), none⟩,
              ⟨some 20, .fieldA 1 (.t 19), none⟩,
              ⟨some 21, .load (.t 20), none⟩,
              ⟨some 22, .val (.t 5), none⟩,
              ⟨some 23, .look 115 (.t 21) (.t 22) false, none⟩,
              ⟨some 24, .call 83 [(.t 17), (.t 23)], none⟩,
              ⟨some 25, .not (.t 24), none⟩] [])
             (.cond (.t 25) (.ops 7 false [
               ⟨some 26, .val (.t 3), none⟩,
               ⟨some 27, .val (.t 5), none⟩,
               ⟨some 28, .val (.t 0), none⟩,
               ⟨some 29, .nilCheck (.t 28), none⟩,
               ⟨some 30, .fieldA 1 (.t 29), none⟩,
               ⟨some 31, .load (.t 30), none⟩,
               ⟨some 32, .val (.t 5), none⟩,
               ⟨some 33, .look 115 (.t 31) (.t 32) false, none⟩,
               ⟨some 34, .call 84 [(.t 33)], none⟩,
               ⟨some 35, .val (.t 6), none⟩,
               ⟨some 36, .call 84 [(.t 35)], none⟩,
               ⟨some 37, .build [(.string ⟨#[]⟩), (.slice none 0 0), (.slice none 0 0)] [(0, 1, (.t 27)), (1, 1, (.t 34)), (2, 1, (.t 36))], none⟩,
               ⟨some 38, .buildS 126 1 [(.string ⟨#[]⟩), (.slice none 0 0), (.slice none 0 0)] [(0, 3, (.t 37))], none⟩,
               ⟨some 39, .blt .append #[89, 89] 89 [(.t 26), (.t 38)], none⟩,
               ⟨some 3, .val (.t 39), none⟩] [])
              (.skip))))))
         (.ops 8 false [
          ⟨some 40, .bin .add (.t 10) (.c (.int .i64 1)), none⟩,
          ⟨some 10, .val (.t 40), none⟩] [])))))))
   (.seq (.ops 9 false [
     ⟨some 41, .val (.t 3), none⟩,
     ⟨some 2, .val (.t 41), none⟩] [])
    (.ret))))
def rs34 : List RR := [.tmp 2]
theorem fun34 : FunR Tryz.prog 34 rc34 rs34 42 := ⟨Tryz.f34, Tryz.func34, by kernel_rfl, by kernel_rfl, by kernel_rfl⟩
/-- (*causeway/causewayref07.State).Changes -/
def rc35 : RC :=
 .seq (.ops 0 false [
  ⟨some 2, .val (.c (.slice none 0 0)), none⟩] [])
 (.seq (.ops 1 false [
   ⟨some 3, .val (.c (.slice none 0 0)), none⟩] [])
  (.seq (.seq (.ops 2 false [
     ⟨some 4, .val (.c (.int .i64 0)), none⟩] [])
    (.block 0 (.loop (.seq (.seq (.ops 3 false [
         ⟨some 6, .val (.t 4), none⟩,
         ⟨some 7, .val (.t 0), none⟩,
         ⟨some 8, .nilCheck (.t 7), none⟩,
         ⟨some 9, .fieldA 3 (.t 8), none⟩,
         ⟨some 10, .load (.t 9), none⟩,
         ⟨some 11, .len (.t 10), none⟩,
         ⟨some 12, .bin .lss (.t 6) (.t 11), none⟩] [])
        (.cond (.t 12) (.skip)
         (.exit 0)))
       (.seq (.block 1 (.seq (.ops 5 false [
           ⟨some 15, .val (.t 0), none⟩,
           ⟨some 16, .val (.t 0), none⟩,
           ⟨some 17, .nilCheck (.t 16), none⟩,
           ⟨some 18, .fieldA 3 (.t 17), none⟩,
           ⟨some 19, .load (.t 18), none⟩,
           ⟨some 20, .val (.t 4), none⟩,
           ⟨some 21, .indexS 2 (.t 19) (.t 20), none⟩,
           ⟨some 22, .fieldA 0 (.t 21), none⟩,
           ⟨some 23, .load (.t 22), none⟩,
           ⟨some 24, .call 85 [(.t 15), (.t 23)], none⟩,
           ⟨some 5, .val (.t 24), none⟩] [])
          (.seq (.ops 6 true [
            ⟨some 25, .val (.t 5), none⟩,
            ⟨some 26, .cvt 74 9 (.t 25), none⟩,
            ⟨some 27, .val (.t 0), none⟩,
            ⟨some 28, .nilCheck (.t 27), none⟩,
            ⟨some 29, .fieldA 3 (.t 28), none⟩,
            ⟨some 30, .load (.t 29), none⟩,
            ⟨some 31, .val (.t 4), none⟩,
            ⟨some 32, .indexS 2 (.t 30) (.t 31), none⟩,
            ⟨some 33, .fieldA 1 (.t 32), none⟩,
            ⟨some 34, .load (.t 33), none⟩,
            ⟨some 35, .cvt 74 9 (.t 34), none⟩,
            ⟨some 36, .eqp .str true (.t 26) (.t 35), none⟩] [([], []), ([0], [0]), ([], []), ([2], [2]), ([3], [3]), ([4], [4]), ([], []), ([5, 6], [5, 6]), ([7], [7]), ([8], [8]), ([9], [9]), ([1, 10], [1, 10])])
           (.cond (.t 36) (.ops 7 true [
             ⟨some 37, .val (.t 3), none⟩,
             ⟨some 38, .val (.t 0), none⟩,
             ⟨some 39, .nilCheck (.t 38), none⟩,
             ⟨some 40, .fieldA 3 (.t 39), none⟩,
             ⟨some 41, .load (.t 40), none⟩,
             ⟨some 42, .val (.t 4), none⟩,
             ⟨some 43, .indexS 2 (.t 41) (.t 42), none⟩,
             ⟨some 44, .fieldA 0 (.t 43), none⟩,
             ⟨some 45, .load (.t 44), none⟩,
             ⟨some 46, .val (.t 0), none⟩,
             ⟨some 47, .nilCheck (.t 46), none⟩,
             ⟨some 48, .fieldA 3 (.t 47), none⟩,
             ⟨some 49, .load (.t 48), none⟩,
             ⟨some 50, .val (.t 4), none⟩,
             ⟨some 51, .indexS 2 (.t 49) (.t 50), none⟩,
             ⟨some 52, .fieldA 1 (.t 51), none⟩,
             ⟨some 53, .load (.t 52), none⟩,
             ⟨some 54, .call 86 [(.t 53)], none⟩,
             ⟨some 55, .val (.t 5), none⟩,
             ⟨some 56, .call 86 [(.t 55)], none⟩,
             ⟨some 57, .build [(.string ⟨#[]⟩), (.slice none 0 0), (.slice none 0 0)] [(0, 1, (.t 45)), (1, 1, (.t 54)), (2, 1, (.t 56))], none⟩,
             ⟨some 58, .buildS 126 1 [(.string ⟨#[]⟩), (.slice none 0 0), (.slice none 0 0)] [(0, 3, (.t 57))], none⟩,
             ⟨some 59, .blt .append #[89, 89] 89 [(.t 37), (.t 58)], none⟩,
             ⟨some 3, .val (.t 59), none⟩] [([], []), ([], []), ([1], [1]), ([2], [2]), ([3], [3]), ([], []), ([4, 5], [4, 5]), ([6], [6]), ([7], [7]), ([], []), ([9], [9]), ([10], [10]), ([11], [11]), ([], []), ([12, 13], [12, 13]), ([14], [14]), ([15], [15]), ([16], [16]), ([], []), ([18, 17], [18]), ([8, 17, 19], [8, 17, 19]), ([20], [20]), ([0, 21, 19], [0, 21]), ([22, 22, 0, 1, 2, 3, 4, 5, 6, 7, 8, 9, 10, 11, 12, 13, 14, 15, 16, 17, 18, 19, 20, 21, 22], [0, 22])])
            (.skip)))))
        (.ops 4 false [
         ⟨some 13, .val (.t 4), none⟩,
         ⟨some 14, .bin .add (.t 13) (.c (.int .i64 1)), none⟩,
         ⟨some 4, .val (.t 14), none⟩] []))))))
   (.seq (.ops 8 false [
     ⟨some 60, .val (.t 3), none⟩,
     ⟨some 2, .val (.t 60), none⟩] [])
    (.ret))))
def rs35 : List RR := [.tmp 2]
theorem fun35 : FunR Tryz.prog 35 rc35 rs35 61 := ⟨Tryz.f35, Tryz.func35, by kernel_rfl, by kernel_rfl, by kernel_rfl⟩
/-- causeway/store.NewTable -/
def rc41 : RC :=
 .seq (.ops 0 false [
  ⟨some 0, .val (.c (.pointer none)), none⟩] [])
 (.seq (.ops 1 false [
   ⟨some 1, .mkMap 115, none⟩,
   ⟨some 2, .call 99 [], none⟩,
   ⟨some 3, .mkMap 149, none⟩,
   ⟨some 4, .build [(.map none), (.pointer none), (.map none)] [(0, 1, (.t 1)), (1, 1, (.t 2)), (2, 1, (.t 3))], none⟩,
   ⟨some 5, .box 151 (.t 4), none⟩,
   ⟨some 0, .val (.t 5), none⟩] [])
  (.ret))
def rs41 : List RR := [.tmp 0]
theorem fun41 : FunR Tryz.prog 41 rc41 rs41 6 := ⟨Tryz.f41, Tryz.func41, by kernel_rfl, by kernel_rfl, by kernel_rfl⟩
/-- (*causeway/store.Table).Put -/
def rc42 : RC :=
 .seq (.ops 0 false [
  ⟨some 6, .val (.c (.int .i64 0)), none⟩] [])
 (.seq (.seq (.ops 1 false [
    ⟨some 8, .val (.t 1), none⟩,
    ⟨some 9, .val (.t 2), none⟩,
    ⟨some 10, .call 100 [(.t 8), (.t 9)], none⟩,
    ⟨some 7, .val (.t 10), none⟩] [])
   (.seq (.ops 2 false [
     ⟨some 11, .val (.t 7), none⟩,
     ⟨some 12, .bin .neq (.t 11) (.c (.int .i64 0)), none⟩] [])
    (.cond (.t 12) (.seq (.ops 3 false [
       ⟨some 13, .val (.t 7), none⟩,
       ⟨some 6, .val (.t 13), none⟩] [])
      (.ret))
     (.skip))))
  (.seq (.ops 4 false [
    ⟨some 14, .val (.t 0), none⟩,
    ⟨some 15, .val (.t 1), none⟩,
    ⟨some 16, .val (.t 2), none⟩,
    ⟨some 17, .call 101 [(.t 14), (.t 15), (.t 16)], none⟩] [])
   (.seq (.ops 5 false [
     ⟨some 6, .val (.c (.int .i64 0)), none⟩] [])
    (.ret))))
def rs42 : List RR := [.tmp 6]
theorem fun42 : FunR Tryz.prog 42 rc42 rs42 18 := ⟨Tryz.f42, Tryz.func42, by kernel_rfl, by kernel_rfl, by kernel_rfl⟩
/-- (*causeway/store.State).Mark -/
def rc49 : RC :=
 .seq (.ops 0 false [
  ⟨some 2, .val (.c (.int .i64 0)), none⟩] [])
 (.seq (.ops 1 true [
   ⟨some 3, .val (.t 0), none⟩,
   ⟨some 4, .val (.t 0), none⟩,
   ⟨some 5, .nilCheck (.t 4), none⟩,
   ⟨some 6, .fieldA 4 (.t 5), none⟩,
   ⟨some 7, .load (.t 6), none⟩,
   ⟨some 8, .val (.t 0), none⟩,
   ⟨some 9, .nilCheck (.t 8), none⟩,
   ⟨some 10, .fieldA 3 (.t 9), none⟩,
   ⟨some 11, .load (.t 10), none⟩,
   ⟨some 12, .len (.t 11), none⟩,
   ⟨some 13, .buildS 3 1 [(.int .i64 0)] [(0, 1, (.t 12))], none⟩,
   ⟨some 14, .blt .append #[31, 31] 31 [(.t 7), (.t 13)], none⟩,
   ⟨some 15, .nilCheck (.t 3), none⟩,
   ⟨some 16, .fieldA 4 (.t 15), none⟩,
   ⟨none, .store 1 (.t 16) (.t 14), none⟩] [([], []), ([], []), ([1], [1]), ([2], [2]), ([3], [3]), ([], []), ([5], [5]), ([6], [6]), ([7], [7]), ([8], [8]), ([9], [9]), ([4, 10], [4, 10]), ([0, 0, 1, 2, 3, 4, 5, 6, 7, 8, 9, 10, 11], [0]), ([12, 0, 1, 2, 3, 4, 5, 6, 7, 8, 9, 10, 11], [12]), ([13, 11, 11, 0, 1, 2, 3, 4, 5, 6, 7, 8, 9, 10, 11], [11, 13])])
  (.seq (.ops 2 false [
    ⟨some 17, .val (.t 0), none⟩,
    ⟨some 18, .nilCheck (.t 17), none⟩,
    ⟨some 19, .fieldA 4 (.t 18), none⟩,
    ⟨some 20, .load (.t 19), none⟩,
    ⟨some 21, .len (.t 20), none⟩,
    ⟨some 22, .bin .sub (.t 21) (.c (.int .i64 1)), none⟩,
    ⟨some 2, .val (.t 22), none⟩] [])
   (.ret)))
def rs49 : List RR := [.tmp 2]
theorem fun49 : FunR Tryz.prog 49 rc49 rs49 23 := ⟨Tryz.f49, Tryz.func49, by kernel_rfl, by kernel_rfl, by kernel_rfl⟩
/-- (*causeway/store.State).Back -/
def rc50 : RC :=
 .seq (.ops 0 false [
  ⟨some 4, .val (.c (.int .i64 0)), none⟩] [])
 (.seq (.seq (.ops 1 false [
    ⟨some 8, .val (.t 1), none⟩,
    ⟨some 9, .bin .lss (.t 8) (.c (.int .i64 0)), none⟩,
    ⟨some 10, .val (.t 9), none⟩,
    ⟨some 11, .val (.t 1), some (10, false)⟩,
    ⟨some 12, .val (.t 0), some (10, false)⟩,
    ⟨some 13, .nilCheck (.t 12), some (10, false)⟩,
    ⟨some 14, .fieldA 4 (.t 13), some (10, false)⟩,
    ⟨some 15, .load (.t 14), some (10, false)⟩,
    ⟨some 16, .len (.t 15), some (10, false)⟩,
    ⟨some 17, .bin .geq (.t 11) (.t 16), some (10, false)⟩,
    ⟨some 18, .pick (.t 10) (.c (.bool true)) (.t 17), none⟩] [])
   (.cond (.t 18) (.seq (.ops 2 false [
      ⟨some 4, .val (.c (.int .i64 72)), none⟩] [])
     (.ret))
    (.skip)))
  (.seq (.ops 3 false [
    ⟨some 19, .val (.t 0), none⟩,
    ⟨some 20, .nilCheck (.t 19), none⟩,
    ⟨some 21, .fieldA 4 (.t 20), none⟩,
    ⟨some 22, .load (.t 21), none⟩,
    ⟨some 23, .val (.t 1), none⟩,
    ⟨some 24, .indexS 1 (.t 22) (.t 23), none⟩,
    ⟨some 25, .load (.t 24), none⟩,
    ⟨some 5, .val (.t 25), none⟩] [])
   (.seq (.seq (.ops 4 false [
      ⟨some 26, .val (.t 0), none⟩,
      ⟨some 27, .nilCheck (.t 26), none⟩,
      ⟨some 28, .fieldA 3 (.t 27), none⟩,
      ⟨some 29, .load (.t 28), none⟩,
      ⟨some 30, .len (.t 29), none⟩,
      ⟨some 31, .bin .sub (.t 30) (.c (.int .i64 1)), none⟩,
      ⟨some 6, .val (.t 31), none⟩] [])
     (.block 0 (.loop (.seq (.seq (.ops 5 false [
          ⟨some 32, .val (.t 6), none⟩,
          ⟨some 33, .val (.t 5), none⟩,
          ⟨some 34, .bin .geq (.t 32) (.t 33), none⟩] [])
         (.cond (.t 34) (.skip)
          (.exit 0)))
        (.seq (.block 1 (.seq (.ops 7 false [
            ⟨some 37, .val (.t 0), none⟩,
            ⟨some 38, .nilCheck (.t 37), none⟩,
            ⟨some 39, .fieldA 3 (.t 38), none⟩,
            ⟨some 40, .load (.t 39), none⟩,
            ⟨some 41, .val (.t 6), none⟩,
            ⟨some 42, .indexS 3 (.t 40) (.t 41), none⟩,
            ⟨some 43, .loadN 3 (.t 42), none⟩,
            ⟨some 7, .alloc 155 [(.string ⟨#[]⟩), (.slice none 0 0), (.bool false)], none⟩,
            ⟨none, .store 3 (.t 7) (.t 43), none⟩] [])
           (.seq (.ops 8 false [
             ⟨some 44, .fieldA 2 (.t 7), none⟩,
             ⟨some 45, .load (.t 44), none⟩] [])
            (.cond (.t 45) (.ops 9 true [
              ⟨some 46, .val (.t 0), none⟩,
              ⟨some 47, .nilCheck (.t 46), none⟩,
              ⟨some 48, .fieldA 2 (.t 47), none⟩,
              ⟨some 49, .load (.t 48), none⟩,
              ⟨some 50, .fieldA 0 (.t 7), none⟩,
              ⟨some 51, .load (.t 50), none⟩,
              ⟨some 52, .fieldA 1 (.t 7), none⟩,
              ⟨some 53, .load (.t 52), none⟩,
              ⟨none, .upd 115 (.t 49) (.t 51) (.t 53), none⟩] [([], []), ([0], [0]), ([1], [1]), ([2], [2]), ([], []), ([4], [4]), ([], []), ([6], [6]), ([3, 5, 7, 0, 1, 2, 3, 4, 5, 6, 7], [3, 5, 7])])
             (.ops 10 true [
              ⟨some 54, .val (.t 0), none⟩,
              ⟨some 55, .nilCheck (.t 54), none⟩,
              ⟨some 56, .fieldA 2 (.t 55), none⟩,
              ⟨some 57, .load (.t 56), none⟩,
              ⟨some 58, .fieldA 0 (.t 7), none⟩,
              ⟨some 59, .load (.t 58), none⟩,
              ⟨none, .blt .delete #[115, 9] 0 [(.t 57), (.t 59)], none⟩] [([], []), ([0], [0]), ([1], [1]), ([2], [2]), ([], []), ([4], [4]), ([3, 5], [3, 5])])))))
         (.ops 6 false [
          ⟨some 35, .val (.t 6), none⟩,
          ⟨some 36, .bin .sub (.t 35) (.c (.int .i64 1)), none⟩,
          ⟨some 6, .val (.t 36), none⟩] []))))))
    (.seq (.ops 11 false [
      ⟨some 60, .val (.t 0), none⟩,
      ⟨some 61, .val (.t 0), none⟩,
      ⟨some 62, .nilCheck (.t 61), none⟩,
      ⟨some 63, .fieldA 3 (.t 62), none⟩,
      ⟨some 64, .load (.t 63), none⟩,
      ⟨some 65, .val (.t 5), none⟩,
      ⟨some 66, .slice 3 (.t 64) none (some (.t 65)) none, none⟩,
      ⟨some 67, .nilCheck (.t 60), none⟩,
      ⟨some 68, .fieldA 3 (.t 67), none⟩,
      ⟨none, .store 1 (.t 68) (.t 66), none⟩] [])
     (.seq (.ops 12 false [
       ⟨some 69, .val (.t 0), none⟩,
       ⟨some 70, .val (.t 0), none⟩,
       ⟨some 71, .nilCheck (.t 70), none⟩,
       ⟨some 72, .fieldA 4 (.t 71), none⟩,
       ⟨some 73, .load (.t 72), none⟩,
       ⟨some 74, .val (.t 1), none⟩,
       ⟨some 75, .bin .add (.t 74) (.c (.int .i64 1)), none⟩,
       ⟨some 76, .slice 1 (.t 73) none (some (.t 75)) none, none⟩,
       ⟨some 77, .nilCheck (.t 69), none⟩,
       ⟨some 78, .fieldA 4 (.t 77), none⟩,
       ⟨none, .store 1 (.t 78) (.t 76), none⟩] [])
      (.seq (.ops 13 false [
        ⟨some 4, .val (.c (.int .i64 0)), none⟩] [])
       (.ret)))))))
def rs50 : List RR := [.tmp 4]
theorem fun50 : FunR Tryz.prog 50 rc50 rs50 79 := ⟨Tryz.f50, Tryz.func50, by kernel_rfl, by kernel_rfl, by kernel_rfl⟩
/-- (*causeway/store.Table).Len -/
def rc55 : RC :=
 .seq (.ops 0 false [
  ⟨some 2, .val (.c (.int .i64 0)), none⟩] [])
 (.seq (.ops 1 false [
   ⟨some 3, .val (.t 0), none⟩,
   ⟨some 4, .nilCheck (.t 3), none⟩,
   ⟨some 5, .fieldA 0 (.t 4), none⟩,
   ⟨some 6, .load (.t 5), none⟩,
   ⟨some 7, .blt .len #[115] 3 [(.t 6)], none⟩,
   ⟨some 2, .val (.t 7), none⟩] [])
  (.ret))
def rs55 : List RR := [.tmp 2]
theorem fun55 : FunR Tryz.prog 55 rc55 rs55 8 := ⟨Tryz.f55, Tryz.func55, by kernel_rfl, by kernel_rfl, by kernel_rfl⟩
/-- (*causeway/store.State).Get -/
def rc56 : RC :=
 .seq (.ops 0 false [
  ⟨some 4, .val (.c (.slice none 0 0)), none⟩,
  ⟨some 5, .val (.c (.int .i64 0)), none⟩] [])
 (.seq (.seq (.ops 1 false [
    ⟨some 8, .val (.t 1), none⟩,
    ⟨some 9, .call 100 [(.t 8), (.c (.slice none 0 0))], none⟩,
    ⟨some 6, .val (.t 9), none⟩] [])
   (.seq (.ops 2 false [
     ⟨some 10, .val (.t 6), none⟩,
     ⟨some 11, .bin .neq (.t 10) (.c (.int .i64 0)), none⟩] [])
    (.cond (.t 11) (.seq (.ops 3 false [
       ⟨some 12, .val (.t 6), none⟩,
       ⟨some 4, .val (.c (.slice none 0 0)), none⟩,
       ⟨some 5, .val (.t 12), none⟩] [])
      (.ret))
     (.skip))))
  (.seq (.seq (.ops 4 false [
     ⟨some 13, .val (.t 0), none⟩,
     ⟨some 14, .val (.t 1), none⟩,
     ⟨some 15, .call 110 [(.t 13), (.t 14)], none⟩,
     ⟨some 7, .val (.t 15), none⟩] [])
    (.seq (.ops 5 false [
      ⟨some 16, .val (.t 7), none⟩,
      ⟨some 17, .bin .neq (.t 16) (.c (.int .i64 0)), none⟩] [])
     (.cond (.t 17) (.seq (.ops 6 false [
        ⟨some 18, .val (.t 7), none⟩,
        ⟨some 4, .val (.c (.slice none 0 0)), none⟩,
        ⟨some 5, .val (.t 18), none⟩] [])
       (.ret))
      (.skip))))
   (.seq (.ops 7 false [
     ⟨some 19, .val (.t 0), none⟩,
     ⟨some 20, .val (.t 1), none⟩,
     ⟨some 21, .call 82 [(.t 19), (.t 20)], none⟩,
     ⟨some 22, .call 84 [(.t 21)], none⟩,
     ⟨some 4, .val (.t 22), none⟩,
     ⟨some 5, .val (.c (.int .i64 0)), none⟩] [])
    (.ret))))
def rs56 : List RR := [.tmp 4, .tmp 5]
theorem fun56 : FunR Tryz.prog 56 rc56 rs56 23 := ⟨Tryz.f56, Tryz.func56, by kernel_rfl, by kernel_rfl, by kernel_rfl⟩
/-- (*causeway/causewayref07.State).Get -/
def rc57 : RC :=
 .seq (.ops 0 false [
  ⟨some 4, .val (.c (.slice none 0 0)), none⟩,
  ⟨some 5, .val (.c (.int .i64 0)), none⟩] [])
 (.seq (.ops 1 false [
   ⟨some 7, .val (.t 1), none⟩,
   ⟨some 8, .call 69 [(.t 7), (.c (.slice none 0 0))], none⟩,
   ⟨some 6, .val (.t 8), none⟩] [])
  (.seq (.seq (.ops 2 false [
     ⟨some 9, .val (.t 6), none⟩,
     ⟨some 10, .bin .neq (.t 9) (.c (.int .i64 0)), none⟩] [])
    (.cond (.t 10) (.seq (.ops 3 false [
       ⟨some 11, .val (.t 6), none⟩,
       ⟨some 4, .val (.c (.slice none 0 0)), none⟩,
       ⟨some 5, .val (.t 11), none⟩] [])
      (.ret))
     (.skip)))
   (.seq (.ops 4 false [
     ⟨some 12, .val (.t 0), none⟩,
     ⟨some 13, .val (.t 1), none⟩,
     ⟨some 14, .call 111 [(.t 12), (.t 13)], none⟩,
     ⟨some 6, .val (.t 14), none⟩] [])
    (.seq (.seq (.ops 5 false [
       ⟨some 15, .val (.t 6), none⟩,
       ⟨some 16, .bin .neq (.t 15) (.c (.int .i64 0)), none⟩] [])
      (.cond (.t 16) (.seq (.ops 6 false [
         ⟨some 17, .val (.t 6), none⟩,
         ⟨some 4, .val (.c (.slice none 0 0)), none⟩,
         ⟨some 5, .val (.t 17), none⟩] [])
        (.ret))
       (.skip)))
     (.seq (.ops 7 false [
       ⟨some 18, .val (.t 0), none⟩,
       ⟨some 19, .val (.t 1), none⟩,
       ⟨some 20, .call 85 [(.t 18), (.t 19)], none⟩,
       ⟨some 21, .call 86 [(.t 20)], none⟩,
       ⟨some 4, .val (.t 21), none⟩,
       ⟨some 5, .val (.c (.int .i64 0)), none⟩] [])
      (.ret))))))
def rs57 : List RR := [.tmp 4, .tmp 5]
theorem fun57 : FunR Tryz.prog 57 rc57 rs57 22 := ⟨Tryz.f57, Tryz.func57, by kernel_rfl, by kernel_rfl, by kernel_rfl⟩
/-- causeway/causewaylaw07.same -/
def rc58 : RC :=
 .seq (.ops 0 false [
  ⟨some 4, .val (.c (.bool false)), none⟩] [])
 (.seq (.ops 1 false [
   ⟨some 5, .val (.t 0), none⟩,
   ⟨some 6, .cvt 74 9 (.t 5), none⟩,
   ⟨some 7, .val (.t 1), none⟩,
   ⟨some 8, .cvt 74 9 (.t 7), none⟩,
   ⟨some 9, .eqp .str false (.t 6) (.t 8), none⟩,
   ⟨some 4, .val (.t 9), none⟩] [])
  (.ret))
def rs58 : List RR := [.tmp 4]
theorem fun58 : FunR Tryz.prog 58 rc58 rs58 10 := ⟨Tryz.f58, Tryz.func58, by kernel_rfl, by kernel_rfl, by kernel_rfl⟩
/-- causeway/causewaylaw07.ownedTwo -/
def rc59 : RC :=
 .seq (.ops 0 false [
  ⟨some 4, .val (.c (.bool false)), none⟩] [])
 (.seq (.ops 1 false [
   ⟨some 13, .val (.t 0), none⟩,
   ⟨some 14, .len (.t 13), none⟩,
   ⟨some 5, .val (.t 14), none⟩] [])
  (.seq (.ops 2 false [
    ⟨some 15, .val (.t 1), none⟩,
    ⟨some 16, .len (.t 15), none⟩,
    ⟨some 6, .val (.t 16), none⟩] [])
   (.seq (.seq (.ops 3 false [
      ⟨some 7, .val (.c (.int .i64 0)), none⟩] [])
     (.block 0 (.loop (.seq (.seq (.ops 4 false [
          ⟨some 17, .val (.t 7), none⟩,
          ⟨some 18, .val (.t 5), none⟩,
          ⟨some 19, .bin .lss (.t 17) (.t 18), none⟩] [])
         (.cond (.t 19) (.skip)
          (.exit 0)))
        (.seq (.block 1 (.ops 6 false [
           ⟨some 22, .val (.t 0), none⟩,
           ⟨some 23, .val (.t 7), none⟩,
           ⟨some 24, .indexS 1 (.t 22) (.t 23), none⟩,
           ⟨none, .store 1 (.t 24) (.c (.int .u8 11)), none⟩] []))
         (.ops 5 false [
          ⟨some 20, .val (.t 7), none⟩,
          ⟨some 21, .bin .add (.t 20) (.c (.int .i64 1)), none⟩,
          ⟨some 7, .val (.t 21), none⟩] []))))))
    (.seq (.seq (.ops 7 false [
       ⟨some 8, .val (.c (.int .i64 0)), none⟩] [])
      (.block 2 (.loop (.seq (.seq (.ops 8 false [
           ⟨some 25, .val (.t 8), none⟩,
           ⟨some 26, .val (.t 6), none⟩,
           ⟨some 27, .bin .lss (.t 25) (.t 26), none⟩] [])
          (.cond (.t 27) (.skip)
           (.exit 2)))
         (.seq (.block 3 (.ops 10 false [
            ⟨some 30, .val (.t 1), none⟩,
            ⟨some 31, .val (.t 8), none⟩,
            ⟨some 32, .indexS 1 (.t 30) (.t 31), none⟩,
            ⟨none, .store 1 (.t 32) (.c (.int .u8 22)), none⟩] []))
          (.ops 9 false [
           ⟨some 28, .val (.t 8), none⟩,
           ⟨some 29, .bin .add (.t 28) (.c (.int .i64 1)), none⟩,
           ⟨some 8, .val (.t 29), none⟩] []))))))
     (.seq (.seq (.ops 11 false [
        ⟨some 9, .val (.c (.int .i64 0)), none⟩] [])
       (.block 4 (.loop (.seq (.seq (.ops 12 false [
            ⟨some 33, .val (.t 9), none⟩,
            ⟨some 34, .bin .lss (.t 33) (.c (.int .i64 20)), none⟩] [])
           (.cond (.t 34) (.skip)
            (.exit 4)))
          (.seq (.block 5 (.ops 14 false [
             ⟨some 37, .val (.t 0), none⟩,
             ⟨some 38, .buildS 5 1 [(.int .u8 0)] [(0, 1, (.c (.int .u8 11)))], none⟩,
             ⟨some 39, .blt .append #[74, 74] 74 [(.t 37), (.t 38)], none⟩,
             ⟨some 0, .val (.t 39), none⟩] []))
           (.ops 13 false [
            ⟨some 35, .val (.t 9), none⟩,
            ⟨some 36, .bin .add (.t 35) (.c (.int .i64 1)), none⟩,
            ⟨some 9, .val (.t 36), none⟩] []))))))
      (.seq (.seq (.ops 15 false [
         ⟨some 10, .val (.c (.int .i64 0)), none⟩] [])
        (.block 6 (.loop (.seq (.seq (.ops 16 false [
             ⟨some 40, .val (.t 10), none⟩,
             ⟨some 41, .bin .lss (.t 40) (.c (.int .i64 20)), none⟩] [])
            (.cond (.t 41) (.skip)
             (.exit 6)))
           (.seq (.block 7 (.ops 18 false [
              ⟨some 44, .val (.t 1), none⟩,
              ⟨some 45, .buildS 5 1 [(.int .u8 0)] [(0, 1, (.c (.int .u8 22)))], none⟩,
              ⟨some 46, .blt .append #[74, 74] 74 [(.t 44), (.t 45)], none⟩,
              ⟨some 1, .val (.t 46), none⟩] []))
            (.ops 17 false [
             ⟨some 42, .val (.t 10), none⟩,
             ⟨some 43, .bin .add (.t 42) (.c (.int .i64 1)), none⟩,
             ⟨some 10, .val (.t 43), none⟩] []))))))
       (.seq (.seq (.ops 19 false [
          ⟨some 11, .val (.c (.int .i64 0)), none⟩] [])
         (.block 8 (.loop (.seq (.seq (.ops 20 false [
              ⟨some 47, .val (.t 11), none⟩,
              ⟨some 48, .val (.t 5), none⟩,
              ⟨some 49, .bin .add (.t 48) (.c (.int .i64 20)), none⟩,
              ⟨some 50, .bin .lss (.t 47) (.t 49), none⟩] [])
             (.cond (.t 50) (.skip)
              (.exit 8)))
            (.seq (.block 9 (.seq (.ops 22 false [
                ⟨some 53, .val (.t 0), none⟩,
                ⟨some 54, .val (.t 11), none⟩,
                ⟨some 55, .indexS 1 (.t 53) (.t 54), none⟩,
                ⟨some 56, .load (.t 55), none⟩,
                ⟨some 57, .bin .neq (.t 56) (.c (.int .u8 11)), none⟩] [])
               (.cond (.t 57) (.seq (.ops 23 false [
                  ⟨some 4, .val (.c (.bool false)), none⟩] [])
                 (.ret))
                (.skip))))
             (.ops 21 false [
              ⟨some 51, .val (.t 11), none⟩,
              ⟨some 52, .bin .add (.t 51) (.c (.int .i64 1)), none⟩,
              ⟨some 11, .val (.t 52), none⟩] []))))))
        (.seq (.seq (.ops 24 false [
           ⟨some 12, .val (.c (.int .i64 0)), none⟩] [])
          (.block 10 (.loop (.seq (.seq (.ops 25 false [
               ⟨some 58, .val (.t 12), none⟩,
               ⟨some 59, .val (.t 6), none⟩,
               ⟨some 60, .bin .add (.t 59) (.c (.int .i64 20)), none⟩,
               ⟨some 61, .bin .lss (.t 58) (.t 60), none⟩] [])
              (.cond (.t 61) (.skip)
               (.exit 10)))
             (.seq (.block 11 (.seq (.ops 27 false [
                 ⟨some 64, .val (.t 1), none⟩,
                 ⟨some 65, .val (.t 12), none⟩,
                 ⟨some 66, .indexS 1 (.t 64) (.t 65), none⟩,
                 ⟨some 67, .load (.t 66), none⟩,
                 ⟨some 68, .bin .neq (.t 67) (.c (.int .u8 22)), none⟩] [])
                (.cond (.t 68) (.seq (.ops 28 false [
                   ⟨some 4, .val (.c (.bool false)), none⟩] [])
                  (.ret))
                 (.skip))))
              (.ops 26 false [
               ⟨some 62, .val (.t 12), none⟩,
               ⟨some 63, .bin .add (.t 62) (.c (.int .i64 1)), none⟩,
               ⟨some 12, .val (.t 63), none⟩] []))))))
         (.seq (.ops 29 false [
           ⟨some 4, .val (.c (.bool true)), none⟩] [])
          (.ret))))))))))
def rs59 : List RR := [.tmp 4]
theorem fun59 : FunR Tryz.prog 59 rc59 rs59 69 := ⟨Tryz.f59, Tryz.func59, by kernel_rfl, by kernel_rfl, by kernel_rfl⟩
/-- causeway/causewaylaw07.lent -/
def rc60 : RC :=
 .seq (.ops 0 false [
  ⟨some 2, .val (.c (.slice none 0 0)), none⟩] [])
 (.seq (.ops 1 false [
   ⟨some 5, .val (.t 0), none⟩,
   ⟨some 6, .len (.t 5), none⟩,
   ⟨some 7, .bin .add (.t 6) (.c (.int .i64 40)), none⟩,
   ⟨some 8, .mkS 74 (.t 7) (.t 7), none⟩,
   ⟨some 3, .val (.t 8), none⟩] [])
  (.seq (.ops 2 false [
    ⟨some 9, .val (.t 3), none⟩,
    ⟨some 10, .val (.t 0), none⟩,
    ⟨some 11, .blt .copy #[74, 74] 3 [(.t 9), (.t 10)], none⟩] [])
   (.seq (.seq (.ops 3 false [
      ⟨some 12, .val (.t 0), none⟩,
      ⟨some 13, .len (.t 12), none⟩,
      ⟨some 4, .val (.t 13), none⟩] [])
     (.block 0 (.loop (.seq (.seq (.ops 4 false [
          ⟨some 14, .val (.t 4), none⟩,
          ⟨some 15, .val (.t 3), none⟩,
          ⟨some 16, .len (.t 15), none⟩,
          ⟨some 17, .bin .lss (.t 14) (.t 16), none⟩] [])
         (.cond (.t 17) (.skip)
          (.exit 0)))
        (.seq (.block 1 (.ops 6 false [
           ⟨some 20, .val (.t 3), none⟩,
           ⟨some 21, .val (.t 4), none⟩,
           ⟨some 22, .indexS 1 (.t 20) (.t 21), none⟩,
           ⟨none, .store 1 (.t 22) (.c (.int .u8 201)), none⟩] []))
         (.ops 5 false [
          ⟨some 18, .val (.t 4), none⟩,
          ⟨some 19, .bin .add (.t 18) (.c (.int .i64 1)), none⟩,
          ⟨some 4, .val (.t 19), none⟩] []))))))
    (.seq (.ops 7 false [
      ⟨some 23, .val (.t 3), none⟩,
      ⟨some 2, .val (.t 23), none⟩] [])
     (.ret)))))
def rs60 : List RR := [.tmp 2]
theorem fun60 : FunR Tryz.prog 60 rc60 rs60 24 := ⟨Tryz.f60, Tryz.func60, by kernel_rfl, by kernel_rfl, by kernel_rfl⟩
/-- (*causeway/store.State).Put -/
def rc61 : RC :=
 .seq (.ops 0 false [
  ⟨some 6, .val (.c (.int .i64 0)), none⟩] [])
 (.seq (.seq (.ops 1 false [
    ⟨some 11, .val (.t 1), none⟩,
    ⟨some 12, .val (.t 2), none⟩,
    ⟨some 13, .call 100 [(.t 11), (.t 12)], none⟩,
    ⟨some 7, .val (.t 13), none⟩] [])
   (.seq (.ops 2 false [
     ⟨some 14, .val (.t 7), none⟩,
     ⟨some 15, .bin .neq (.t 14) (.c (.int .i64 0)), none⟩] [])
    (.cond (.t 15) (.seq (.ops 3 false [
       ⟨some 16, .val (.t 7), none⟩,
       ⟨some 6, .val (.t 16), none⟩] [])
      (.ret))
     (.skip))))
  (.seq (.seq (.ops 4 false [
     ⟨some 17, .val (.t 0), none⟩,
     ⟨some 18, .val (.t 1), none⟩,
     ⟨some 19, .call 110 [(.t 17), (.t 18)], none⟩,
     ⟨some 8, .val (.t 19), none⟩] [])
    (.seq (.ops 5 false [
      ⟨some 20, .val (.t 8), none⟩,
      ⟨some 21, .bin .neq (.t 20) (.c (.int .i64 0)), none⟩] [])
     (.cond (.t 21) (.seq (.ops 6 false [
        ⟨some 22, .val (.t 8), none⟩,
        ⟨some 6, .val (.t 22), none⟩] [])
       (.ret))
      (.skip))))
   (.seq (.ops 7 false [
     ⟨some 24, .val (.t 0), none⟩,
     ⟨some 25, .nilCheck (.t 24), none⟩,
     ⟨some 26, .fieldA 2 (.t 25), none⟩,
     ⟨some 27, .load (.t 26), none⟩,
     ⟨some 28, .val (.t 1), none⟩,
     ⟨some 29, .look 115 (.t 27) (.t 28) true, none⟩,
     ⟨some 23, .val (.t 29), none⟩,
     ⟨some 30, .extract 0 (.t 23), none⟩,
     ⟨some 31, .extract 1 (.t 23), none⟩,
     ⟨some 9, .val (.t 30), none⟩,
     ⟨some 10, .val (.t 31), none⟩] [])
    (.seq (.ops 8 false [
      ⟨some 32, .val (.t 0), none⟩,
      ⟨some 33, .val (.t 0), none⟩,
      ⟨some 34, .nilCheck (.t 33), none⟩,
      ⟨some 35, .fieldA 3 (.t 34), none⟩,
      ⟨some 36, .load (.t 35), none⟩,
      ⟨some 37, .val (.t 1), none⟩,
      ⟨some 38, .val (.t 9), none⟩,
      ⟨some 39, .val (.t 10), none⟩,
      ⟨some 40, .build [(.string ⟨#[]⟩), (.slice none 0 0), (.bool false)] [(0, 1, (.t 37)), (1, 1, (.t 38)), (2, 1, (.t 39))], none⟩,
      ⟨some 41, .buildS 155 1 [(.string ⟨#[]⟩), (.slice none 0 0), (.bool false)] [(0, 3, (.t 40))], none⟩,
      ⟨some 42, .blt .append #[116, 116] 116 [(.t 36), (.t 41)], none⟩,
      ⟨some 43, .nilCheck (.t 32), none⟩,
      ⟨some 44, .fieldA 3 (.t 43), none⟩,
      ⟨none, .store 1 (.t 44) (.t 42), none⟩] [])
     (.seq (.ops 9 true [
       ⟨some 45, .val (.t 0), none⟩,
       ⟨some 46, .nilCheck (.t 45), none⟩,
       ⟨some 47, .fieldA 2 (.t 46), none⟩,
       ⟨some 48, .load (.t 47), none⟩,
       ⟨some 49, .val (.t 1), none⟩,
       ⟨some 50, .val (.t 2), none⟩,
       ⟨some 51, .call 84 [(.t 50)], none⟩,
       ⟨none, .upd 115 (.t 48) (.t 49) (.t 51), none⟩] [([], []), ([0], [0]), ([1], [1]), ([2], [2]), ([], []), ([], []), ([5], [5]), ([3, 4, 6, 6, 0, 1, 2, 3, 4, 5, 6], [3, 4, 6])])
      (.seq (.ops 10 false [
        ⟨some 6, .val (.c (.int .i64 0)), none⟩] [])
       (.ret)))))))
def rs61 : List RR := [.tmp 6]
theorem fun61 : FunR Tryz.prog 61 rc61 rs61 52 := ⟨Tryz.f61, Tryz.func61, by kernel_rfl, by kernel_rfl, by kernel_rfl⟩
/-- (*causeway/causewayref07.State).Put -/
def rc62 : RC :=
 .seq (.ops 0 false [
  ⟨some 6, .val (.c (.int .i64 0)), none⟩] [])
 (.seq (.ops 1 false [
   ⟨some 8, .val (.t 1), none⟩,
   ⟨some 9, .val (.t 2), none⟩,
   ⟨some 10, .call 69 [(.t 8), (.t 9)], none⟩,
   ⟨some 7, .val (.t 10), none⟩] [])
  (.seq (.seq (.ops 2 false [
     ⟨some 11, .val (.t 7), none⟩,
     ⟨some 12, .bin .neq (.t 11) (.c (.int .i64 0)), none⟩] [])
    (.cond (.t 12) (.seq (.ops 3 false [
       ⟨some 13, .val (.t 7), none⟩,
       ⟨some 6, .val (.t 13), none⟩] [])
      (.ret))
     (.skip)))
   (.seq (.ops 4 false [
     ⟨some 14, .val (.t 0), none⟩,
     ⟨some 15, .val (.t 1), none⟩,
     ⟨some 16, .call 111 [(.t 14), (.t 15)], none⟩,
     ⟨some 7, .val (.t 16), none⟩] [])
    (.seq (.seq (.ops 5 false [
       ⟨some 17, .val (.t 7), none⟩,
       ⟨some 18, .bin .neq (.t 17) (.c (.int .i64 0)), none⟩] [])
      (.cond (.t 18) (.seq (.ops 6 false [
         ⟨some 19, .val (.t 7), none⟩,
         ⟨some 6, .val (.t 19), none⟩] [])
        (.ret))
       (.skip)))
     (.seq (.ops 7 true [
       ⟨some 20, .val (.t 0), none⟩,
       ⟨some 21, .val (.t 0), none⟩,
       ⟨some 22, .nilCheck (.t 21), none⟩,
       ⟨some 23, .fieldA 4 (.t 22), none⟩,
       ⟨some 24, .load (.t 23), none⟩,
       ⟨some 25, .val (.t 1), none⟩,
       ⟨some 26, .val (.t 2), none⟩,
       ⟨some 27, .call 86 [(.t 26)], none⟩,
       ⟨some 28, .build [(.string ⟨#[]⟩), (.slice none 0 0)] [(0, 1, (.t 25)), (1, 1, (.t 27))], none⟩,
       ⟨some 29, .buildS 103 1 [(.string ⟨#[]⟩), (.slice none 0 0)] [(0, 2, (.t 28))], none⟩,
       ⟨some 30, .blt .append #[22, 22] 22 [(.t 24), (.t 29)], none⟩,
       ⟨some 31, .nilCheck (.t 20), none⟩,
       ⟨some 32, .fieldA 4 (.t 31), none⟩,
       ⟨none, .store 1 (.t 32) (.t 30), none⟩] [([], []), ([], []), ([1], [1]), ([2], [2]), ([3], [3]), ([], []), ([], []), ([6], [6]), ([5, 7], [5, 7]), ([8], [8]), ([4, 9, 7], [4, 9]), ([0, 0, 1, 2, 3, 4, 5, 6, 7, 8, 9, 10], [0]), ([11, 0, 1, 2, 3, 4, 5, 6, 7, 8, 9, 10], [11]), ([12, 10, 10, 0, 1, 2, 3, 4, 5, 6, 7, 8, 9, 10], [10, 12])])
      (.seq (.ops 8 false [
        ⟨some 6, .val (.c (.int .i64 0)), none⟩] [])
       (.ret)))))))
def rs62 : List RR := [.tmp 6]
theorem fun62 : FunR Tryz.prog 62 rc62 rs62 33 := ⟨Tryz.f62, Tryz.func62, by kernel_rfl, by kernel_rfl, by kernel_rfl⟩
/-- (*causeway/causewayref07.State).Mark -/
def rc63 : RC :=
 .seq (.ops 0 false [
  ⟨some 2, .val (.c (.int .i64 0)), none⟩] [])
 (.seq (.ops 1 true [
   ⟨some 3, .val (.t 0), none⟩,
   ⟨some 4, .val (.t 0), none⟩,
   ⟨some 5, .nilCheck (.t 4), none⟩,
   ⟨some 6, .fieldA 5 (.t 5), none⟩,
   ⟨some 7, .load (.t 6), none⟩,
   ⟨some 8, .val (.t 0), none⟩,
   ⟨some 9, .nilCheck (.t 8), none⟩,
   ⟨some 10, .fieldA 4 (.t 9), none⟩,
   ⟨some 11, .load (.t 10), none⟩,
   ⟨some 12, .len (.t 11), none⟩,
   ⟨some 13, .buildS 3 1 [(.int .i64 0)] [(0, 1, (.t 12))], none⟩,
   ⟨some 14, .blt .append #[31, 31] 31 [(.t 7), (.t 13)], none⟩,
   ⟨some 15, .nilCheck (.t 3), none⟩,
   ⟨some 16, .fieldA 5 (.t 15), none⟩,
   ⟨none, .store 1 (.t 16) (.t 14), none⟩] [([], []), ([], []), ([1], [1]), ([2], [2]), ([3], [3]), ([], []), ([5], [5]), ([6], [6]), ([7], [7]), ([8], [8]), ([9], [9]), ([4, 10], [4, 10]), ([0, 0, 1, 2, 3, 4, 5, 6, 7, 8, 9, 10, 11], [0]), ([12, 0, 1, 2, 3, 4, 5, 6, 7, 8, 9, 10, 11], [12]), ([13, 11, 11, 0, 1, 2, 3, 4, 5, 6, 7, 8, 9, 10, 11], [11, 13])])
  (.seq (.ops 2 false [
    ⟨some 17, .val (.t 0), none⟩,
    ⟨some 18, .nilCheck (.t 17), none⟩,
    ⟨some 19, .fieldA 5 (.t 18), none⟩,
    ⟨some 20, .load (.t 19), none⟩,
    ⟨some 21, .len (.t 20), none⟩,
    ⟨some 22, .bin .sub (.t 21) (.c (.int .i64 1)), none⟩,
    ⟨some 2, .val (.t 22), none⟩] [])
   (.ret)))
def rs63 : List RR := [.tmp 2]
theorem fun63 : FunR Tryz.prog 63 rc63 rs63 23 := ⟨Tryz.f63, Tryz.func63, by kernel_rfl, by kernel_rfl, by kernel_rfl⟩
/-- (*causeway/causewayref07.State).Back -/
def rc64 : RC :=
 .seq (.ops 0 false [
  ⟨some 4, .val (.c (.int .i64 0)), none⟩] [])
 (.seq (.seq (.ops 1 false [
    ⟨some 5, .val (.t 1), none⟩,
    ⟨some 6, .bin .lss (.t 5) (.c (.int .i64 0)), none⟩,
    ⟨some 7, .val (.t 6), none⟩,
    ⟨some 8, .val (.t 1), some (7, false)⟩,
    ⟨some 9, .val (.t 0), some (7, false)⟩,
    ⟨some 10, .nilCheck (.t 9), some (7, false)⟩,
    ⟨some 11, .fieldA 5 (.t 10), some (7, false)⟩,
    ⟨some 12, .load (.t 11), some (7, false)⟩,
    ⟨some 13, .len (.t 12), some (7, false)⟩,
    ⟨some 14, .bin .geq (.t 8) (.t 13), some (7, false)⟩,
    ⟨some 15, .pick (.t 7) (.c (.bool true)) (.t 14), none⟩] [])
   (.cond (.t 15) (.seq (.ops 2 false [
      ⟨some 4, .val (.c (.int .i64 72)), none⟩] [])
     (.ret))
    (.skip)))
  (.seq (.ops 3 true [
    ⟨some 16, .val (.t 0), none⟩,
    ⟨some 17, .val (.t 0), none⟩,
    ⟨some 18, .nilCheck (.t 17), none⟩,
    ⟨some 19, .fieldA 4 (.t 18), none⟩,
    ⟨some 20, .load (.t 19), none⟩,
    ⟨some 21, .val (.t 0), none⟩,
    ⟨some 22, .nilCheck (.t 21), none⟩,
    ⟨some 23, .fieldA 5 (.t 22), none⟩,
    ⟨some 24, .load (.t 23), none⟩,
    ⟨some 25, .val (.t 1), none⟩,
    ⟨some 26, .indexS 1 (.t 24) (.t 25), none⟩,
    ⟨some 27, .load (.t 26), none⟩,
    ⟨some 28, .slice 2 (.t 20) none (some (.t 27)) none, none⟩,
    ⟨some 29, .nilCheck (.t 16), none⟩,
    ⟨some 30, .fieldA 4 (.t 29), none⟩,
    ⟨none, .store 1 (.t 30) (.t 28), none⟩] [([], []), ([], []), ([1], [1]), ([2], [2]), ([3], [3]), ([], []), ([5], [5]), ([6], [6]), ([7], [7]), ([], []), ([8, 9], [8, 9]), ([10], [10]), ([4, 11], [4, 11]), ([0, 0, 1, 2, 3, 4, 5, 6, 7, 8, 9, 10, 11, 12], [0]), ([13, 0, 1, 2, 3, 4, 5, 6, 7, 8, 9, 10, 11, 12], [13]), ([14, 12, 0, 1, 2, 3, 4, 5, 6, 7, 8, 9, 10, 11, 12], [12, 14])])
   (.seq (.ops 4 false [
     ⟨some 31, .val (.t 0), none⟩,
     ⟨some 32, .val (.t 0), none⟩,
     ⟨some 33, .nilCheck (.t 32), none⟩,
     ⟨some 34, .fieldA 5 (.t 33), none⟩,
     ⟨some 35, .load (.t 34), none⟩,
     ⟨some 36, .val (.t 1), none⟩,
     ⟨some 37, .bin .add (.t 36) (.c (.int .i64 1)), none⟩,
     ⟨some 38, .slice 1 (.t 35) none (some (.t 37)) none, none⟩,
     ⟨some 39, .nilCheck (.t 31), none⟩,
     ⟨some 40, .fieldA 5 (.t 39), none⟩,
     ⟨none, .store 1 (.t 40) (.t 38), none⟩] [])
    (.seq (.ops 5 false [
      ⟨some 4, .val (.c (.int .i64 0)), none⟩] [])
     (.ret)))))
def rs64 : List RR := [.tmp 4]
theorem fun64 : FunR Tryz.prog 64 rc64 rs64 41 := ⟨Tryz.f64, Tryz.func64, by kernel_rfl, by kernel_rfl, by kernel_rfl⟩
/-- causeway/causewaylaw07.having -/
def rc65 : RC :=
 .seq (.ops 0 false [
  ⟨some 6, .val (.c (.slice none 0 0)), none⟩] [])
 (.seq (.ops 1 false [
   ⟨some 8, .val (.t 1), none⟩,
   ⟨some 9, .val (.t 2), none⟩,
   ⟨some 10, .build [(.string ⟨#[]⟩), (.slice none 0 0)] [(0, 1, (.t 8)), (1, 1, (.t 9))], none⟩,
   ⟨some 11, .buildS 103 1 [(.string ⟨#[]⟩), (.slice none 0 0)] [(0, 2, (.t 10))], none⟩,
   ⟨some 7, .val (.t 11), none⟩] [])
  (.seq (.ops 2 false [
    ⟨some 12, .val (.t 7), none⟩,
    ⟨some 13, .val (.t 0), none⟩,
    ⟨some 14, .blt .append #[22, 22] 22 [(.t 12), (.t 13)], none⟩,
    ⟨some 6, .val (.t 14), none⟩] [])
   (.ret)))
def rs65 : List RR := [.tmp 6]
theorem fun65 : FunR Tryz.prog 65 rc65 rs65 15 := ⟨Tryz.f65, Tryz.func65, by kernel_rfl, by kernel_rfl, by kernel_rfl⟩
/-- causeway/causewaylaw07.sameChanges -/
def rc68 : RC :=
 .seq (.ops 0 false [
  ⟨some 4, .val (.c (.bool false)), none⟩] [])
 (.seq (.seq (.ops 1 false [
    ⟨some 6, .val (.t 0), none⟩,
    ⟨some 7, .len (.t 6), none⟩,
    ⟨some 8, .val (.t 1), none⟩,
    ⟨some 9, .len (.t 8), none⟩,
    ⟨some 10, .bin .neq (.t 7) (.t 9), none⟩] [])
   (.cond (.t 10) (.seq (.ops 2 false [
      ⟨some 4, .val (.c (.bool false)), none⟩] [])
     (.ret))
    (.skip)))
  (.seq (.seq (.ops 3 false [
     ⟨some 5, .val (.c (.int .i64 0)), none⟩] [])
    (.block 0 (.loop (.seq (.seq (.ops 4 false [
         ⟨some 11, .val (.t 5), none⟩,
         ⟨some 12, .val (.t 0), none⟩,
         ⟨some 13, .len (.t 12), none⟩,
         ⟨some 14, .bin .lss (.t 11) (.t 13), none⟩] [])
        (.cond (.t 14) (.skip)
         (.exit 0)))
       (.seq (.block 1 (.seq (.ops 6 true [
           ⟨some 17, .val (.t 0), none⟩,
           ⟨some 18, .val (.t 5), none⟩,
           ⟨some 19, .indexS 3 (.t 17) (.t 18), none⟩,
           ⟨some 20, .fieldA 0 (.t 19), none⟩,
           ⟨some 21, .load (.t 20), none⟩,
           ⟨some 22, .val (.t 1), none⟩,
           ⟨some 23, .val (.t 5), none⟩,
           ⟨some 24, .indexS 3 (.t 22) (.t 23), none⟩,
           ⟨some 25, .fieldA 0 (.t 24), none⟩,
           ⟨some 26, .load (.t 25), none⟩,
           ⟨some 27, .eqp .str true (.t 21) (.t 26), none⟩,
           ⟨some 28, .val (.t 27), none⟩,
           ⟨some 29, .val (.t 0), some (28, false)⟩,
           ⟨some 30, .val (.t 5), some (28, false)⟩,
           ⟨some 31, .indexS 3 (.t 29) (.t 30), some (28, false)⟩,
           ⟨some 32, .fieldA 1 (.t 31), some (28, false)⟩,
           ⟨some 33, .load (.t 32), some (28, false)⟩,
           ⟨some 34, .val (.t 1), some (28, false)⟩,
           ⟨some 35, .val (.t 5), some (28, false)⟩,
           ⟨some 36, .indexS 3 (.t 34) (.t 35), some (28, false)⟩,
           ⟨some 37, .fieldA 1 (.t 36), some (28, false)⟩,
           ⟨some 38, .load (.t 37), some (28, false)⟩,
           ⟨some 39, .call 58 [(.t 33), (.t 38)], some (28, false)⟩,
           ⟨some 40, .not (.t 39), some (28, false)⟩,
           ⟨some 41, .pick (.t 28) (.c (.bool true)) (.t 40), none⟩,
           ⟨some 42, .val (.t 41), none⟩,
           ⟨some 43, .val (.t 0), some (42, false)⟩,
           ⟨some 44, .val (.t 5), some (42, false)⟩,
           ⟨some 45, .indexS 3 (.t 43) (.t 44), some (42, false)⟩,
           ⟨some 46, .fieldA 2 (.t 45), some (42, false)⟩,
           ⟨some 47, .load (.t 46), some (42, false)⟩,
           ⟨some 48, .val (.t 1), some (42, false)⟩,
           ⟨some 49, .val (.t 5), some (42, false)⟩,
           ⟨some 50, .indexS 3 (.t 48) (.t 49), some (42, false)⟩,
           ⟨some 51, .fieldA 2 (.t 50), some (42, false)⟩,
           ⟨some 52, .load (.t 51), some (42, false)⟩,
           ⟨some 53, .call 58 [(.t 47), (.t 52)], some (42, false)⟩,
           ⟨some 54, .not (.t 53), some (42, false)⟩,
           ⟨some 55, .pick (.t 42) (.c (.bool true)) (.t 54), none⟩] [([], []), ([], []), ([0, 1], [0, 1]), ([2], [2]), ([3], [3]), ([], []), ([], []), ([5, 6], [5, 6]), ([7], [7]), ([8], [8]), ([4, 9], [4, 9]), ([10], [10]), ([11], [11]), ([11], [11]), ([12, 13, 11], [11, 12, 13]), ([14, 11], [11, 14]), ([15, 11], [11, 15]), ([11], [11]), ([11], [11]), ([17, 18, 11], [11, 17, 18]), ([19, 11], [11, 19]), ([20, 11], [11, 20]), ([16, 21, 11, 11], [11, 16, 21]), ([22, 11], [11, 22]), ([11, 23], [11, 23]), ([24, 22], [24]), ([25], [25]), ([25], [25]), ([26, 27, 25], [25, 26, 27]), ([28, 25], [25, 28]), ([29, 25], [25, 29]), ([25], [25]), ([25], [25]), ([31, 32, 25], [25, 31, 32]), ([33, 25], [25, 33]), ([34, 25], [25, 34]), ([30, 35, 25, 25], [25, 30, 35]), ([36, 25], [25, 36]), ([25, 37], [25, 37])])
          (.cond (.t 55) (.seq (.ops 7 false [
             ⟨some 4, .val (.c (.bool false)), none⟩] [])
            (.ret))
           (.skip))))
        (.ops 5 false [
         ⟨some 15, .val (.t 5), none⟩,
         ⟨some 16, .bin .add (.t 15) (.c (.int .i64 1)), none⟩,
         ⟨some 5, .val (.t 16), none⟩] []))))))
   (.seq (.ops 8 false [
     ⟨some 4, .val (.c (.bool true)), none⟩] [])
    (.ret))))
def rs68 : List RR := [.tmp 4]
theorem fun68 : FunR Tryz.prog 68 rc68 rs68 56 := ⟨Tryz.f68, Tryz.func68, by kernel_rfl, by kernel_rfl, by kernel_rfl⟩
/-- causeway/causewayref07.May -/
def rc69 : RC :=
 .seq (.ops 0 false [
  ⟨some 4, .val (.c (.int .i64 0)), none⟩] [])
 (.seq (.seq (.ops 1 false [
    ⟨some 5, .val (.t 0), none⟩,
    ⟨some 6, .lenT (.t 5), none⟩,
    ⟨some 7, .bin .lss (.t 6) (.c (.int .i64 1)), none⟩,
    ⟨some 8, .val (.t 7), none⟩,
    ⟨some 9, .val (.t 0), some (8, false)⟩,
    ⟨some 10, .lenT (.t 9), some (8, false)⟩,
    ⟨some 11, .bin .gtr (.t 10) (.c (.int .i64 128)), some (8, false)⟩,
    ⟨some 12, .pick (.t 8) (.c (.bool true)) (.t 11), none⟩] [])
   (.cond (.t 12) (.seq (.ops 2 false [
      ⟨some 4, .val (.c (.int .i64 70)), none⟩] [])
     (.ret))
    (.skip)))
  (.seq (.seq (.ops 3 false [
     ⟨some 13, .val (.t 1), none⟩,
     ⟨some 14, .len (.t 13), none⟩,
     ⟨some 15, .bin .gtr (.t 14) (.c (.int .i64 4096)), none⟩] [])
    (.cond (.t 15) (.seq (.ops 4 false [
       ⟨some 4, .val (.c (.int .i64 71)), none⟩] [])
      (.ret))
     (.skip)))
   (.seq (.ops 5 false [
     ⟨some 4, .val (.c (.int .i64 0)), none⟩] [])
    (.ret))))
def rs69 : List RR := [.tmp 4]
theorem fun69 : FunR Tryz.prog 69 rc69 rs69 16 := ⟨Tryz.f69, Tryz.func69, by kernel_rfl, by kernel_rfl, by kernel_rfl⟩
/-- causeway/causewayref07.Put -/
def rc70 : RC :=
 .seq (.ops 0 false [
  ⟨some 6, .val (.c (.slice none 0 0)), none⟩,
  ⟨some 7, .val (.c (.int .i64 0)), none⟩] [])
 (.seq (.ops 1 false [
   ⟨some 12, .val (.t 1), none⟩,
   ⟨some 13, .val (.t 2), none⟩,
   ⟨some 14, .call 69 [(.t 12), (.t 13)], none⟩,
   ⟨some 8, .val (.t 14), none⟩] [])
  (.seq (.seq (.ops 2 false [
     ⟨some 15, .val (.t 8), none⟩,
     ⟨some 16, .bin .neq (.t 15) (.c (.int .i64 0)), none⟩] [])
    (.cond (.t 16) (.seq (.ops 3 false [
       ⟨some 17, .val (.t 0), none⟩,
       ⟨some 18, .val (.t 8), none⟩,
       ⟨some 6, .val (.t 17), none⟩,
       ⟨some 7, .val (.t 18), none⟩] [])
      (.ret))
     (.skip)))
   (.seq (.ops 4 false [
     ⟨some 9, .val (.c (.slice none 0 0)), none⟩] [])
    (.seq (.ops 5 false [
      ⟨some 19, .val (.t 0), none⟩,
      ⟨some 20, .val (.t 1), none⟩,
      ⟨some 21, .val (.t 2), none⟩,
      ⟨some 22, .call 115 [(.t 19), (.t 20), (.t 21)], none⟩,
      ⟨some 10, .val (.t 22), none⟩] [])
     (.seq (.seq (.ops 6 false [
        ⟨some 11, .val (.c (.int .i64 0)), none⟩] [])
       (.block 0 (.loop (.seq (.seq (.ops 7 false [
            ⟨some 23, .val (.t 11), none⟩,
            ⟨some 24, .val (.t 10), none⟩,
            ⟨some 25, .len (.t 24), none⟩,
            ⟨some 26, .bin .lss (.t 23) (.t 25), none⟩] [])
           (.cond (.t 26) (.skip)
            (.exit 0)))
          (.seq (.block 1 (.seq (.ops 9 false [
              ⟨some 29, .val (.t 10), none⟩,
              ⟨some 30, .val (.t 11), none⟩,
              ⟨some 31, .indexS 2 (.t 29) (.t 30), none⟩,
              ⟨some 32, .fieldA 1 (.t 31), none⟩,
              ⟨some 33, .load (.t 32), none⟩,
              ⟨some 34, .len (.t 33), none⟩,
              ⟨some 35, .bin .gtr (.t 34) (.c (.int .i64 0)), none⟩] [])
             (.cond (.t 35) (.ops 10 false [
               ⟨some 36, .val (.t 9), none⟩,
               ⟨some 37, .val (.t 10), none⟩,
               ⟨some 38, .val (.t 11), none⟩,
               ⟨some 39, .indexS 2 (.t 37) (.t 38), none⟩,
               ⟨some 40, .loadN 2 (.t 39), none⟩,
               ⟨some 41, .buildS 103 1 [(.string ⟨#[]⟩), (.slice none 0 0)] [(0, 2, (.t 40))], none⟩,
               ⟨some 42, .blt .append #[22, 22] 22 [(.t 36), (.t 41)], none⟩,
               ⟨some 9, .val (.t 42), none⟩] [])
              (.skip))))
           (.ops 8 false [
            ⟨some 27, .val (.t 11), none⟩,
            ⟨some 28, .bin .add (.t 27) (.c (.int .i64 1)), none⟩,
            ⟨some 11, .val (.t 28), none⟩] []))))))
      (.seq (.ops 11 false [
        ⟨some 43, .val (.t 9), none⟩,
        ⟨some 6, .val (.t 43), none⟩,
        ⟨some 7, .val (.c (.int .i64 0)), none⟩] [])
       (.ret)))))))
def rs70 : List RR := [.tmp 6, .tmp 7]
theorem fun70 : FunR Tryz.prog 70 rc70 rs70 44 := ⟨Tryz.f70, Tryz.func70, by kernel_rfl, by kernel_rfl, by kernel_rfl⟩
/-- (*causeway/store.State).value -/
def rc82 : RC :=
 .seq (.ops 0 false [
  ⟨some 4, .val (.c (.slice none 0 0)), none⟩] [])
 (.seq (.seq (.ops 1 false [
    ⟨some 8, .val (.t 0), none⟩,
    ⟨some 9, .nilCheck (.t 8), none⟩,
    ⟨some 10, .fieldA 2 (.t 9), none⟩,
    ⟨some 11, .load (.t 10), none⟩,
    ⟨some 12, .val (.t 1), none⟩,
    ⟨some 13, .look 115 (.t 11) (.t 12) true, none⟩,
    ⟨some 7, .val (.t 13), none⟩,
    ⟨some 14, .extract 0 (.t 7), none⟩,
    ⟨some 15, .extract 1 (.t 7), none⟩,
    ⟨some 5, .val (.t 14), none⟩,
    ⟨some 6, .val (.t 15), none⟩] [])
   (.seq (.ops 2 false [
     ⟨some 16, .val (.t 6), none⟩] [])
    (.cond (.t 16) (.seq (.ops 3 false [
       ⟨some 17, .val (.t 5), none⟩,
       ⟨some 4, .val (.t 17), none⟩] [])
      (.ret))
     (.skip))))
  (.seq (.ops 4 false [
    ⟨some 18, .val (.t 0), none⟩,
    ⟨some 19, .nilCheck (.t 18), none⟩,
    ⟨some 20, .fieldA 1 (.t 19), none⟩,
    ⟨some 21, .load (.t 20), none⟩,
    ⟨some 22, .val (.t 1), none⟩,
    ⟨some 23, .look 115 (.t 21) (.t 22) false, none⟩,
    ⟨some 4, .val (.t 23), none⟩] [])
   (.ret)))
def rs82 : List RR := [.tmp 4]
theorem fun82 : FunR Tryz.prog 82 rc82 rs82 24 := ⟨Tryz.f82, Tryz.func82, by kernel_rfl, by kernel_rfl, by kernel_rfl⟩
/-- bytes.Equal -/
def rc83 : RC :=
 .seq (.ops 0 false [
  ⟨some 4, .val (.c (.bool false)), none⟩] [])
 (.seq (.ops 1 false [
   ⟨some 5, .val (.t 0), none⟩,
   ⟨some 6, .cvt 74 9 (.t 5), none⟩,
   ⟨some 7, .val (.t 1), none⟩,
   ⟨some 8, .cvt 74 9 (.t 7), none⟩,
   ⟨some 9, .eqp .str false (.t 6) (.t 8), none⟩,
   ⟨some 4, .val (.t 9), none⟩] [])
  (.ret))
def rs83 : List RR := [.tmp 4]
theorem fun83 : FunR Tryz.prog 83 rc83 rs83 10 := ⟨Tryz.f83, Tryz.func83, by kernel_rfl, by kernel_rfl, by kernel_rfl⟩
/-- slices.Clone[[]byte,byte] -/
def rc84 : RC :=
 .seq (.ops 0 false [
  ⟨some 2, .val (.c (.slice none 0 0)), none⟩] [])
 (.seq (.seq (.ops 1 false [
    ⟨some 3, .val (.t 0), none⟩,
    ⟨some 4, .eqp .slc false (.t 3) (.c (.slice none 0 0)), none⟩] [])
   (.cond (.t 4) (.seq (.ops 2 false [
      ⟨some 2, .val (.c (.slice none 0 0)), none⟩] [])
     (.ret))
    (.skip)))
  (.seq (.ops 3 false [
    ⟨some 5, .buildS 5 0 [] [], none⟩,
    ⟨some 6, .val (.t 0), none⟩,
    ⟨some 7, .blt .append #[74, 74] 74 [(.t 5), (.t 6)], none⟩,
    ⟨some 2, .val (.t 7), none⟩] [])
   (.ret)))
def rs84 : List RR := [.tmp 2]
theorem fun84 : FunR Tryz.prog 84 rc84 rs84 8 := ⟨Tryz.f84, Tryz.func84, by kernel_rfl, by kernel_rfl, by kernel_rfl⟩
/-- (*causeway/causewayref07.State).now -/
def rc85 : RC :=
 .seq (.ops 0 false [
  ⟨some 4, .val (.c (.slice none 0 0)), none⟩] [])
 (.seq (.seq (.ops 1 false [
    ⟨some 8, .val (.t 0), none⟩,
    ⟨some 9, .nilCheck (.t 8), none⟩,
    ⟨some 10, .fieldA 4 (.t 9), none⟩,
    ⟨some 11, .load (.t 10), none⟩,
    ⟨some 12, .len (.t 11), none⟩,
    ⟨some 13, .bin .sub (.t 12) (.c (.int .i64 1)), none⟩,
    ⟨some 5, .val (.t 13), none⟩] [])
   (.block 0 (.loop (.seq (.seq (.ops 2 false [
        ⟨some 14, .val (.t 5), none⟩,
        ⟨some 15, .bin .geq (.t 14) (.c (.int .i64 0)), none⟩] [])
       (.cond (.t 15) (.skip)
        (.exit 0)))
      (.seq (.block 1 (.seq (.ops 4 false [
          ⟨some 18, .val (.t 0), none⟩,
          ⟨some 19, .nilCheck (.t 18), none⟩,
          ⟨some 20, .fieldA 4 (.t 19), none⟩,
          ⟨some 21, .load (.t 20), none⟩,
          ⟨some 22, .val (.t 5), none⟩,
          ⟨some 23, .indexS 2 (.t 21) (.t 22), none⟩,
          ⟨some 24, .fieldA 0 (.t 23), none⟩,
          ⟨some 25, .load (.t 24), none⟩,
          ⟨some 26, .val (.t 1), none⟩,
          ⟨some 27, .eqp .str false (.t 25) (.t 26), none⟩] [])
         (.cond (.t 27) (.seq (.ops 5 false [
            ⟨some 28, .val (.t 0), none⟩,
            ⟨some 29, .nilCheck (.t 28), none⟩,
            ⟨some 30, .fieldA 4 (.t 29), none⟩,
            ⟨some 31, .load (.t 30), none⟩,
            ⟨some 32, .val (.t 5), none⟩,
            ⟨some 33, .indexS 2 (.t 31) (.t 32), none⟩,
            ⟨some 34, .fieldA 1 (.t 33), none⟩,
            ⟨some 35, .load (.t 34), none⟩,
            ⟨some 4, .val (.t 35), none⟩] [])
           (.ret))
          (.skip))))
       (.ops 3 false [
        ⟨some 16, .val (.t 5), none⟩,
        ⟨some 17, .bin .sub (.t 16) (.c (.int .i64 1)), none⟩,
        ⟨some 5, .val (.t 17), none⟩] []))))))
  (.seq (.ops 6 false [
    ⟨some 37, .val (.t 0), none⟩,
    ⟨some 38, .nilCheck (.t 37), none⟩,
    ⟨some 39, .fieldA 3 (.t 38), none⟩,
    ⟨some 40, .load (.t 39), none⟩,
    ⟨some 41, .val (.t 1), none⟩,
    ⟨some 42, .call 127 [(.t 40), (.t 41)], none⟩,
    ⟨some 36, .val (.t 42), none⟩,
    ⟨some 43, .extract 0 (.t 36), none⟩,
    ⟨some 44, .extract 1 (.t 36), none⟩,
    ⟨some 6, .val (.t 43), none⟩,
    ⟨some 7, .val (.t 44), none⟩] [])
   (.seq (.ops 7 false [
     ⟨some 45, .val (.t 6), none⟩,
     ⟨some 4, .val (.t 45), none⟩] [])
    (.ret))))
def rs85 : List RR := [.tmp 4]
theorem fun85 : FunR Tryz.prog 85 rc85 rs85 46 := ⟨Tryz.f85, Tryz.func85, by kernel_rfl, by kernel_rfl, by kernel_rfl⟩
/-- causeway/causewayref07.twin -/
def rc86 : RC :=
 .seq (.ops 0 false [
  ⟨some 2, .val (.c (.slice none 0 0)), none⟩] [])
 (.seq (.ops 1 false [
   ⟨some 4, .val (.t 0), none⟩,
   ⟨some 5, .len (.t 4), none⟩,
   ⟨some 6, .mkS 74 (.t 5) (.t 5), none⟩,
   ⟨some 3, .val (.t 6), none⟩] [])
  (.seq (.ops 2 false [
    ⟨some 7, .val (.t 3), none⟩,
    ⟨some 8, .val (.t 0), none⟩,
    ⟨some 9, .blt .copy #[74, 74] 3 [(.t 7), (.t 8)], none⟩] [])
   (.seq (.ops 3 false [
     ⟨some 10, .val (.t 3), none⟩,
     ⟨some 2, .val (.t 10), none⟩] [])
    (.ret))))
def rs86 : List RR := [.tmp 2]
theorem fun86 : FunR Tryz.prog 86 rc86 rs86 11 := ⟨Tryz.f86, Tryz.func86, by kernel_rfl, by kernel_rfl, by kernel_rfl⟩
/-- causeway/wide.IsZero -/
def rc92 : RC :=
 .seq (.ops 0 false [
  ⟨some 1, .box 38 (.t 0), none⟩,
  ⟨some 2, .val (.c (.bool false)), none⟩] [])
 (.seq (.ops 1 false [
   ⟨some 3, .loadN 4 (.t 1), none⟩,
   ⟨some 4, .build [(.int .u64 0), (.int .u64 0), (.int .u64 0), (.int .u64 0)] [], none⟩,
   ⟨some 5, .eqn false 38 (.t 3) (.t 4), none⟩,
   ⟨some 2, .val (.t 5), none⟩] [])
  (.ret))
def rs92 : List RR := [.tmp 2]
theorem fun92 : FunR Tryz.prog 92 rc92 rs92 6 := ⟨Tryz.f92, Tryz.func92, by kernel_rfl, by kernel_rfl, by kernel_rfl⟩
/-- causeway/wide.Read -/
def rc98 : RC :=
 .seq (.ops 0 false [
  ⟨some 2, .alloc 38 [(.int .u64 0), (.int .u64 0), (.int .u64 0), (.int .u64 0)], none⟩,
  ⟨some 3, .val (.c (.int .i64 0)), none⟩] [])
 (.seq (.ops 1 false [
   ⟨some 4, .alloc 38 [(.int .u64 0), (.int .u64 0), (.int .u64 0), (.int .u64 0)], none⟩] [])
  (.seq (.seq (.ops 2 false [
     ⟨some 7, .val (.t 0), none⟩,
     ⟨some 8, .len (.t 7), none⟩,
     ⟨some 9, .bin .neq (.t 8) (.c (.int .i64 32)), none⟩] [])
    (.cond (.t 9) (.seq (.ops 3 false [
       ⟨some 10, .loadN 4 (.t 4), none⟩,
       ⟨none, .store 4 (.t 2) (.t 10), none⟩,
       ⟨some 3, .val (.c (.int .i64 20)), none⟩] [])
      (.ret))
     (.skip)))
   (.seq (.seq (.ops 4 false [
      ⟨some 11, .val (.t 0), none⟩,
      ⟨some 12, .len (.t 11), none⟩,
      ⟨some 13, .val (.c (.int .i64 0)), none⟩] [])
     (.block 0 (.loop (.seq (.ops 5 false [
         ⟨some 14, .bin .lss (.t 13) (.t 12), none⟩] [])
        (.seq (.cond (.t 14) (.skip)
          (.exit 0))
         (.seq (.block 1 (.seq (.ops 6 false [
             ⟨some 15, .val (.t 13), none⟩,
             ⟨some 16, .indexS 1 (.t 11) (.t 13), none⟩,
             ⟨some 17, .load (.t 16), none⟩,
             ⟨some 5, .val (.t 15), none⟩,
             ⟨some 6, .val (.t 17), none⟩] [])
            (.ops 7 false [
             ⟨some 18, .val (.t 5), none⟩,
             ⟨some 19, .bin .quo (.t 18) (.c (.int .i64 8)), none⟩,
             ⟨some 20, .bin .sub (.c (.int .i64 3)) (.t 19), none⟩,
             ⟨some 21, .val (.t 5), none⟩,
             ⟨some 22, .bin .quo (.t 21) (.c (.int .i64 8)), none⟩,
             ⟨some 23, .bin .sub (.c (.int .i64 3)) (.t 22), none⟩,
             ⟨some 24, .indexA 4 1 (.t 4) (.t 23), none⟩,
             ⟨some 25, .load (.t 24), none⟩,
             ⟨some 26, .bin .shl (.t 25) (.c (.int .u64 8)), none⟩,
             ⟨some 27, .val (.t 6), none⟩,
             ⟨some 28, .conv .u64 (.t 27), none⟩,
             ⟨some 29, .bin .or (.t 26) (.t 28), none⟩,
             ⟨some 30, .indexA 4 1 (.t 4) (.t 20), none⟩,
             ⟨none, .store 1 (.t 30) (.t 29), none⟩] [])))
          (.ops 8 false [
           ⟨some 31, .bin .add (.t 13) (.c (.int .i64 1)), none⟩,
           ⟨some 13, .val (.t 31), none⟩] [])))))))
    (.seq (.ops 9 false [
      ⟨some 32, .loadN 4 (.t 4), none⟩,
      ⟨none, .store 4 (.t 2) (.t 32), none⟩,
      ⟨some 3, .val (.c (.int .i64 0)), none⟩] [])
     (.ret)))))
def rs98 : List RR := [.cell 2 (some 4), .tmp 3]
theorem fun98 : FunR Tryz.prog 98 rc98 rs98 33 := ⟨Tryz.f98, Tryz.func98, by kernel_rfl, by kernel_rfl, by kernel_rfl⟩
/-- causeway/sparse.New -/
def rc99 : RC :=
 .seq (.ops 0 false [
  ⟨some 0, .val (.c (.pointer none)), none⟩] [])
 (.seq (.ops 1 false [
   ⟨some 1, .build [(.pointer none), (.int .i64 0)] [], none⟩,
   ⟨some 2, .box 176 (.t 1), none⟩,
   ⟨some 0, .val (.t 2), none⟩] [])
  (.ret))
def rs99 : List RR := [.tmp 0]
theorem fun99 : FunR Tryz.prog 99 rc99 rs99 3 := ⟨Tryz.f99, Tryz.func99, by kernel_rfl, by kernel_rfl, by kernel_rfl⟩
/-- causeway/store.may -/
def rc100 : RC :=
 .seq (.ops 0 false [
  ⟨some 4, .val (.c (.int .i64 0)), none⟩] [])
 (.seq (.block 0 (.seq (.ops 1 false [
     ⟨some 6, .val (.t 0), none⟩,
     ⟨some 7, .eqp .str false (.t 6) (.c (.string ⟨#[]⟩)), none⟩,
     ⟨some 8, .val (.t 7), none⟩,
     ⟨some 9, .val (.t 0), some (8, false)⟩,
     ⟨some 10, .lenT (.t 9), some (8, false)⟩,
     ⟨some 11, .bin .gtr (.t 10) (.c (.int .i64 128)), some (8, false)⟩,
     ⟨some 12, .pick (.t 8) (.c (.bool true)) (.t 11), none⟩,
     ⟨some 5, .val (.t 12), none⟩] [])
    (.cond (.t 5) (.seq (.ops 2 false [
       ⟨some 4, .val (.c (.int .i64 70)), none⟩] [])
      (.ret))
     (.seq (.ops 3 false [
       ⟨some 14, .val (.t 1), none⟩,
       ⟨some 15, .len (.t 14), none⟩,
       ⟨some 16, .bin .gtr (.t 15) (.c (.int .i64 4096)), none⟩,
       ⟨some 13, .val (.t 16), none⟩] [])
      (.cond (.t 13) (.seq (.ops 4 false [
         ⟨some 4, .val (.c (.int .i64 71)), none⟩] [])
        (.ret))
       (.skip))))))
  (.seq (.ops 5 false [
    ⟨some 4, .val (.c (.int .i64 0)), none⟩] [])
   (.ret)))
def rs100 : List RR := [.tmp 4]
theorem fun100 : FunR Tryz.prog 100 rc100 rs100 17 := ⟨Tryz.f100, Tryz.func100, by kernel_rfl, by kernel_rfl, by kernel_rfl⟩
/-- (*causeway/store.Table).lay -/
def rc101 : RC :=
 .seq (.ops 0 false [
  ⟨some 10, .val (.t 1), none⟩,
  ⟨some 11, .cvt 9 74 (.t 10), none⟩,
  ⟨some 12, .call 130 [(.t 11)], none⟩,
  ⟨some 6, .alloc 178 (List.replicate 32 (.int .u8 0)), none⟩,
  ⟨none, .store 32 (.t 6) (.t 12), none⟩] [])
 (.seq (.ops 1 true [
   ⟨some 13, .val (.t 0), none⟩,
   ⟨some 14, .nilCheck (.t 13), none⟩,
   ⟨some 15, .fieldA 2 (.t 14), none⟩,
   ⟨some 16, .load (.t 15), none⟩,
   ⟨some 17, .loadN 32 (.t 6), none⟩,
   ⟨some 18, .look 149 (.t 16) (.t 17) false, none⟩,
   ⟨some 7, .val (.t 18), none⟩] [([], []), ([0], [0]), ([1], [1]), ([2], [2]), ([], []), ([3, 4], [3, 4]), ([5, 0, 1, 2, 3, 4, 5], [5])])
  (.seq (.ops 2 false [
    ⟨some 20, .val (.t 7), none⟩,
    ⟨some 21, .val (.t 1), none⟩,
    ⟨some 22, .call 131 [(.t 20), (.t 21)], none⟩,
    ⟨some 19, .val (.t 22), none⟩,
    ⟨some 23, .extract 0 (.t 19), none⟩,
    ⟨some 24, .extract 1 (.t 19), none⟩,
    ⟨some 8, .val (.t 23), none⟩,
    ⟨some 9, .val (.t 24), none⟩] [])
   (.seq (.seq (.ops 3 false [
      ⟨some 25, .val (.t 2), none⟩,
      ⟨some 26, .len (.t 25), none⟩,
      ⟨some 27, .bin .gtr (.t 26) (.c (.int .i64 0)), none⟩] [])
     (.cond (.t 27) (.seq (.ops 4 true [
        ⟨some 28, .val (.t 0), none⟩,
        ⟨some 29, .nilCheck (.t 28), none⟩,
        ⟨some 30, .fieldA 0 (.t 29), none⟩,
        ⟨some 31, .load (.t 30), none⟩,
        ⟨some 32, .val (.t 1), none⟩,
        ⟨some 33, .val (.t 2), none⟩,
        ⟨some 34, .call 84 [(.t 33)], none⟩,
        ⟨none, .upd 115 (.t 31) (.t 32) (.t 34), none⟩] [([], []), ([0], [0]), ([1], [1]), ([2], [2]), ([], []), ([], []), ([5], [5]), ([3, 4, 6, 6, 0, 1, 2, 3, 4, 5, 6], [3, 4, 6])])
       (.seq (.ops 5 false [
         ⟨some 35, .val (.t 9), none⟩,
         ⟨some 36, .not (.t 35), none⟩] [])
        (.cond (.t 36) (.ops 6 false [
          ⟨some 37, .val (.t 7), none⟩,
          ⟨some 38, .call 133 [(.t 37)], none⟩,
          ⟨some 39, .val (.t 8), none⟩,
          ⟨some 40, .val (.t 1), none⟩,
          ⟨some 41, .buildS 9 1 [(.string ⟨#[]⟩)] [(0, 1, (.t 40))], none⟩,
          ⟨some 42, .call 132 [(.t 38), (.t 39), (.t 41)], none⟩,
          ⟨some 7, .val (.t 42), none⟩] [])
         (.skip))))
      (.seq (.ops 7 false [
        ⟨some 43, .val (.t 9), none⟩] [])
       (.cond (.t 43) (.seq (.ops 8 false [
          ⟨some 44, .val (.t 0), none⟩,
          ⟨some 45, .nilCheck (.t 44), none⟩,
          ⟨some 46, .fieldA 0 (.t 45), none⟩,
          ⟨some 47, .load (.t 46), none⟩,
          ⟨some 48, .val (.t 1), none⟩,
          ⟨none, .blt .delete #[115, 9] 0 [(.t 47), (.t 48)], none⟩] [])
         (.ops 9 false [
          ⟨some 49, .val (.t 7), none⟩,
          ⟨some 50, .call 133 [(.t 49)], none⟩,
          ⟨some 51, .val (.t 8), none⟩,
          ⟨some 52, .val (.t 8), none⟩,
          ⟨some 53, .bin .add (.t 52) (.c (.int .i64 1)), none⟩,
          ⟨some 54, .call 134 [(.t 50), (.t 51), (.t 53)], none⟩,
          ⟨some 7, .val (.t 54), none⟩] []))
        (.skip)))))
    (.seq (.seq (.ops 10 false [
       ⟨some 55, .val (.t 7), none⟩,
       ⟨some 56, .len (.t 55), none⟩,
       ⟨some 57, .bin .eql (.t 56) (.c (.int .i64 0)), none⟩] [])
      (.cond (.t 57) (.seq (.ops 11 true [
         ⟨some 58, .val (.t 0), none⟩,
         ⟨some 59, .nilCheck (.t 58), none⟩,
         ⟨some 60, .fieldA 2 (.t 59), none⟩,
         ⟨some 61, .load (.t 60), none⟩,
         ⟨some 62, .loadN 32 (.t 6), none⟩,
         ⟨none, .blt .delete #[149, 178] 0 [(.t 61), (.t 62)], none⟩] [([], []), ([0], [0]), ([1], [1]), ([2], [2]), ([], []), ([3, 4], [3, 4])])
        (.seq (.ops 12 true [
          ⟨some 63, .val (.t 0), none⟩,
          ⟨some 64, .nilCheck (.t 63), none⟩,
          ⟨some 65, .fieldA 1 (.t 64), none⟩,
          ⟨some 66, .load (.t 65), none⟩,
          ⟨some 67, .loadN 32 (.t 6), none⟩,
          ⟨some 68, .build (List.replicate 32 (.int .u8 0)) [], none⟩,
          ⟨some 69, .call 135 [(.t 66), (.t 67), (.t 68)], none⟩] [([], []), ([0], [0]), ([1], [1]), ([2], [2]), ([], []), ([], []), ([3, 4, 5], [3, 4, 5])])
         (.ret)))
       (.skip)))
     (.seq (.ops 13 true [
       ⟨some 70, .val (.t 0), none⟩,
       ⟨some 71, .nilCheck (.t 70), none⟩,
       ⟨some 72, .fieldA 2 (.t 71), none⟩,
       ⟨some 73, .load (.t 72), none⟩,
       ⟨some 74, .loadN 32 (.t 6), none⟩,
       ⟨some 75, .val (.t 7), none⟩,
       ⟨none, .upd 149 (.t 73) (.t 74) (.t 75), none⟩] [([], []), ([0], [0]), ([1], [1]), ([2], [2]), ([], []), ([], []), ([3, 4, 5, 0, 1, 2, 3, 4, 5], [3, 4, 5])])
      (.ops 14 true [
       ⟨some 76, .val (.t 0), none⟩,
       ⟨some 77, .nilCheck (.t 76), none⟩,
       ⟨some 78, .fieldA 1 (.t 77), none⟩,
       ⟨some 79, .load (.t 78), none⟩,
       ⟨some 80, .loadN 32 (.t 6), none⟩,
       ⟨some 81, .val (.t 0), none⟩,
       ⟨some 82, .nilCheck (.t 81), none⟩,
       ⟨some 83, .fieldA 0 (.t 82), none⟩,
       ⟨some 84, .load (.t 83), none⟩,
       ⟨some 85, .val (.t 7), none⟩,
       ⟨some 86, .val (.t 7), none⟩,
       ⟨some 87, .len (.t 86), none⟩,
       ⟨some 88, .bin .sub (.t 87) (.c (.int .i64 1)), none⟩,
       ⟨some 89, .indexS 1 (.t 85) (.t 88), none⟩,
       ⟨some 90, .load (.t 89), none⟩,
       ⟨some 91, .look 115 (.t 84) (.t 90) false, none⟩,
       ⟨some 92, .call 130 [(.t 91)], none⟩,
       ⟨some 93, .call 135 [(.t 79), (.t 80), (.t 92)], none⟩] [([], []), ([0], [0]), ([1], [1]), ([2], [2]), ([], []), ([], []), ([5], [5]), ([6], [6]), ([7], [7]), ([], []), ([], []), ([10], [10]), ([11], [11]), ([9, 12], [9, 12]), ([13], [13]), ([8, 14], [8, 14]), ([15], [15]), ([3, 4, 16, 16], [3, 4, 16])]))))))
def rs101 : List RR := []
theorem fun101 : FunR Tryz.prog 101 rc101 rs101 94 := ⟨Tryz.f101, Tryz.func101, by kernel_rfl, by kernel_rfl, by kernel_rfl⟩
/-- (*causeway/store.State).ask -/
def rc110 : RC :=
 .seq (.ops 0 false [
  ⟨some 4, .val (.c (.int .i64 0)), none⟩] [])
 (.seq (.seq (.ops 1 false [
    ⟨some 10, .val (.t 0), none⟩,
    ⟨some 11, .nilCheck (.t 10), none⟩,
    ⟨some 12, .fieldA 1 (.t 11), none⟩,
    ⟨some 13, .load (.t 12), none⟩,
    ⟨some 14, .val (.t 1), none⟩,
    ⟨some 15, .look 115 (.t 13) (.t 14) true, none⟩,
    ⟨some 9, .val (.t 15), none⟩,
    ⟨some 16, .extract 0 (.t 9), none⟩,
    ⟨some 17, .extract 1 (.t 9), none⟩,
    ⟨some 5, .val (.t 16), none⟩,
    ⟨some 6, .val (.t 17), none⟩] [])
   (.seq (.ops 2 false [
     ⟨some 18, .val (.t 6), none⟩] [])
    (.cond (.t 18) (.seq (.ops 3 false [
       ⟨some 4, .val (.c (.int .i64 0)), none⟩] [])
      (.ret))
     (.skip))))
  (.seq (.ops 4 false [
    ⟨some 20, .val (.t 0), none⟩,
    ⟨some 21, .nilCheck (.t 20), none⟩,
    ⟨some 22, .fieldA 0 (.t 21), none⟩,
    ⟨some 23, .load (.t 22), none⟩,
    ⟨some 24, .val (.t 1), none⟩,
    ⟨some 25, .inv (.t 23) "Find" [(.t 24)], none⟩,
    ⟨some 19, .val (.t 25), none⟩,
    ⟨some 26, .extract 0 (.t 19), none⟩,
    ⟨some 27, .extract 1 (.t 19), none⟩,
    ⟨some 7, .val (.t 26), none⟩,
    ⟨some 8, .val (.t 27), none⟩] [])
   (.seq (.seq (.ops 5 false [
      ⟨some 28, .val (.t 8), none⟩,
      ⟨some 29, .bin .neq (.t 28) (.c (.int .i64 0)), none⟩] [])
     (.cond (.t 29) (.seq (.ops 6 false [
        ⟨some 30, .val (.t 8), none⟩,
        ⟨some 4, .val (.t 30), none⟩] [])
       (.ret))
      (.skip)))
    (.seq (.seq (.ops 7 false [
       ⟨some 31, .val (.t 7), none⟩,
       ⟨some 32, .len (.t 31), none⟩,
       ⟨some 33, .bin .gtr (.t 32) (.c (.int .i64 4096)), none⟩] [])
      (.cond (.t 33) (.seq (.ops 8 false [
         ⟨some 4, .val (.c (.int .i64 71)), none⟩] [])
        (.ret))
       (.skip)))
     (.seq (.ops 9 true [
       ⟨some 34, .val (.t 0), none⟩,
       ⟨some 35, .nilCheck (.t 34), none⟩,
       ⟨some 36, .fieldA 1 (.t 35), none⟩,
       ⟨some 37, .load (.t 36), none⟩,
       ⟨some 38, .val (.t 1), none⟩,
       ⟨some 39, .val (.t 7), none⟩,
       ⟨some 40, .call 84 [(.t 39)], none⟩,
       ⟨none, .upd 115 (.t 37) (.t 38) (.t 40), none⟩] [([], []), ([0], [0]), ([1], [1]), ([2], [2]), ([], []), ([], []), ([5], [5]), ([3, 4, 6, 6, 0, 1, 2, 3, 4, 5, 6], [3, 4, 6])])
      (.seq (.ops 10 false [
        ⟨some 4, .val (.c (.int .i64 0)), none⟩] [])
       (.ret)))))))
def rs110 : List RR := [.tmp 4]
theorem fun110 : FunR Tryz.prog 110 rc110 rs110 41 := ⟨Tryz.f110, Tryz.func110, by kernel_rfl, by kernel_rfl, by kernel_rfl⟩
/-- (*causeway/causewayref07.State).ask -/
def rc111 : RC :=
 .seq (.ops 0 false [
  ⟨some 4, .val (.c (.int .i64 0)), none⟩] [])
 (.seq (.ops 1 false [
   ⟨some 6, .val (.t 0), none⟩,
   ⟨some 7, .val (.t 1), none⟩,
   ⟨some 8, .call 140 [(.t 6), (.t 7)], none⟩,
   ⟨some 5, .val (.t 8), none⟩] [])
  (.seq (.seq (.ops 2 false [
     ⟨some 9, .val (.t 5), none⟩,
     ⟨some 10, .bin .neq (.t 9) (.c (.int .i64 0)), none⟩,
     ⟨some 11, .val (.t 10), none⟩,
     ⟨some 12, .val (.t 0), some (11, true)⟩,
     ⟨some 13, .nilCheck (.t 12), some (11, true)⟩,
     ⟨some 14, .fieldA 6 (.t 13), some (11, true)⟩,
     ⟨some 15, .load (.t 14), some (11, true)⟩,
     ⟨some 16, .bin .eql (.t 15) (.c (.int .i64 0)), some (11, true)⟩,
     ⟨some 17, .pick (.t 11) (.t 16) (.c (.bool false)), none⟩] [])
    (.cond (.t 17) (.ops 3 false [
      ⟨some 18, .val (.t 0), none⟩,
      ⟨some 19, .val (.t 5), none⟩,
      ⟨some 20, .nilCheck (.t 18), none⟩,
      ⟨some 21, .fieldA 6 (.t 20), none⟩,
      ⟨none, .store 1 (.t 21) (.t 19), none⟩] [])
     (.skip)))
   (.seq (.ops 4 false [
     ⟨some 22, .val (.t 5), none⟩,
     ⟨some 4, .val (.t 22), none⟩] [])
    (.ret))))
def rs111 : List RR := [.tmp 4]
theorem fun111 : FunR Tryz.prog 111 rc111 rs111 23 := ⟨Tryz.f111, Tryz.func111, by kernel_rfl, by kernel_rfl, by kernel_rfl⟩
/-- causeway/causewayref07.with -/
def rc115 : RC :=
 .seq (.ops 0 false [
  ⟨some 6, .val (.c (.slice none 0 0)), none⟩] [])
 (.seq (.ops 1 false [
   ⟨some 7, .val (.c (.slice none 0 0)), none⟩] [])
  (.seq (.ops 2 false [
    ⟨some 8, .val (.c (.bool false)), none⟩] [])
   (.seq (.seq (.ops 3 false [
      ⟨some 9, .val (.c (.int .i64 0)), none⟩] [])
     (.block 0 (.loop (.seq (.seq (.ops 4 false [
          ⟨some 10, .val (.t 9), none⟩,
          ⟨some 11, .val (.t 0), none⟩,
          ⟨some 12, .len (.t 11), none⟩,
          ⟨some 13, .bin .lss (.t 10) (.t 12), none⟩] [])
         (.cond (.t 13) (.skip)
          (.exit 0)))
        (.seq (.block 1 (.seq (.seq (.ops 6 false [
             ⟨some 16, .val (.t 8), none⟩,
             ⟨some 17, .not (.t 16), none⟩,
             ⟨some 18, .val (.t 17), none⟩,
             ⟨some 19, .val (.t 0), some (18, true)⟩,
             ⟨some 20, .val (.t 9), some (18, true)⟩,
             ⟨some 21, .indexS 2 (.t 19) (.t 20), some (18, true)⟩,
             ⟨some 22, .fieldA 0 (.t 21), some (18, true)⟩,
             ⟨some 23, .load (.t 22), some (18, true)⟩,
             ⟨some 24, .val (.t 1), some (18, true)⟩,
             ⟨some 25, .sbin .geq (.t 23) (.t 24), some (18, true)⟩,
             ⟨some 26, .pick (.t 18) (.t 25) (.c (.bool false)), none⟩] [])
            (.cond (.t 26) (.seq (.ops 7 false [
               ⟨some 8, .val (.c (.bool true)), none⟩] [])
              (.ops 8 false [
               ⟨some 27, .val (.t 7), none⟩,
               ⟨some 28, .val (.t 1), none⟩,
               ⟨some 29, .val (.t 2), none⟩,
               ⟨some 30, .call 86 [(.t 29)], none⟩,
               ⟨some 31, .build [(.string ⟨#[]⟩), (.slice none 0 0)] [(0, 1, (.t 28)), (1, 1, (.t 30))], none⟩,
               ⟨some 32, .buildS 103 1 [(.string ⟨#[]⟩), (.slice none 0 0)] [(0, 2, (.t 31))], none⟩,
               ⟨some 33, .blt .append #[22, 22] 22 [(.t 27), (.t 32)], none⟩,
               ⟨some 7, .val (.t 33), none⟩] []))
             (.skip)))
           (.seq (.ops 9 false [
             ⟨some 34, .val (.t 0), none⟩,
             ⟨some 35, .val (.t 9), none⟩,
             ⟨some 36, .indexS 2 (.t 34) (.t 35), none⟩,
             ⟨some 37, .fieldA 0 (.t 36), none⟩,
             ⟨some 38, .load (.t 37), none⟩,
             ⟨some 39, .val (.t 1), none⟩,
             ⟨some 40, .eqp .str true (.t 38) (.t 39), none⟩] [])
            (.cond (.t 40) (.ops 10 false [
              ⟨some 41, .val (.t 7), none⟩,
              ⟨some 42, .val (.t 0), none⟩,
              ⟨some 43, .val (.t 9), none⟩,
              ⟨some 44, .indexS 2 (.t 42) (.t 43), none⟩,
              ⟨some 45, .loadN 2 (.t 44), none⟩,
              ⟨some 46, .buildS 103 1 [(.string ⟨#[]⟩), (.slice none 0 0)] [(0, 2, (.t 45))], none⟩,
              ⟨some 47, .blt .append #[22, 22] 22 [(.t 41), (.t 46)], none⟩,
              ⟨some 7, .val (.t 47), none⟩] [])
             (.skip)))))
         (.ops 5 false [
          ⟨some 14, .val (.t 9), none⟩,
          ⟨some 15, .bin .add (.t 14) (.c (.int .i64 1)), none⟩,
          ⟨some 9, .val (.t 15), none⟩] []))))))
    (.seq (.seq (.ops 11 false [
       ⟨some 48, .val (.t 8), none⟩,
       ⟨some 49, .not (.t 48), none⟩] [])
      (.cond (.t 49) (.ops 12 false [
        ⟨some 50, .val (.t 7), none⟩,
        ⟨some 51, .val (.t 1), none⟩,
        ⟨some 52, .val (.t 2), none⟩,
        ⟨some 53, .call 86 [(.t 52)], none⟩,
        ⟨some 54, .build [(.string ⟨#[]⟩), (.slice none 0 0)] [(0, 1, (.t 51)), (1, 1, (.t 53))], none⟩,
        ⟨some 55, .buildS 103 1 [(.string ⟨#[]⟩), (.slice none 0 0)] [(0, 2, (.t 54))], none⟩,
        ⟨some 56, .blt .append #[22, 22] 22 [(.t 50), (.t 55)], none⟩,
        ⟨some 7, .val (.t 56), none⟩] [])
       (.skip)))
     (.seq (.ops 13 false [
       ⟨some 57, .val (.t 7), none⟩,
       ⟨some 6, .val (.t 57), none⟩] [])
      (.ret))))))
def rs115 : List RR := [.tmp 6]
theorem fun115 : FunR Tryz.prog 115 rc115 rs115 58 := ⟨Tryz.f115, Tryz.func115, by kernel_rfl, by kernel_rfl, by kernel_rfl⟩
/-- causeway/causewayref07.at -/
def rc127 : RC :=
 .seq (.ops 0 false [
  ⟨some 4, .val (.c (.slice none 0 0)), none⟩,
  ⟨some 5, .val (.c (.bool false)), none⟩] [])
 (.seq (.seq (.ops 1 false [
    ⟨some 6, .val (.c (.int .i64 0)), none⟩] [])
   (.block 0 (.loop (.seq (.seq (.ops 2 false [
        ⟨some 7, .val (.t 6), none⟩,
        ⟨some 8, .val (.t 0), none⟩,
        ⟨some 9, .len (.t 8), none⟩,
        ⟨some 10, .bin .lss (.t 7) (.t 9), none⟩] [])
       (.cond (.t 10) (.skip)
        (.exit 0)))
      (.seq (.block 1 (.seq (.ops 4 false [
          ⟨some 13, .val (.t 0), none⟩,
          ⟨some 14, .val (.t 6), none⟩,
          ⟨some 15, .indexS 2 (.t 13) (.t 14), none⟩,
          ⟨some 16, .fieldA 0 (.t 15), none⟩,
          ⟨some 17, .load (.t 16), none⟩,
          ⟨some 18, .val (.t 1), none⟩,
          ⟨some 19, .eqp .str false (.t 17) (.t 18), none⟩] [])
         (.cond (.t 19) (.seq (.ops 5 false [
            ⟨some 20, .val (.t 0), none⟩,
            ⟨some 21, .val (.t 6), none⟩,
            ⟨some 22, .indexS 2 (.t 20) (.t 21), none⟩,
            ⟨some 23, .fieldA 1 (.t 22), none⟩,
            ⟨some 24, .load (.t 23), none⟩,
            ⟨some 4, .val (.t 24), none⟩,
            ⟨some 5, .val (.c (.bool true)), none⟩] [])
           (.ret))
          (.skip))))
       (.ops 3 false [
        ⟨some 11, .val (.t 6), none⟩,
        ⟨some 12, .bin .add (.t 11) (.c (.int .i64 1)), none⟩,
        ⟨some 6, .val (.t 12), none⟩] []))))))
  (.seq (.ops 6 false [
    ⟨some 4, .val (.c (.slice none 0 0)), none⟩,
    ⟨some 5, .val (.c (.bool false)), none⟩] [])
   (.ret)))
def rs127 : List RR := [.tmp 4, .tmp 5]
theorem fun127 : FunR Tryz.prog 127 rc127 rs127 25 := ⟨Tryz.f127, Tryz.func127, by kernel_rfl, by kernel_rfl, by kernel_rfl⟩
/-- causeway/wide.Bytes -/
def rc128 : RC :=
 .seq (.ops 0 false [
  ⟨some 1, .box 38 (.t 0), none⟩,
  ⟨some 2, .val (.c (.slice none 0 0)), none⟩] [])
 (.seq (.ops 1 false [
   ⟨some 6, .mkS 74 (.c (.int .i64 0)) (.c (.int .i64 32)), none⟩,
   ⟨some 3, .val (.t 6), none⟩] [])
  (.seq (.seq (.ops 2 false [
     ⟨some 4, .val (.c (.int .i64 3)), none⟩] [])
    (.block 0 (.loop (.seq (.seq (.ops 3 false [
         ⟨some 7, .val (.t 4), none⟩,
         ⟨some 8, .bin .geq (.t 7) (.c (.int .i64 0)), none⟩] [])
        (.cond (.t 8) (.skip)
         (.exit 0)))
       (.seq (.block 1 (.seq (.ops 5 false [
           ⟨some 5, .val (.c (.int .i64 56)), none⟩] [])
          (.block 2 (.loop (.seq (.seq (.ops 6 false [
               ⟨some 11, .val (.t 5), none⟩,
               ⟨some 12, .bin .geq (.t 11) (.c (.int .i64 0)), none⟩] [])
              (.cond (.t 12) (.skip)
               (.exit 2)))
             (.seq (.block 3 (.ops 8 false [
                ⟨some 15, .val (.t 3), none⟩,
                ⟨some 16, .val (.t 4), none⟩,
                ⟨some 17, .indexA 4 1 (.t 1) (.t 16), none⟩,
                ⟨some 18, .load (.t 17), none⟩,
                ⟨some 19, .val (.t 5), none⟩,
                ⟨some 20, .bin .shr (.t 18) (.t 19), none⟩,
                ⟨some 21, .conv .u8 (.t 20), none⟩,
                ⟨some 22, .buildS 5 1 [(.int .u8 0)] [(0, 1, (.t 21))], none⟩,
                ⟨some 23, .blt .append #[74, 74] 74 [(.t 15), (.t 22)], none⟩,
                ⟨some 3, .val (.t 23), none⟩] []))
              (.ops 7 false [
               ⟨some 13, .val (.t 5), none⟩,
               ⟨some 14, .bin .sub (.t 13) (.c (.int .i64 8)), none⟩,
               ⟨some 5, .val (.t 14), none⟩] [])))))))
        (.ops 4 false [
         ⟨some 9, .val (.t 4), none⟩,
         ⟨some 10, .bin .sub (.t 9) (.c (.int .i64 1)), none⟩,
         ⟨some 4, .val (.t 10), none⟩] []))))))
   (.seq (.ops 9 false [
     ⟨some 24, .val (.t 3), none⟩,
     ⟨some 2, .val (.t 24), none⟩] [])
    (.ret))))
def rs128 : List RR := [.tmp 2]
theorem fun128 : FunR Tryz.prog 128 rc128 rs128 25 := ⟨Tryz.f128, Tryz.func128, by kernel_rfl, by kernel_rfl, by kernel_rfl⟩
/-- causeway/digest.Sum -/
def rc130 : RC :=
 .seq (.ops 0 false [
  ⟨some 2, .alloc 178 (List.replicate 32 (.int .u8 0)), none⟩] [])
 (.seq (.ops 1 false [
   ⟨some 3, .val (.t 0), none⟩,
   ⟨some 4, .buildS 74 1 [(.slice none 0 0)] [(0, 1, (.t 3))], none⟩,
   ⟨some 5, .call 145 [(.t 4)], none⟩,
   ⟨none, .store 32 (.t 2) (.t 5), none⟩] [])
  (.ret))
def rs130 : List RR := [.cell 2 (some 32)]
theorem fun130 : FunR Tryz.prog 130 rc130 rs130 6 := ⟨Tryz.f130, Tryz.func130, by kernel_rfl, by kernel_rfl, by kernel_rfl⟩
/-- slices.BinarySearch[[]string,string] -/
def rc131 : RC :=
 .seq (.ops 0 false [
  ⟨some 4, .val (.c (.int .i64 0)), none⟩,
  ⟨some 5, .val (.c (.bool false)), none⟩] [])
 (.seq (.ops 1 false [
   ⟨some 10, .val (.t 0), none⟩,
   ⟨some 11, .len (.t 10), none⟩,
   ⟨some 6, .val (.t 11), none⟩] [])
  (.seq (.ops 2 false [
    ⟨some 12, .val (.t 6), none⟩,
    ⟨some 7, .val (.c (.int .i64 0)), none⟩,
    ⟨some 8, .val (.t 12), none⟩] [])
   (.seq (.block 0 (.loop (.seq (.seq (.ops 3 false [
         ⟨some 13, .val (.t 7), none⟩,
         ⟨some 14, .val (.t 8), none⟩,
         ⟨some 15, .bin .lss (.t 13) (.t 14), none⟩] [])
        (.cond (.t 15) (.skip)
         (.exit 0)))
       (.block 1 (.seq (.ops 4 false [
          ⟨some 16, .val (.t 7), none⟩,
          ⟨some 17, .val (.t 8), none⟩,
          ⟨some 18, .bin .add (.t 16) (.t 17), none⟩,
          ⟨some 19, .conv .u64 (.t 18), none⟩,
          ⟨some 20, .bin .shr (.t 19) (.c (.int .u64 1)), none⟩,
          ⟨some 21, .conv .i64 (.t 20), none⟩,
          ⟨some 9, .val (.t 21), none⟩] [])
         (.seq (.ops 5 false [
           ⟨some 22, .val (.t 0), none⟩,
           ⟨some 23, .val (.t 9), none⟩,
           ⟨some 24, .indexS 1 (.t 22) (.t 23), none⟩,
           ⟨some 25, .load (.t 24), none⟩,
           ⟨some 26, .val (.t 1), none⟩,
           ⟨some 27, .call 146 [(.t 25), (.t 26)], none⟩] [])
          (.cond (.t 27) (.ops 6 false [
            ⟨some 28, .val (.t 9), none⟩,
            ⟨some 29, .bin .add (.t 28) (.c (.int .i64 1)), none⟩,
            ⟨some 7, .val (.t 29), none⟩] [])
           (.ops 7 false [
            ⟨some 30, .val (.t 9), none⟩,
            ⟨some 8, .val (.t 30), none⟩] []))))))))
    (.seq (.ops 8 false [
      ⟨some 31, .val (.t 7), none⟩,
      ⟨some 32, .val (.t 7), none⟩,
      ⟨some 33, .val (.t 6), none⟩,
      ⟨some 34, .bin .lss (.t 32) (.t 33), none⟩,
      ⟨some 35, .val (.t 34), none⟩,
      ⟨some 36, .val (.t 0), some (35, true)⟩,
      ⟨some 37, .val (.t 7), some (35, true)⟩,
      ⟨some 38, .indexS 1 (.t 36) (.t 37), some (35, true)⟩,
      ⟨some 39, .load (.t 38), some (35, true)⟩,
      ⟨some 40, .val (.t 1), some (35, true)⟩,
      ⟨some 41, .eqp .str false (.t 39) (.t 40), some (35, true)⟩,
      ⟨some 42, .val (.t 41), some (35, true)⟩,
      ⟨some 43, .val (.t 0), some (42, false)⟩,
      ⟨some 44, .val (.t 7), some (42, false)⟩,
      ⟨some 45, .indexS 1 (.t 43) (.t 44), some (42, false)⟩,
      ⟨some 46, .load (.t 45), some (42, false)⟩,
      ⟨some 47, .call 147 [(.t 46)], some (42, false)⟩,
      ⟨some 48, .val (.t 47), some (42, false)⟩,
      ⟨some 49, .val (.t 1), some (48, true)⟩,
      ⟨some 50, .call 147 [(.t 49)], some (48, true)⟩,
      ⟨some 51, .pick (.t 48) (.t 50) (.c (.bool false)), some (42, false)⟩,
      ⟨some 52, .pick (.t 42) (.c (.bool true)) (.t 51), some (35, true)⟩,
      ⟨some 53, .pick (.t 35) (.t 52) (.c (.bool false)), none⟩,
      ⟨some 4, .val (.t 31), none⟩,
      ⟨some 5, .val (.t 53), none⟩] [])
     (.ret)))))
def rs131 : List RR := [.tmp 4, .tmp 5]
theorem fun131 : FunR Tryz.prog 131 rc131 rs131 54 := ⟨Tryz.f131, Tryz.func131, by kernel_rfl, by kernel_rfl, by kernel_rfl⟩
/-- slices.Insert[[]string,string] -/
def rc132 : RC :=
 .seq (.ops 0 false [
  ⟨some 6, .val (.c (.slice none 0 0)), none⟩] [])
 (.seq (.ops 1 false [
   ⟨some 10, .val (.t 0), none⟩,
   ⟨some 11, .val (.t 1), none⟩,
   ⟨some 12, .slice 1 (.t 10) (some (.t 11)) none none, none⟩] [])
  (.seq (.ops 2 false [
    ⟨some 13, .val (.t 2), none⟩,
    ⟨some 14, .len (.t 13), none⟩,
    ⟨some 7, .val (.t 14), none⟩] [])
   (.seq (.seq (.ops 3 false [
      ⟨some 15, .val (.t 7), none⟩,
      ⟨some 16, .bin .eql (.t 15) (.c (.int .i64 0)), none⟩] [])
     (.cond (.t 16) (.seq (.ops 4 false [
        ⟨some 17, .val (.t 0), none⟩,
        ⟨some 6, .val (.t 17), none⟩] [])
       (.ret))
      (.skip)))
    (.seq (.ops 5 false [
      ⟨some 18, .val (.t 0), none⟩,
      ⟨some 19, .len (.t 18), none⟩,
      ⟨some 8, .val (.t 19), none⟩] [])
     (.seq (.seq (.ops 6 false [
        ⟨some 20, .val (.t 1), none⟩,
        ⟨some 21, .val (.t 8), none⟩,
        ⟨some 22, .bin .eql (.t 20) (.t 21), none⟩] [])
       (.cond (.t 22) (.seq (.ops 7 false [
          ⟨some 23, .val (.t 0), none⟩,
          ⟨some 24, .val (.t 2), none⟩,
          ⟨some 25, .blt .append #[61, 61] 61 [(.t 23), (.t 24)], none⟩,
          ⟨some 6, .val (.t 25), none⟩] [])
         (.ret))
        (.skip)))
      (.seq (.seq (.ops 8 false [
         ⟨some 26, .val (.t 8), none⟩,
         ⟨some 27, .val (.t 7), none⟩,
         ⟨some 28, .bin .add (.t 26) (.t 27), none⟩,
         ⟨some 29, .val (.t 0), none⟩,
         ⟨some 30, .blt .cap #[61] 3 [(.t 29)], none⟩,
         ⟨some 31, .bin .gtr (.t 28) (.t 30), none⟩] [])
        (.cond (.t 31) (.seq (.ops 9 false [
           ⟨some 32, .val (.t 0), none⟩,
           ⟨some 33, .val (.t 1), none⟩,
           ⟨some 34, .slice 1 (.t 32) none (some (.t 33)) none, none⟩,
           ⟨some 35, .val (.t 8), none⟩,
           ⟨some 36, .val (.t 7), none⟩,
           ⟨some 37, .bin .add (.t 35) (.t 36), none⟩,
           ⟨some 38, .val (.t 1), none⟩,
           ⟨some 39, .bin .sub (.t 37) (.t 38), none⟩,
           ⟨some 40, .blt .append #[61, 3] 61 [(.t 34), (.t 39)], none⟩,
           ⟨some 9, .val (.t 40), none⟩] [])
          (.seq (.ops 10 false [
            ⟨some 41, .val (.t 9), none⟩,
            ⟨some 42, .val (.t 1), none⟩,
            ⟨some 43, .slice 1 (.t 41) (some (.t 42)) none none, none⟩,
            ⟨some 44, .val (.t 2), none⟩,
            ⟨some 45, .blt .copy #[61, 61] 3 [(.t 43), (.t 44)], none⟩] [])
           (.seq (.ops 11 true [
             ⟨some 46, .val (.t 9), none⟩,
             ⟨some 47, .val (.t 1), none⟩,
             ⟨some 48, .val (.t 7), none⟩,
             ⟨some 49, .bin .add (.t 47) (.t 48), none⟩,
             ⟨some 50, .slice 1 (.t 46) (some (.t 49)) none none, none⟩,
             ⟨some 51, .val (.t 0), none⟩,
             ⟨some 52, .val (.t 1), none⟩,
             ⟨some 53, .slice 1 (.t 51) (some (.t 52)) none none, none⟩,
             ⟨some 54, .blt .copy #[61, 61] 3 [(.t 50), (.t 53)], none⟩] [([], []), ([], []), ([], []), ([1, 2], [1, 2]), ([0, 3], [0, 3]), ([], []), ([], []), ([5, 6], [5, 6]), ([4, 7], [4, 7])])
            (.seq (.ops 12 false [
              ⟨some 55, .val (.t 9), none⟩,
              ⟨some 6, .val (.t 55), none⟩] [])
             (.ret)))))
         (.skip)))
       (.seq (.ops 13 false [
         ⟨some 56, .val (.t 0), none⟩,
         ⟨some 57, .val (.t 8), none⟩,
         ⟨some 58, .val (.t 7), none⟩,
         ⟨some 59, .bin .add (.t 57) (.t 58), none⟩,
         ⟨some 60, .slice 1 (.t 56) none (some (.t 59)) none, none⟩,
         ⟨some 0, .val (.t 60), none⟩] [])
        (.seq (.seq (.ops 14 false [
           ⟨some 61, .val (.t 2), none⟩,
           ⟨some 62, .val (.t 0), none⟩,
           ⟨some 63, .val (.t 1), none⟩,
           ⟨some 64, .val (.t 7), none⟩,
           ⟨some 65, .bin .add (.t 63) (.t 64), none⟩,
           ⟨some 66, .slice 1 (.t 62) (some (.t 65)) none none, none⟩,
           ⟨some 67, .ext 148 [(.t 61), (.t 66)], none⟩,
           ⟨some 68, .not (.t 67), none⟩] [])
          (.cond (.t 68) (.seq (.ops 15 true [
             ⟨some 69, .val (.t 0), none⟩,
             ⟨some 70, .val (.t 1), none⟩,
             ⟨some 71, .val (.t 7), none⟩,
             ⟨some 72, .bin .add (.t 70) (.t 71), none⟩,
             ⟨some 73, .slice 1 (.t 69) (some (.t 72)) none none, none⟩,
             ⟨some 74, .val (.t 0), none⟩,
             ⟨some 75, .val (.t 1), none⟩,
             ⟨some 76, .slice 1 (.t 74) (some (.t 75)) none none, none⟩,
             ⟨some 77, .blt .copy #[61, 61] 3 [(.t 73), (.t 76)], none⟩] [([], []), ([], []), ([], []), ([1, 2], [1, 2]), ([0, 3], [0, 3]), ([], []), ([], []), ([5, 6], [5, 6]), ([4, 7], [4, 7])])
            (.seq (.ops 16 false [
              ⟨some 78, .val (.t 0), none⟩,
              ⟨some 79, .val (.t 1), none⟩,
              ⟨some 80, .slice 1 (.t 78) (some (.t 79)) none none, none⟩,
              ⟨some 81, .val (.t 2), none⟩,
              ⟨some 82, .blt .copy #[61, 61] 3 [(.t 80), (.t 81)], none⟩] [])
             (.seq (.ops 17 false [
               ⟨some 83, .val (.t 0), none⟩,
               ⟨some 6, .val (.t 83), none⟩] [])
              (.ret))))
           (.skip)))
         (.seq (.ops 18 false [
           ⟨some 84, .val (.t 0), none⟩,
           ⟨some 85, .val (.t 8), none⟩,
           ⟨some 86, .slice 1 (.t 84) (some (.t 85)) none none, none⟩,
           ⟨some 87, .val (.t 2), none⟩,
           ⟨some 88, .blt .copy #[61, 61] 3 [(.t 86), (.t 87)], none⟩] [])
          (.seq (.ops 19 false [
            ⟨some 89, .val (.t 0), none⟩,
            ⟨some 90, .val (.t 1), none⟩,
            ⟨some 91, .slice 1 (.t 89) (some (.t 90)) none none, none⟩,
            ⟨some 92, .val (.t 7), none⟩,
            ⟨some 93, .call 149 [(.t 91), (.t 92)], none⟩] [])
           (.seq (.ops 20 false [
             ⟨some 94, .val (.t 0), none⟩,
             ⟨some 6, .val (.t 94), none⟩] [])
            (.ret))))))))))))
def rs132 : List RR := [.tmp 6]
theorem fun132 : FunR Tryz.prog 132 rc132 rs132 95 := ⟨Tryz.f132, Tryz.func132, by kernel_rfl, by kernel_rfl, by kernel_rfl⟩
/-- slices.Clone[[]string,string] -/
def rc133 : RC :=
 .seq (.ops 0 false [
  ⟨some 2, .val (.c (.slice none 0 0)), none⟩] [])
 (.seq (.seq (.ops 1 false [
    ⟨some 3, .val (.t 0), none⟩,
    ⟨some 4, .eqp .slc false (.t 3) (.c (.slice none 0 0)), none⟩] [])
   (.cond (.t 4) (.seq (.ops 2 false [
      ⟨some 2, .val (.c (.slice none 0 0)), none⟩] [])
     (.ret))
    (.skip)))
  (.seq (.ops 3 false [
    ⟨some 5, .buildS 9 0 [] [], none⟩,
    ⟨some 6, .val (.t 0), none⟩,
    ⟨some 7, .blt .append #[61, 61] 61 [(.t 5), (.t 6)], none⟩,
    ⟨some 2, .val (.t 7), none⟩] [])
   (.ret)))
def rs133 : List RR := [.tmp 2]
theorem fun133 : FunR Tryz.prog 133 rc133 rs133 8 := ⟨Tryz.f133, Tryz.func133, by kernel_rfl, by kernel_rfl, by kernel_rfl⟩
/-- slices.Delete[[]string,string] -/
def rc134 : RC :=
 .seq (.ops 0 false [
  ⟨some 6, .val (.c (.slice none 0 0)), none⟩] [])
 (.seq (.ops 1 false [
   ⟨some 8, .val (.t 0), none⟩,
   ⟨some 9, .val (.t 1), none⟩,
   ⟨some 10, .val (.t 2), none⟩,
   ⟨some 11, .val (.t 0), none⟩,
   ⟨some 12, .len (.t 11), none⟩,
   ⟨some 13, .slice 1 (.t 8) (some (.t 9)) (some (.t 10)) (some (.t 12)), none⟩] [])
  (.seq (.seq (.ops 2 false [
     ⟨some 14, .val (.t 1), none⟩,
     ⟨some 15, .val (.t 2), none⟩,
     ⟨some 16, .bin .eql (.t 14) (.t 15), none⟩] [])
    (.cond (.t 16) (.seq (.ops 3 false [
       ⟨some 17, .val (.t 0), none⟩,
       ⟨some 6, .val (.t 17), none⟩] [])
      (.ret))
     (.skip)))
   (.seq (.ops 4 false [
     ⟨some 18, .val (.t 0), none⟩,
     ⟨some 19, .len (.t 18), none⟩,
     ⟨some 7, .val (.t 19), none⟩] [])
    (.seq (.ops 5 true [
      ⟨some 20, .val (.t 0), none⟩,
      ⟨some 21, .val (.t 1), none⟩,
      ⟨some 22, .slice 1 (.t 20) none (some (.t 21)) none, none⟩,
      ⟨some 23, .val (.t 0), none⟩,
      ⟨some 24, .val (.t 2), none⟩,
      ⟨some 25, .slice 1 (.t 23) (some (.t 24)) none none, none⟩,
      ⟨some 26, .blt .append #[61, 61] 61 [(.t 22), (.t 25)], none⟩,
      ⟨some 0, .val (.t 26), none⟩] [([], []), ([], []), ([0, 1], [0, 1]), ([], []), ([], []), ([3, 4], [3, 4]), ([2, 5], [2, 5]), ([6, 6, 0, 1, 2, 3, 4, 5, 6], [0, 3, 6])])
     (.seq (.ops 6 false [
       ⟨some 27, .val (.t 0), none⟩,
       ⟨some 28, .val (.t 0), none⟩,
       ⟨some 29, .len (.t 28), none⟩,
       ⟨some 30, .val (.t 7), none⟩,
       ⟨some 31, .slice 1 (.t 27) (some (.t 29)) (some (.t 30)) none, none⟩,
       ⟨none, .blt .clear #[61] 0 [(.t 31)], none⟩] [])
      (.seq (.ops 7 false [
        ⟨some 32, .val (.t 0), none⟩,
        ⟨some 6, .val (.t 32), none⟩] [])
       (.ret)))))))
def rs134 : List RR := [.tmp 6]
theorem fun134 : FunR Tryz.prog 134 rc134 rs134 33 := ⟨Tryz.f134, Tryz.func134, by kernel_rfl, by kernel_rfl, by kernel_rfl⟩
/-- (*causeway/sparse.Map).Put -/
def rc135 : RC :=
 .seq (.ops 0 false [
  ⟨some 4, .box 178 (.t 1), none⟩,
  ⟨some 5, .box 178 (.t 2), none⟩] [])
 (.seq (.ops 1 false [
   ⟨some 8, .build (List.replicate 32 (.int .u8 0)) [], none⟩,
   ⟨some 6, .alloc 178 (List.replicate 32 (.int .u8 0)), none⟩,
   ⟨none, .store 32 (.t 6) (.t 8), none⟩] [])
  (.seq (.ops 2 true [
    ⟨some 9, .val (.t 0), none⟩,
    ⟨some 10, .nilCheck (.t 9), none⟩,
    ⟨some 11, .fieldA 0 (.t 10), none⟩,
    ⟨some 12, .load (.t 11), none⟩,
    ⟨some 13, .loadN 32 (.t 4), none⟩,
    ⟨some 14, .call 150 [(.t 12), (.t 13)], none⟩,
    ⟨some 7, .alloc 178 (List.replicate 32 (.int .u8 0)), none⟩,
    ⟨none, .store 32 (.t 7) (.t 14), none⟩] [([], []), ([0], [0]), ([1], [1]), ([2], [2]), ([], []), ([3, 4], [3, 4]), ([], []), ([6, 5, 5, 0, 1, 2, 3, 4, 5, 6], [5, 6])])
   (.seq (.seq (.ops 3 false [
      ⟨some 15, .loadN 32 (.t 7), none⟩,
      ⟨some 16, .loadN 32 (.t 6), none⟩,
      ⟨some 17, .eqn true 178 (.t 15) (.t 16), none⟩] [])
     (.cond (.t 17) (.ops 4 false [
       ⟨some 18, .val (.t 0), none⟩,
       ⟨some 19, .nilCheck (.t 18), none⟩,
       ⟨some 20, .fieldA 1 (.t 19), none⟩,
       ⟨some 21, .load (.t 20), none⟩,
       ⟨some 22, .bin .sub (.t 21) (.c (.int .i64 1)), none⟩,
       ⟨some 23, .nilCheck (.t 18), none⟩,
       ⟨some 24, .fieldA 1 (.t 23), none⟩,
       ⟨none, .store 1 (.t 24) (.t 22), none⟩] [])
      (.skip)))
    (.seq (.seq (.ops 5 false [
       ⟨some 25, .loadN 32 (.t 5), none⟩,
       ⟨some 26, .loadN 32 (.t 6), none⟩,
       ⟨some 27, .eqn true 178 (.t 25) (.t 26), none⟩] [])
      (.cond (.t 27) (.ops 6 false [
        ⟨some 28, .val (.t 0), none⟩,
        ⟨some 29, .nilCheck (.t 28), none⟩,
        ⟨some 30, .fieldA 1 (.t 29), none⟩,
        ⟨some 31, .load (.t 30), none⟩,
        ⟨some 32, .bin .add (.t 31) (.c (.int .i64 1)), none⟩,
        ⟨some 33, .nilCheck (.t 28), none⟩,
        ⟨some 34, .fieldA 1 (.t 33), none⟩,
        ⟨none, .store 1 (.t 34) (.t 32), none⟩] [])
       (.skip)))
     (.ops 7 true [
      ⟨some 35, .val (.t 0), none⟩,
      ⟨some 36, .val (.t 0), none⟩,
      ⟨some 37, .nilCheck (.t 36), none⟩,
      ⟨some 38, .fieldA 0 (.t 37), none⟩,
      ⟨some 39, .load (.t 38), none⟩,
      ⟨some 40, .loadN 32 (.t 4), none⟩,
      ⟨some 41, .loadN 32 (.t 5), none⟩,
      ⟨some 42, .call 151 [(.t 39), (.t 40), (.t 41), (.c (.int .i64 0))], none⟩,
      ⟨some 43, .nilCheck (.t 35), none⟩,
      ⟨some 44, .fieldA 0 (.t 43), none⟩,
      ⟨none, .store 1 (.t 44) (.t 42), none⟩] [([], []), ([], []), ([1], [1]), ([2], [2]), ([3], [3]), ([], []), ([], []), ([4, 5, 6], [4, 5, 6]), ([0, 0, 1, 2, 3, 4, 5, 6, 7], [0]), ([8, 0, 1, 2, 3, 4, 5, 6, 7], [8]), ([9, 7, 7, 0, 1, 2, 3, 4, 5, 6, 7], [7, 9])])))))
def rs135 : List RR := []
theorem fun135 : FunR Tryz.prog 135 rc135 rs135 45 := ⟨Tryz.f135, Tryz.func135, by kernel_rfl, by kernel_rfl, by kernel_rfl⟩
/-- (*causeway/causewayref07.State).asked -/
def rc140 : RC :=
 .seq (.ops 0 false [
  ⟨some 4, .val (.c (.int .i64 0)), none⟩] [])
 (.seq (.ops 1 false [
   ⟨some 11, .val (.t 0), none⟩,
   ⟨some 12, .nilCheck (.t 11), none⟩,
   ⟨some 13, .fieldA 3 (.t 12), none⟩,
   ⟨some 14, .load (.t 13), none⟩,
   ⟨some 15, .val (.t 1), none⟩,
   ⟨some 16, .call 127 [(.t 14), (.t 15)], none⟩,
   ⟨some 10, .val (.t 16), none⟩,
   ⟨some 17, .extract 0 (.t 10), none⟩,
   ⟨some 18, .extract 1 (.t 10), none⟩,
   ⟨some 5, .val (.t 17), none⟩,
   ⟨some 6, .val (.t 18), none⟩] [])
  (.seq (.seq (.ops 2 false [
     ⟨some 19, .val (.t 6), none⟩] [])
    (.cond (.t 19) (.seq (.ops 3 false [
       ⟨some 4, .val (.c (.int .i64 0)), none⟩] [])
      (.ret))
     (.skip)))
   (.seq (.seq (.ops 4 false [
      ⟨some 7, .val (.c (.int .i64 0)), none⟩] [])
     (.block 0 (.loop (.seq (.seq (.ops 5 false [
          ⟨some 20, .val (.t 7), none⟩,
          ⟨some 21, .val (.t 0), none⟩,
          ⟨some 22, .nilCheck (.t 21), none⟩,
          ⟨some 23, .fieldA 2 (.t 22), none⟩,
          ⟨some 24, .load (.t 23), none⟩,
          ⟨some 25, .len (.t 24), none⟩,
          ⟨some 26, .bin .lss (.t 20) (.t 25), none⟩] [])
         (.cond (.t 26) (.skip)
          (.exit 0)))
        (.seq (.block 1 (.seq (.ops 7 false [
            ⟨some 29, .val (.t 0), none⟩,
            ⟨some 30, .nilCheck (.t 29), none⟩,
            ⟨some 31, .fieldA 2 (.t 30), none⟩,
            ⟨some 32, .load (.t 31), none⟩,
            ⟨some 33, .val (.t 7), none⟩,
            ⟨some 34, .indexS 2 (.t 32) (.t 33), none⟩,
            ⟨some 35, .fieldA 0 (.t 34), none⟩,
            ⟨some 36, .load (.t 35), none⟩,
            ⟨some 37, .val (.t 1), none⟩,
            ⟨some 38, .eqp .str false (.t 36) (.t 37), none⟩,
            ⟨some 39, .val (.t 38), none⟩,
            ⟨some 40, .val (.t 0), some (39, true)⟩,
            ⟨some 41, .nilCheck (.t 40), some (39, true)⟩,
            ⟨some 42, .fieldA 2 (.t 41), some (39, true)⟩,
            ⟨some 43, .load (.t 42), some (39, true)⟩,
            ⟨some 44, .val (.t 7), some (39, true)⟩,
            ⟨some 45, .indexS 2 (.t 43) (.t 44), some (39, true)⟩,
            ⟨some 46, .fieldA 1 (.t 45), some (39, true)⟩,
            ⟨some 47, .load (.t 46), some (39, true)⟩,
            ⟨some 48, .bin .neq (.t 47) (.c (.int .i64 0)), some (39, true)⟩,
            ⟨some 49, .pick (.t 39) (.t 48) (.c (.bool false)), none⟩] [])
           (.cond (.t 49) (.seq (.ops 8 false [
              ⟨some 50, .val (.t 0), none⟩,
              ⟨some 51, .nilCheck (.t 50), none⟩,
              ⟨some 52, .fieldA 2 (.t 51), none⟩,
              ⟨some 53, .load (.t 52), none⟩,
              ⟨some 54, .val (.t 7), none⟩,
              ⟨some 55, .indexS 2 (.t 53) (.t 54), none⟩,
              ⟨some 56, .fieldA 1 (.t 55), none⟩,
              ⟨some 57, .load (.t 56), none⟩,
              ⟨some 4, .val (.t 57), none⟩] [])
             (.ret))
            (.skip))))
         (.ops 6 false [
          ⟨some 27, .val (.t 7), none⟩,
          ⟨some 28, .bin .add (.t 27) (.c (.int .i64 1)), none⟩,
          ⟨some 7, .val (.t 28), none⟩] []))))))
    (.seq (.ops 9 false [
      ⟨some 59, .val (.t 0), none⟩,
      ⟨some 60, .nilCheck (.t 59), none⟩,
      ⟨some 61, .fieldA 0 (.t 60), none⟩,
      ⟨some 62, .load (.t 61), none⟩,
      ⟨some 63, .val (.t 1), none⟩,
      ⟨some 64, .call 127 [(.t 62), (.t 63)], none⟩,
      ⟨some 58, .val (.t 64), none⟩,
      ⟨some 65, .extract 0 (.t 58), none⟩,
      ⟨some 66, .extract 1 (.t 58), none⟩,
      ⟨some 8, .val (.t 65), none⟩,
      ⟨some 9, .val (.t 66), none⟩] [])
     (.seq (.seq (.ops 10 false [
        ⟨some 67, .val (.t 9), none⟩,
        ⟨some 68, .not (.t 67), none⟩,
        ⟨some 69, .val (.t 68), none⟩,
        ⟨some 70, .val (.t 0), some (69, true)⟩,
        ⟨some 71, .nilCheck (.t 70), some (69, true)⟩,
        ⟨some 72, .fieldA 1 (.t 71), some (69, true)⟩,
        ⟨some 73, .load (.t 72), some (69, true)⟩,
        ⟨some 74, .pick (.t 69) (.t 73) (.c (.bool false)), none⟩] [])
       (.cond (.t 74) (.seq (.ops 11 false [
          ⟨some 4, .val (.c (.int .i64 74)), none⟩] [])
         (.ret))
        (.skip)))
      (.seq (.seq (.ops 12 false [
         ⟨some 75, .val (.t 8), none⟩,
         ⟨some 76, .len (.t 75), none⟩,
         ⟨some 77, .bin .gtr (.t 76) (.c (.int .i64 4096)), none⟩] [])
        (.cond (.t 77) (.seq (.ops 13 false [
           ⟨some 4, .val (.c (.int .i64 71)), none⟩] [])
          (.ret))
         (.skip)))
       (.seq (.ops 14 false [
         ⟨some 78, .val (.t 0), none⟩,
         ⟨some 79, .val (.t 0), none⟩,
         ⟨some 80, .nilCheck (.t 79), none⟩,
         ⟨some 81, .fieldA 3 (.t 80), none⟩,
         ⟨some 82, .load (.t 81), none⟩,
         ⟨some 83, .val (.t 1), none⟩,
         ⟨some 84, .val (.t 8), none⟩,
         ⟨some 85, .call 115 [(.t 82), (.t 83), (.t 84)], none⟩,
         ⟨some 86, .nilCheck (.t 78), none⟩,
         ⟨some 87, .fieldA 3 (.t 86), none⟩,
         ⟨none, .store 1 (.t 87) (.t 85), none⟩] [])
        (.seq (.ops 15 false [
          ⟨some 4, .val (.c (.int .i64 0)), none⟩] [])
         (.ret)))))))))
def rs140 : List RR := [.tmp 4]
theorem fun140 : FunR Tryz.prog 140 rc140 rs140 88 := ⟨Tryz.f140, Tryz.func140, by kernel_rfl, by kernel_rfl, by kernel_rfl⟩
/-- causeway/digest.Parts -/
def rc145 : RC :=
 .seq (.ops 0 false [
  ⟨some 2, .alloc 178 (List.replicate 32 (.int .u8 0)), none⟩] [])
 (.seq (.ops 1 false [
   ⟨some 6, .call 162 [], none⟩,
   ⟨some 3, .val (.t 6), none⟩] [])
  (.seq (.seq (.ops 2 false [
     ⟨some 7, .val (.t 0), none⟩,
     ⟨some 8, .len (.t 7), none⟩,
     ⟨some 9, .val (.c (.int .i64 0)), none⟩] [])
    (.block 0 (.loop (.seq (.ops 3 false [
        ⟨some 10, .bin .lss (.t 9) (.t 8), none⟩] [])
       (.seq (.cond (.t 10) (.skip)
         (.exit 0))
        (.seq (.block 1 (.seq (.ops 4 false [
            ⟨some 11, .indexS 1 (.t 7) (.t 9), none⟩,
            ⟨some 12, .load (.t 11), none⟩,
            ⟨some 5, .val (.t 12), none⟩] [])
           (.ops 5 false [
            ⟨some 13, .val (.t 3), none⟩,
            ⟨some 14, .val (.t 5), none⟩,
            ⟨some 15, .call 163 [(.t 13), (.t 14)], none⟩] [])))
         (.ops 6 false [
          ⟨some 16, .bin .add (.t 9) (.c (.int .i64 1)), none⟩,
          ⟨some 9, .val (.t 16), none⟩] [])))))))
   (.seq (.ops 7 false [
     ⟨some 17, .val (.t 3), none⟩,
     ⟨some 18, .call 164 [(.t 17)], none⟩,
     ⟨none, .store 32 (.t 2) (.t 18), none⟩] [])
    (.ret))))
def rs145 : List RR := [.cell 2 (some 32)]
theorem fun145 : FunR Tryz.prog 145 rc145 rs145 19 := ⟨Tryz.f145, Tryz.func145, by kernel_rfl, by kernel_rfl, by kernel_rfl⟩
/-- cmp.Less[string] -/
def rc146 : RC :=
 .seq (.ops 0 false [
  ⟨some 4, .val (.c (.bool false)), none⟩] [])
 (.seq (.ops 1 false [
   ⟨some 5, .val (.t 0), none⟩,
   ⟨some 6, .call 165 [(.t 5)], none⟩,
   ⟨some 7, .val (.t 6), none⟩,
   ⟨some 8, .val (.t 1), some (7, true)⟩,
   ⟨some 9, .call 165 [(.t 8)], some (7, true)⟩,
   ⟨some 10, .not (.t 9), some (7, true)⟩,
   ⟨some 11, .pick (.t 7) (.t 10) (.c (.bool false)), none⟩,
   ⟨some 12, .val (.t 11), none⟩,
   ⟨some 13, .val (.t 0), some (12, false)⟩,
   ⟨some 14, .val (.t 1), some (12, false)⟩,
   ⟨some 15, .sbin .lss (.t 13) (.t 14), some (12, false)⟩,
   ⟨some 16, .pick (.t 12) (.c (.bool true)) (.t 15), none⟩,
   ⟨some 4, .val (.t 16), none⟩] [])
  (.ret))
def rs146 : List RR := [.tmp 4]
theorem fun146 : FunR Tryz.prog 146 rc146 rs146 17 := ⟨Tryz.f146, Tryz.func146, by kernel_rfl, by kernel_rfl, by kernel_rfl⟩
/-- slices.isNaN[string] -/
def rc147 : RC :=
 .seq (.ops 0 false [
  ⟨some 2, .val (.c (.bool false)), none⟩] [])
 (.seq (.ops 1 false [
   ⟨some 3, .val (.t 0), none⟩,
   ⟨some 4, .val (.t 0), none⟩,
   ⟨some 5, .eqp .str true (.t 3) (.t 4), none⟩,
   ⟨some 2, .val (.t 5), none⟩] [])
  (.ret))
def rs147 : List RR := [.tmp 2]
theorem fun147 : FunR Tryz.prog 147 rc147 rs147 6 := ⟨Tryz.f147, Tryz.func147, by kernel_rfl, by kernel_rfl, by kernel_rfl⟩
/-- causeway/sparse.find -/
def rc150 : RC :=
 .seq (.ops 0 false [
  ⟨some 3, .box 178 (.t 1), none⟩,
  ⟨some 4, .alloc 178 (List.replicate 32 (.int .u8 0)), none⟩] [])
 (.seq (.seq (.ops 1 false [
    ⟨some 5, .val (.c (.int .i64 0)), none⟩] [])
   (.block 0 (.loop (.seq (.seq (.ops 2 false [
        ⟨some 6, .val (.t 0), none⟩,
        ⟨some 7, .eqp .ptr true (.t 6) (.c (.pointer none)), none⟩] [])
       (.cond (.t 7) (.skip)
        (.exit 0)))
      (.seq (.block 1 (.seq (.seq (.ops 4 false [
           ⟨some 10, .val (.t 0), none⟩,
           ⟨some 11, .call 167 [(.t 10)], none⟩] [])
          (.cond (.t 11) (.seq (.seq (.ops 5 true [
              ⟨some 12, .val (.t 0), none⟩,
              ⟨some 13, .nilCheck (.t 12), none⟩,
              ⟨some 14, .fieldA 32 (.t 13), none⟩,
              ⟨some 15, .loadN 32 (.t 14), none⟩,
              ⟨some 16, .loadN 32 (.t 3), none⟩,
              ⟨some 17, .eqn false 178 (.t 15) (.t 16), none⟩] [([], []), ([0], [0]), ([1], [1]), ([2], [2]), ([], []), ([3, 4], [3, 4])])
             (.cond (.t 17) (.seq (.ops 6 false [
                ⟨some 18, .val (.t 0), none⟩,
                ⟨some 19, .nilCheck (.t 18), none⟩,
                ⟨some 20, .fieldA 64 (.t 19), none⟩,
                ⟨some 21, .loadN 32 (.t 20), none⟩,
                ⟨none, .store 32 (.t 4) (.t 21), none⟩] [])
               (.ret))
              (.skip)))
            (.exit 0))
           (.skip)))
         (.seq (.ops 7 false [
           ⟨some 22, .loadN 32 (.t 3), none⟩,
           ⟨some 23, .val (.t 5), none⟩,
           ⟨some 24, .call 168 [(.t 22), (.t 23)], none⟩] [])
          (.cond (.t 24) (.ops 8 false [
            ⟨some 25, .val (.t 0), none⟩,
            ⟨some 26, .nilCheck (.t 25), none⟩,
            ⟨some 27, .fieldA 97 (.t 26), none⟩,
            ⟨some 28, .load (.t 27), none⟩,
            ⟨some 0, .val (.t 28), none⟩] [])
           (.ops 9 false [
            ⟨some 29, .val (.t 0), none⟩,
            ⟨some 30, .nilCheck (.t 29), none⟩,
            ⟨some 31, .fieldA 96 (.t 30), none⟩,
            ⟨some 32, .load (.t 31), none⟩,
            ⟨some 0, .val (.t 32), none⟩] [])))))
       (.ops 3 false [
        ⟨some 8, .val (.t 5), none⟩,
        ⟨some 9, .bin .add (.t 8) (.c (.int .i64 1)), none⟩,
        ⟨some 5, .val (.t 9), none⟩] []))))))
  (.seq (.ops 10 false [
    ⟨some 33, .build (List.replicate 32 (.int .u8 0)) [], none⟩,
    ⟨none, .store 32 (.t 4) (.t 33), none⟩] [])
   (.ret)))
def rs150 : List RR := [.cell 4 (some 32)]
theorem fun150 : FunR Tryz.prog 150 rc150 rs150 34 := ⟨Tryz.f150, Tryz.func150, by kernel_rfl, by kernel_rfl, by kernel_rfl⟩
/-- causeway/sparse.put -/
def rc151 : RC :=
 .seq (.ops 0 false [
  ⟨some 5, .box 178 (.t 1), none⟩,
  ⟨some 6, .box 178 (.t 2), none⟩,
  ⟨some 8, .val (.c (.pointer none)), none⟩] [])
 (.seq (.ops 1 false [
   ⟨some 12, .loadN 32 (.t 6), none⟩,
   ⟨some 13, .build (List.replicate 32 (.int .u8 0)) [], none⟩,
   ⟨some 14, .eqn false 178 (.t 12) (.t 13), none⟩,
   ⟨some 9, .val (.t 14), none⟩] [])
  (.seq (.block 0 (.seq (.ops 2 false [
      ⟨some 16, .val (.t 0), none⟩,
      ⟨some 17, .eqp .ptr false (.t 16) (.c (.pointer none)), none⟩,
      ⟨some 18, .val (.t 17), none⟩,
      ⟨some 19, .val (.t 9), some (18, true)⟩,
      ⟨some 20, .pick (.t 18) (.t 19) (.c (.bool false)), none⟩,
      ⟨some 15, .val (.t 20), none⟩] [])
     (.cond (.t 15) (.seq (.ops 3 false [
        ⟨some 8, .val (.c (.pointer none)), none⟩] [])
       (.ret))
      (.seq (.ops 4 false [
        ⟨some 22, .val (.t 0), none⟩,
        ⟨some 23, .eqp .ptr false (.t 22) (.c (.pointer none)), none⟩,
        ⟨some 21, .val (.t 23), none⟩] [])
       (.cond (.t 21) (.seq (.ops 5 false [
          ⟨some 24, .loadN 32 (.t 5), none⟩,
          ⟨some 25, .loadN 32 (.t 6), none⟩,
          ⟨some 26, .call 169 [(.t 24), (.t 25)], none⟩,
          ⟨some 8, .val (.t 26), none⟩] [])
         (.ret))
        (.seq (.ops 6 true [
          ⟨some 28, .val (.t 0), none⟩,
          ⟨some 29, .call 167 [(.t 28)], none⟩,
          ⟨some 30, .val (.t 29), none⟩,
          ⟨some 31, .val (.t 0), some (30, true)⟩,
          ⟨some 32, .nilCheck (.t 31), some (30, true)⟩,
          ⟨some 33, .fieldA 32 (.t 32), some (30, true)⟩,
          ⟨some 34, .loadN 32 (.t 33), some (30, true)⟩,
          ⟨some 35, .loadN 32 (.t 5), some (30, true)⟩,
          ⟨some 36, .eqn false 178 (.t 34) (.t 35), some (30, true)⟩,
          ⟨some 37, .pick (.t 30) (.t 36) (.c (.bool false)), none⟩,
          ⟨some 38, .val (.t 37), none⟩,
          ⟨some 39, .val (.t 9), some (38, true)⟩,
          ⟨some 40, .pick (.t 38) (.t 39) (.c (.bool false)), none⟩,
          ⟨some 27, .val (.t 40), none⟩] [([], []), ([0], [0]), ([1, 1], [1]), ([2], [2]), ([3, 2], [2, 3]), ([4, 2], [2, 4]), ([5, 2], [2, 5]), ([2], [2]), ([6, 7, 2], [2, 6, 7]), ([2, 8], [2, 8]), ([9, 2], [9]), ([10], [10]), ([10, 11], [10, 11]), ([12, 10], [12])])
         (.cond (.t 27) (.seq (.ops 7 false [
            ⟨some 8, .val (.c (.pointer none)), none⟩] [])
           (.ret))
          (.seq (.ops 8 true [
            ⟨some 42, .val (.t 0), none⟩,
            ⟨some 43, .call 167 [(.t 42)], none⟩,
            ⟨some 44, .val (.t 43), none⟩,
            ⟨some 45, .val (.t 0), some (44, true)⟩,
            ⟨some 46, .nilCheck (.t 45), some (44, true)⟩,
            ⟨some 47, .fieldA 32 (.t 46), some (44, true)⟩,
            ⟨some 48, .loadN 32 (.t 47), some (44, true)⟩,
            ⟨some 49, .loadN 32 (.t 5), some (44, true)⟩,
            ⟨some 50, .eqn false 178 (.t 48) (.t 49), some (44, true)⟩,
            ⟨some 51, .pick (.t 44) (.t 50) (.c (.bool false)), none⟩,
            ⟨some 41, .val (.t 51), none⟩] [([], []), ([0], [0]), ([1, 1], [1]), ([2], [2]), ([3, 2], [2, 3]), ([4, 2], [2, 4]), ([5, 2], [2, 5]), ([2], [2]), ([6, 7, 2], [2, 6, 7]), ([2, 8], [2, 8]), ([9, 2], [9])])
           (.cond (.t 41) (.seq (.ops 9 false [
              ⟨some 52, .loadN 32 (.t 5), none⟩,
              ⟨some 53, .loadN 32 (.t 6), none⟩,
              ⟨some 54, .call 169 [(.t 52), (.t 53)], none⟩,
              ⟨some 8, .val (.t 54), none⟩] [])
             (.ret))
            (.seq (.ops 10 false [
              ⟨some 56, .val (.t 0), none⟩,
              ⟨some 57, .call 167 [(.t 56)], none⟩,
              ⟨some 58, .val (.t 57), none⟩,
              ⟨some 59, .val (.t 9), some (58, true)⟩,
              ⟨some 60, .pick (.t 58) (.t 59) (.c (.bool false)), none⟩,
              ⟨some 55, .val (.t 60), none⟩] [])
             (.cond (.t 55) (.seq (.ops 11 false [
                ⟨some 61, .val (.t 0), none⟩,
                ⟨some 8, .val (.t 61), none⟩] [])
               (.ret))
              (.skip))))))))))))
   (.seq (.ops 12 true [
     ⟨some 62, .val (.t 0), none⟩,
     ⟨some 63, .nilCheck (.t 62), none⟩,
     ⟨some 64, .fieldA 96 (.t 63), none⟩,
     ⟨some 65, .load (.t 64), none⟩,
     ⟨some 66, .val (.t 0), none⟩,
     ⟨some 67, .nilCheck (.t 66), none⟩,
     ⟨some 68, .fieldA 97 (.t 67), none⟩,
     ⟨some 69, .load (.t 68), none⟩,
     ⟨some 10, .val (.t 65), none⟩,
     ⟨some 11, .val (.t 69), none⟩] [([], []), ([0], [0]), ([1], [1]), ([2], [2]), ([], []), ([4], [4]), ([5], [5]), ([6], [6]), ([3, 0, 1, 2, 3], [3]), ([7, 8, 0, 1, 2, 3, 4, 5, 6, 7, 8], [7])])
    (.seq (.seq (.ops 13 false [
       ⟨some 70, .val (.t 0), none⟩,
       ⟨some 71, .call 167 [(.t 70)], none⟩] [])
      (.cond (.t 71) (.seq (.ops 14 false [
         ⟨some 72, .val (.t 0), none⟩,
         ⟨some 73, .nilCheck (.t 72), none⟩,
         ⟨some 74, .fieldA 32 (.t 73), none⟩,
         ⟨some 75, .loadN 32 (.t 74), none⟩,
         ⟨some 76, .val (.t 3), none⟩,
         ⟨some 77, .call 168 [(.t 75), (.t 76)], none⟩] [])
        (.cond (.t 77) (.ops 15 false [
          ⟨some 78, .val (.t 0), none⟩,
          ⟨some 11, .val (.t 78), none⟩] [])
         (.ops 16 false [
          ⟨some 79, .val (.t 0), none⟩,
          ⟨some 10, .val (.t 79), none⟩] [])))
       (.skip)))
     (.seq (.seq (.ops 17 false [
        ⟨some 80, .loadN 32 (.t 5), none⟩,
        ⟨some 81, .val (.t 3), none⟩,
        ⟨some 82, .call 168 [(.t 80), (.t 81)], none⟩] [])
       (.cond (.t 82) (.ops 18 false [
         ⟨some 83, .val (.t 11), none⟩,
         ⟨some 84, .loadN 32 (.t 5), none⟩,
         ⟨some 85, .loadN 32 (.t 6), none⟩,
         ⟨some 86, .val (.t 3), none⟩,
         ⟨some 87, .bin .add (.t 86) (.c (.int .i64 1)), none⟩,
         ⟨some 88, .call 151 [(.t 83), (.t 84), (.t 85), (.t 87)], none⟩,
         ⟨some 11, .val (.t 88), none⟩] [])
        (.ops 19 false [
         ⟨some 89, .val (.t 10), none⟩,
         ⟨some 90, .loadN 32 (.t 5), none⟩,
         ⟨some 91, .loadN 32 (.t 6), none⟩,
         ⟨some 92, .val (.t 3), none⟩,
         ⟨some 93, .bin .add (.t 92) (.c (.int .i64 1)), none⟩,
         ⟨some 94, .call 151 [(.t 89), (.t 90), (.t 91), (.t 93)], none⟩,
         ⟨some 10, .val (.t 94), none⟩] [])))
      (.seq (.ops 20 false [
        ⟨some 95, .val (.t 10), none⟩,
        ⟨some 96, .val (.t 11), none⟩,
        ⟨some 97, .call 170 [(.t 95), (.t 96)], none⟩,
        ⟨some 8, .val (.t 97), none⟩] [])
       (.ret)))))))
def rs151 : List RR := [.tmp 8]
theorem fun151 : FunR Tryz.prog 151 rc151 rs151 98 := ⟨Tryz.f151, Tryz.func151, by kernel_rfl, by kernel_rfl, by kernel_rfl⟩
/-- causeway/digest.New -/
def rc162 : RC :=
 .seq (.ops 0 false [
  ⟨some 0, .val (.c (.pointer none)), none⟩] [])
 (.seq (.ops 1 false [
   ⟨some 1, .call 176 [], none⟩,
   ⟨some 2, .build [(.int .u32 0), (.int .u32 0), (.int .u32 0), (.int .u32 0), (.int .u32 0), (.int .u32 0), (.int .u32 0), (.int .u32 0), (.int .u8 0), (.int .u8 0), (.int .u8 0), (.int .u8 0), (.int .u8 0), (.int .u8 0), (.int .u8 0), (.int .u8 0), (.int .u8 0), (.int .u8 0), (.int .u8 0), (.int .u8 0), (.int .u8 0), (.int .u8 0), (.int .u8 0), (.int .u8 0), (.int .u8 0), (.int .u8 0), (.int .u8 0), (.int .u8 0), (.int .u8 0), (.int .u8 0), (.int .u8 0), (.int .u8 0), (.int .u8 0), (.int .u8 0), (.int .u8 0), (.int .u8 0), (.int .u8 0), (.int .u8 0), (.int .u8 0), (.int .u8 0), (.int .u8 0), (.int .u8 0), (.int .u8 0), (.int .u8 0), (.int .u8 0), (.int .u8 0), (.int .u8 0), (.int .u8 0), (.int .u8 0), (.int .u8 0), (.int .u8 0), (.int .u8 0), (.int .u8 0), (.int .u8 0), (.int .u8 0), (.int .u8 0), (.int .u8 0), (.int .u8 0), (.int .u8 0), (.int .u8 0), (.int .u8 0), (.int .u8 0), (.int .u8 0), (.int .u8 0), (.int .u8 0), (.int .u8 0), (.int .u8 0), (.int .u8 0), (.int .u8 0), (.int .u8 0), (.int .u8 0), (.int .u8 0), (.int .i64 0)] [(0, 8, (.t 1))], none⟩,
   ⟨some 3, .box 227 (.t 2), none⟩,
   ⟨some 0, .val (.t 3), none⟩] [])
  (.ret))
def rs162 : List RR := [.tmp 0]
theorem fun162 : FunR Tryz.prog 162 rc162 rs162 4 := ⟨Tryz.f162, Tryz.func162, by kernel_rfl, by kernel_rfl, by kernel_rfl⟩
/-- (*causeway/digest.Hasher).Write -/
def rc163 : RC :=
 .block 0 (.loop (.seq (.seq (.ops 0 false [
     ⟨some 6, .val (.t 1), none⟩,
     ⟨some 7, .len (.t 6), none⟩,
     ⟨some 8, .bin .gtr (.t 7) (.c (.int .i64 0)), none⟩] [])
    (.cond (.t 8) (.skip)
     (.exit 0)))
   (.block 1 (.seq (.ops 1 false [
      ⟨some 9, .val (.t 0), none⟩,
      ⟨some 10, .nilCheck (.t 9), none⟩,
      ⟨some 11, .fieldA 72 (.t 10), none⟩,
      ⟨some 12, .load (.t 11), none⟩,
      ⟨some 13, .bin .rem (.t 12) (.c (.int .i64 64)), none⟩,
      ⟨some 4, .val (.t 13), none⟩] [])
     (.seq (.ops 2 false [
       ⟨some 14, .val (.t 0), none⟩,
       ⟨some 15, .nilCheck (.t 14), none⟩,
       ⟨some 16, .fieldA 8 (.t 15), none⟩,
       ⟨some 17, .val (.t 4), none⟩,
       ⟨some 18, .sliceA 64 1 (.t 16) (some (.t 17)) none, none⟩,
       ⟨some 19, .val (.t 1), none⟩,
       ⟨some 20, .blt .copy #[74, 74] 3 [(.t 18), (.t 19)], none⟩,
       ⟨some 5, .val (.t 20), none⟩] [])
      (.seq (.ops 3 false [
        ⟨some 21, .val (.t 1), none⟩,
        ⟨some 22, .val (.t 5), none⟩,
        ⟨some 23, .slice 1 (.t 21) (some (.t 22)) none none, none⟩,
        ⟨some 1, .val (.t 23), none⟩] [])
       (.seq (.ops 4 false [
         ⟨some 24, .val (.t 0), none⟩,
         ⟨some 25, .nilCheck (.t 24), none⟩,
         ⟨some 26, .fieldA 72 (.t 25), none⟩,
         ⟨some 27, .load (.t 26), none⟩,
         ⟨some 28, .val (.t 5), none⟩,
         ⟨some 29, .bin .add (.t 27) (.t 28), none⟩,
         ⟨some 30, .nilCheck (.t 24), none⟩,
         ⟨some 31, .fieldA 72 (.t 30), none⟩,
         ⟨none, .store 1 (.t 31) (.t 29), none⟩] [])
        (.seq (.ops 5 false [
          ⟨some 32, .val (.t 4), none⟩,
          ⟨some 33, .val (.t 5), none⟩,
          ⟨some 34, .bin .add (.t 32) (.t 33), none⟩,
          ⟨some 35, .bin .eql (.t 34) (.c (.int .i64 64)), none⟩] [])
         (.cond (.t 35) (.ops 6 true [
           ⟨some 36, .val (.t 0), none⟩,
           ⟨some 37, .val (.t 0), none⟩,
           ⟨some 38, .nilCheck (.t 37), none⟩,
           ⟨some 39, .fieldA 0 (.t 38), none⟩,
           ⟨some 40, .loadN 8 (.t 39), none⟩,
           ⟨some 41, .val (.t 0), none⟩,
           ⟨some 42, .nilCheck (.t 41), none⟩,
           ⟨some 43, .fieldA 8 (.t 42), none⟩,
           ⟨some 44, .loadN 64 (.t 43), none⟩,
           ⟨some 45, .call 177 [(.t 40), (.t 44)], none⟩,
           ⟨some 46, .nilCheck (.t 36), none⟩,
           ⟨some 47, .fieldA 0 (.t 46), none⟩,
           ⟨none, .store 8 (.t 47) (.t 45), none⟩] [([], []), ([], []), ([1], [1]), ([2], [2]), ([3], [3]), ([], []), ([5], [5]), ([6], [6]), ([7], [7]), ([4, 8], [4, 8]), ([0, 0, 1, 2, 3, 4, 5, 6, 7, 8, 9], [0]), ([10, 0, 1, 2, 3, 4, 5, 6, 7, 8, 9], [10]), ([11, 9, 9, 0, 1, 2, 3, 4, 5, 6, 7, 8, 9], [9, 11])])
          (.skip))))))))))
def rs163 : List RR := []
theorem fun163 : FunR Tryz.prog 163 rc163 rs163 48 := ⟨Tryz.f163, Tryz.func163, by kernel_rfl, by kernel_rfl, by kernel_rfl⟩
/-- (*causeway/digest.Hasher).Sum -/
def rc164 : RC :=
 .seq (.ops 0 false [
  ⟨some 2, .alloc 178 (List.replicate 32 (.int .u8 0)), none⟩] [])
 (.seq (.ops 1 false [
   ⟨some 3, .val (.t 0), none⟩,
   ⟨some 4, .call 178 [(.t 3), (.c (.int .u8 0)), (.c (.int .i64 0))], none⟩,
   ⟨none, .store 32 (.t 2) (.t 4), none⟩] [])
  (.ret))
def rs164 : List RR := [.cell 2 (some 32)]
theorem fun164 : FunR Tryz.prog 164 rc164 rs164 5 := ⟨Tryz.f164, Tryz.func164, by kernel_rfl, by kernel_rfl, by kernel_rfl⟩
/-- cmp.isNaN[string] -/
def rc165 : RC :=
 .seq (.ops 0 false [
  ⟨some 2, .val (.c (.bool false)), none⟩] [])
 (.seq (.ops 1 false [
   ⟨some 3, .val (.t 0), none⟩,
   ⟨some 4, .val (.t 0), none⟩,
   ⟨some 5, .eqp .str true (.t 3) (.t 4), none⟩,
   ⟨some 2, .val (.t 5), none⟩] [])
  (.ret))
def rs165 : List RR := [.tmp 2]
theorem fun165 : FunR Tryz.prog 165 rc165 rs165 6 := ⟨Tryz.f165, Tryz.func165, by kernel_rfl, by kernel_rfl, by kernel_rfl⟩
/-- (*causeway/sparse.node).single -/
def rc167 : RC :=
 .seq (.ops 0 false [
  ⟨some 2, .val (.c (.bool false)), none⟩] [])
 (.seq (.ops 1 false [
   ⟨some 3, .val (.t 0), none⟩,
   ⟨some 4, .eqp .ptr true (.t 3) (.c (.pointer none)), none⟩,
   ⟨some 5, .val (.t 4), none⟩,
   ⟨some 6, .val (.t 0), some (5, true)⟩,
   ⟨some 7, .nilCheck (.t 6), some (5, true)⟩,
   ⟨some 8, .fieldA 96 (.t 7), some (5, true)⟩,
   ⟨some 9, .load (.t 8), some (5, true)⟩,
   ⟨some 10, .eqp .ptr false (.t 9) (.c (.pointer none)), some (5, true)⟩,
   ⟨some 11, .pick (.t 5) (.t 10) (.c (.bool false)), none⟩,
   ⟨some 12, .val (.t 11), none⟩,
   ⟨some 13, .val (.t 0), some (12, true)⟩,
   ⟨some 14, .nilCheck (.t 13), some (12, true)⟩,
   ⟨some 15, .fieldA 97 (.t 14), some (12, true)⟩,
   ⟨some 16, .load (.t 15), some (12, true)⟩,
   ⟨some 17, .eqp .ptr false (.t 16) (.c (.pointer none)), some (12, true)⟩,
   ⟨some 18, .pick (.t 12) (.t 17) (.c (.bool false)), none⟩,
   ⟨some 19, .val (.t 18), none⟩,
   ⟨some 20, .val (.t 0), some (19, true)⟩,
   ⟨some 21, .nilCheck (.t 20), some (19, true)⟩,
   ⟨some 22, .fieldA 98 (.t 21), some (19, true)⟩,
   ⟨some 23, .load (.t 22), some (19, true)⟩,
   ⟨some 24, .not (.t 23), some (19, true)⟩,
   ⟨some 25, .pick (.t 19) (.t 24) (.c (.bool false)), none⟩,
   ⟨some 2, .val (.t 25), none⟩] [])
  (.ret))
def rs167 : List RR := [.tmp 2]
theorem fun167 : FunR Tryz.prog 167 rc167 rs167 26 := ⟨Tryz.f167, Tryz.func167, by kernel_rfl, by kernel_rfl, by kernel_rfl⟩
/-- causeway/sparse.bit -/
def rc168 : RC :=
 .seq (.ops 0 false [
  ⟨some 2, .box 178 (.t 0), none⟩,
  ⟨some 4, .val (.c (.bool false)), none⟩] [])
 (.seq (.ops 1 false [
   ⟨some 5, .val (.t 1), none⟩,
   ⟨some 6, .bin .quo (.t 5) (.c (.int .i64 8)), none⟩,
   ⟨some 7, .indexA 32 1 (.t 2) (.t 6), none⟩,
   ⟨some 8, .load (.t 7), none⟩,
   ⟨some 9, .val (.t 1), none⟩,
   ⟨some 10, .bin .rem (.t 9) (.c (.int .i64 8)), none⟩,
   ⟨some 11, .bin .sub (.c (.int .i64 7)) (.t 10), none⟩,
   ⟨some 12, .bin .shr (.t 8) (.t 11), none⟩,
   ⟨some 13, .bin .and (.t 12) (.c (.int .u8 1)), none⟩,
   ⟨some 14, .bin .eql (.t 13) (.c (.int .u8 1)), none⟩,
   ⟨some 4, .val (.t 14), none⟩] [])
  (.ret))
def rs168 : List RR := [.tmp 4]
theorem fun168 : FunR Tryz.prog 168 rc168 rs168 15 := ⟨Tryz.f168, Tryz.func168, by kernel_rfl, by kernel_rfl, by kernel_rfl⟩
/-- causeway/sparse.leaf -/
def rc169 : RC :=
 .seq (.ops 0 false [
  ⟨some 2, .box 178 (.t 0), none⟩,
  ⟨some 3, .box 178 (.t 1), none⟩,
  ⟨some 4, .val (.c (.pointer none)), none⟩] [])
 (.seq (.ops 1 true [
   ⟨some 5, .buildS 5 1 [(.int .u8 0)] [(0, 1, (.c (.int .u8 2)))], none⟩,
   ⟨some 6, .sliceA 32 1 (.t 2) none none, none⟩,
   ⟨some 7, .sliceA 32 1 (.t 3) none none, none⟩,
   ⟨some 8, .buildS 74 3 [(.slice none 0 0), (.slice none 0 0), (.slice none 0 0)] [(0, 1, (.t 5)), (1, 1, (.t 6)), (2, 1, (.t 7))], none⟩,
   ⟨some 9, .call 145 [(.t 8)], none⟩,
   ⟨some 10, .loadN 32 (.t 2), none⟩,
   ⟨some 11, .loadN 32 (.t 3), none⟩,
   ⟨some 12, .build [(.int .u8 0), (.int .u8 0), (.int .u8 0), (.int .u8 0), (.int .u8 0), (.int .u8 0), (.int .u8 0), (.int .u8 0), (.int .u8 0), (.int .u8 0), (.int .u8 0), (.int .u8 0), (.int .u8 0), (.int .u8 0), (.int .u8 0), (.int .u8 0), (.int .u8 0), (.int .u8 0), (.int .u8 0), (.int .u8 0), (.int .u8 0), (.int .u8 0), (.int .u8 0), (.int .u8 0), (.int .u8 0), (.int .u8 0), (.int .u8 0), (.int .u8 0), (.int .u8 0), (.int .u8 0), (.int .u8 0), (.int .u8 0), (.int .u8 0), (.int .u8 0), (.int .u8 0), (.int .u8 0), (.int .u8 0), (.int .u8 0), (.int .u8 0), (.int .u8 0), (.int .u8 0), (.int .u8 0), (.int .u8 0), (.int .u8 0), (.int .u8 0), (.int .u8 0), (.int .u8 0), (.int .u8 0), (.int .u8 0), (.int .u8 0), (.int .u8 0), (.int .u8 0), (.int .u8 0), (.int .u8 0), (.int .u8 0), (.int .u8 0), (.int .u8 0), (.int .u8 0), (.int .u8 0), (.int .u8 0), (.int .u8 0), (.int .u8 0), (.int .u8 0), (.int .u8 0), (.int .u8 0), (.int .u8 0), (.int .u8 0), (.int .u8 0), (.int .u8 0), (.int .u8 0), (.int .u8 0), (.int .u8 0), (.int .u8 0), (.int .u8 0), (.int .u8 0), (.int .u8 0), (.int .u8 0), (.int .u8 0), (.int .u8 0), (.int .u8 0), (.int .u8 0), (.int .u8 0), (.int .u8 0), (.int .u8 0), (.int .u8 0), (.int .u8 0), (.int .u8 0), (.int .u8 0), (.int .u8 0), (.int .u8 0), (.int .u8 0), (.int .u8 0), (.int .u8 0), (.int .u8 0), (.int .u8 0), (.int .u8 0), (.pointer none), (.pointer none), (.bool false)] [(0, 32, (.t 9)), (32, 32, (.t 10)), (64, 32, (.t 11))], none⟩,
   ⟨some 13, .box 212 (.t 12), none⟩,
   ⟨some 4, .val (.t 13), none⟩] [([], []), ([], []), ([], []), ([0, 1, 2], [0, 1, 2]), ([3], [3]), ([], []), ([], []), ([4, 5, 6], [4, 5, 6]), ([7], [7]), ([8, 4, 0, 1, 2, 3, 4, 5, 6, 7, 8], [8])])
  (.ret))
def rs169 : List RR := [.tmp 4]
theorem fun169 : FunR Tryz.prog 169 rc169 rs169 14 := ⟨Tryz.f169, Tryz.func169, by kernel_rfl, by kernel_rfl, by kernel_rfl⟩
/-- causeway/sparse.joined -/
def rc170 : RC :=
 .seq (.ops 0 false [
  ⟨some 4, .val (.c (.pointer none)), none⟩] [])
 (.seq (.block 0 (.seq (.ops 1 false [
     ⟨some 8, .val (.t 0), none⟩,
     ⟨some 9, .eqp .ptr false (.t 8) (.c (.pointer none)), none⟩,
     ⟨some 10, .val (.t 9), none⟩,
     ⟨some 11, .val (.t 1), some (10, true)⟩,
     ⟨some 12, .eqp .ptr false (.t 11) (.c (.pointer none)), some (10, true)⟩,
     ⟨some 13, .val (.t 12), some (10, true)⟩,
     ⟨some 14, .val (.t 1), some (13, false)⟩,
     ⟨some 15, .call 167 [(.t 14)], some (13, false)⟩,
     ⟨some 16, .pick (.t 13) (.c (.bool true)) (.t 15), some (10, true)⟩,
     ⟨some 17, .pick (.t 10) (.t 16) (.c (.bool false)), none⟩,
     ⟨some 7, .val (.t 17), none⟩] [])
    (.cond (.t 7) (.seq (.ops 2 false [
       ⟨some 18, .val (.t 1), none⟩,
       ⟨some 4, .val (.t 18), none⟩] [])
      (.ret))
     (.seq (.ops 3 false [
       ⟨some 20, .val (.t 1), none⟩,
       ⟨some 21, .eqp .ptr false (.t 20) (.c (.pointer none)), none⟩,
       ⟨some 22, .val (.t 21), none⟩,
       ⟨some 23, .val (.t 0), some (22, true)⟩,
       ⟨some 24, .call 167 [(.t 23)], some (22, true)⟩,
       ⟨some 25, .pick (.t 22) (.t 24) (.c (.bool false)), none⟩,
       ⟨some 19, .val (.t 25), none⟩] [])
      (.cond (.t 19) (.seq (.ops 4 false [
         ⟨some 26, .val (.t 0), none⟩,
         ⟨some 4, .val (.t 26), none⟩] [])
        (.ret))
       (.skip))))))
  (.seq (.ops 5 false [
    ⟨some 27, .val (.t 0), none⟩,
    ⟨some 28, .call 180 [(.t 27)], none⟩,
    ⟨some 29, .val (.t 1), none⟩,
    ⟨some 30, .call 180 [(.t 29)], none⟩,
    ⟨some 5, .alloc 178 (List.replicate 32 (.int .u8 0)), none⟩,
    ⟨some 6, .alloc 178 (List.replicate 32 (.int .u8 0)), none⟩,
    ⟨none, .store 32 (.t 5) (.t 28), none⟩,
    ⟨none, .store 32 (.t 6) (.t 30), none⟩] [])
   (.seq (.ops 6 true [
     ⟨some 31, .buildS 5 1 [(.int .u8 0)] [(0, 1, (.c (.int .u8 3)))], none⟩,
     ⟨some 32, .sliceA 32 1 (.t 5) none none, none⟩,
     ⟨some 33, .sliceA 32 1 (.t 6) none none, none⟩,
     ⟨some 34, .buildS 74 3 [(.slice none 0 0), (.slice none 0 0), (.slice none 0 0)] [(0, 1, (.t 31)), (1, 1, (.t 32)), (2, 1, (.t 33))], none⟩,
     ⟨some 35, .call 145 [(.t 34)], none⟩,
     ⟨some 36, .val (.t 0), none⟩,
     ⟨some 37, .val (.t 1), none⟩,
     ⟨some 38, .build [(.int .u8 0), (.int .u8 0), (.int .u8 0), (.int .u8 0), (.int .u8 0), (.int .u8 0), (.int .u8 0), (.int .u8 0), (.int .u8 0), (.int .u8 0), (.int .u8 0), (.int .u8 0), (.int .u8 0), (.int .u8 0), (.int .u8 0), (.int .u8 0), (.int .u8 0), (.int .u8 0), (.int .u8 0), (.int .u8 0), (.int .u8 0), (.int .u8 0), (.int .u8 0), (.int .u8 0), (.int .u8 0), (.int .u8 0), (.int .u8 0), (.int .u8 0), (.int .u8 0), (.int .u8 0), (.int .u8 0), (.int .u8 0), (.int .u8 0), (.int .u8 0), (.int .u8 0), (.int .u8 0), (.int .u8 0), (.int .u8 0), (.int .u8 0), (.int .u8 0), (.int .u8 0), (.int .u8 0), (.int .u8 0), (.int .u8 0), (.int .u8 0), (.int .u8 0), (.int .u8 0), (.int .u8 0), (.int .u8 0), (.int .u8 0), (.int .u8 0), (.int .u8 0), (.int .u8 0), (.int .u8 0), (.int .u8 0), (.int .u8 0), (.int .u8 0), (.int .u8 0), (.int .u8 0), (.int .u8 0), (.int .u8 0), (.int .u8 0), (.int .u8 0), (.int .u8 0), (.int .u8 0), (.int .u8 0), (.int .u8 0), (.int .u8 0), (.int .u8 0), (.int .u8 0), (.int .u8 0), (.int .u8 0), (.int .u8 0), (.int .u8 0), (.int .u8 0), (.int .u8 0), (.int .u8 0), (.int .u8 0), (.int .u8 0), (.int .u8 0), (.int .u8 0), (.int .u8 0), (.int .u8 0), (.int .u8 0), (.int .u8 0), (.int .u8 0), (.int .u8 0), (.int .u8 0), (.int .u8 0), (.int .u8 0), (.int .u8 0), (.int .u8 0), (.int .u8 0), (.int .u8 0), (.int .u8 0), (.int .u8 0), (.pointer none), (.pointer none), (.bool false)] [(0, 32, (.t 35)), (96, 1, (.t 36)), (97, 1, (.t 37))], none⟩,
     ⟨some 39, .box 212 (.t 38), none⟩,
     ⟨some 4, .val (.t 39), none⟩] [([], []), ([], []), ([], []), ([0, 1, 2], [0, 1, 2]), ([3], [3]), ([], []), ([], []), ([4, 5, 6], [4, 5, 6]), ([7], [7]), ([8, 4, 0, 1, 2, 3, 4, 5, 6, 7, 8], [8])])
    (.ret))))
def rs170 : List RR := [.tmp 4]
theorem fun170 : FunR Tryz.prog 170 rc170 rs170 40 := ⟨Tryz.f170, Tryz.func170, by kernel_rfl, by kernel_rfl, by kernel_rfl⟩
/-- causeway/digest.begin -/
def rc176 : RC :=
 .seq (.ops 0 false [
  ⟨some 0, .alloc 223 (List.replicate 8 (.int .u32 0)), none⟩] [])
 (.seq (.ops 1 false [
   ⟨some 1, .build (List.replicate 8 (.int .u32 0)) [(0, 1, (.c (.int .u32 1779033703))), (1, 1, (.c (.int .u32 3144134277))), (2, 1, (.c (.int .u32 1013904242))), (3, 1, (.c (.int .u32 2773480762))), (4, 1, (.c (.int .u32 1359893119))), (5, 1, (.c (.int .u32 2600822924))), (6, 1, (.c (.int .u32 528734635))), (7, 1, (.c (.int .u32 1541459225)))], none⟩,
   ⟨none, .store 8 (.t 0) (.t 1), none⟩] [])
  (.ret))
def rs176 : List RR := [.cell 0 (some 8)]
theorem fun176 : FunR Tryz.prog 176 rc176 rs176 2 := ⟨Tryz.f176, Tryz.func176, by kernel_rfl, by kernel_rfl, by kernel_rfl⟩
/-- (causeway/digest.state).take -/
def rc177 : RC :=
 .seq (.ops 0 false [
  ⟨some 2, .box 223 (.t 0), none⟩,
  ⟨some 3, .box 225 (.t 1), none⟩,
  ⟨some 4, .alloc 223 (List.replicate 8 (.int .u32 0)), none⟩] [])
 (.seq (.ops 1 false [
   ⟨some 20, .loadN 64 (.t 3), none⟩,
   ⟨some 21, .call 182 [(.t 20)], none⟩,
   ⟨some 5, .alloc 234 (List.replicate 64 (.int .u32 0)), none⟩,
   ⟨none, .store 64 (.t 5) (.t 21), none⟩] [])
  (.seq (.ops 2 true [
    ⟨some 22, .indexA 8 1 (.t 2) (.c (.int .i64 0)), none⟩,
    ⟨some 23, .load (.t 22), none⟩,
    ⟨some 24, .indexA 8 1 (.t 2) (.c (.int .i64 1)), none⟩,
    ⟨some 25, .load (.t 24), none⟩,
    ⟨some 26, .indexA 8 1 (.t 2) (.c (.int .i64 2)), none⟩,
    ⟨some 27, .load (.t 26), none⟩,
    ⟨some 28, .indexA 8 1 (.t 2) (.c (.int .i64 3)), none⟩,
    ⟨some 29, .load (.t 28), none⟩,
    ⟨some 30, .indexA 8 1 (.t 2) (.c (.int .i64 4)), none⟩,
    ⟨some 31, .load (.t 30), none⟩,
    ⟨some 32, .indexA 8 1 (.t 2) (.c (.int .i64 5)), none⟩,
    ⟨some 33, .load (.t 32), none⟩,
    ⟨some 34, .indexA 8 1 (.t 2) (.c (.int .i64 6)), none⟩,
    ⟨some 35, .load (.t 34), none⟩,
    ⟨some 36, .indexA 8 1 (.t 2) (.c (.int .i64 7)), none⟩,
    ⟨some 37, .load (.t 36), none⟩,
    ⟨some 6, .val (.t 23), none⟩,
    ⟨some 7, .val (.t 25), none⟩,
    ⟨some 8, .val (.t 27), none⟩,
    ⟨some 9, .val (.t 29), none⟩,
    ⟨some 10, .val (.t 31), none⟩,
    ⟨some 11, .val (.t 33), none⟩,
    ⟨some 12, .val (.t 35), none⟩,
    ⟨some 13, .val (.t 37), none⟩] [([], []), ([0], [0]), ([], []), ([2], [2]), ([], []), ([4], [4]), ([], []), ([6], [6]), ([], []), ([8], [8]), ([], []), ([10], [10]), ([], []), ([12], [12]), ([], []), ([14], [14]), ([1, 0, 1], [1]), ([3, 16, 0, 1, 2, 3, 16], [3]), ([5, 17, 0, 1, 2, 3, 4, 5, 16, 17], [5]), ([7, 18, 0, 1, 2, 3, 4, 5, 6, 7, 16, 17, 18], [7]), ([9, 19, 0, 1, 2, 3, 4, 5, 6, 7, 8, 9, 16, 17, 18, 19], [9]), ([11, 20, 0, 1, 2, 3, 4, 5, 6, 7, 8, 9, 10, 11, 16, 17, 18, 19, 20], [11]), ([13, 21, 0, 1, 2, 3, 4, 5, 6, 7, 8, 9, 10, 11, 12, 13, 16, 17, 18, 19, 20, 21], [13]), ([15, 22, 0, 1, 2, 3, 4, 5, 6, 7, 8, 9, 10, 11, 12, 13, 14, 15, 16, 17, 18, 19, 20, 21, 22], [15])])
   (.seq (.seq (.ops 3 false [
      ⟨some 38, .loadN 64 (.c (.pointer (some ⟨0, 0, none⟩))), none⟩,
      ⟨some 39, .val (.c (.int .i64 0)), none⟩] [])
     (.block 0 (.loop (.seq (.ops 4 false [
         ⟨some 40, .bin .lss (.t 39) (.c (.int .i64 64)), none⟩] [])
        (.seq (.cond (.t 40) (.skip)
          (.exit 0))
         (.seq (.block 1 (.seq (.ops 5 false [
             ⟨some 41, .val (.t 39), none⟩,
             ⟨some 42, .idx 234 (.t 38) (.t 39), none⟩,
             ⟨some 14, .val (.t 41), none⟩,
             ⟨some 15, .val (.t 42), none⟩] [])
            (.seq (.ops 6 false [
              ⟨some 43, .val (.t 10), none⟩,
              ⟨some 44, .call 183 [(.t 43), (.c (.int .i64 (-6)))], none⟩,
              ⟨some 45, .val (.t 10), none⟩,
              ⟨some 46, .call 183 [(.t 45), (.c (.int .i64 (-11)))], none⟩,
              ⟨some 47, .bin .xor (.t 44) (.t 46), none⟩,
              ⟨some 48, .val (.t 10), none⟩,
              ⟨some 49, .call 183 [(.t 48), (.c (.int .i64 (-25)))], none⟩,
              ⟨some 50, .bin .xor (.t 47) (.t 49), none⟩,
              ⟨some 16, .val (.t 50), none⟩] [])
             (.seq (.ops 7 false [
               ⟨some 51, .val (.t 16), none⟩,
               ⟨some 52, .val (.t 13), none⟩,
               ⟨some 53, .val (.t 10), none⟩,
               ⟨some 54, .val (.t 11), none⟩,
               ⟨some 55, .bin .and (.t 53) (.t 54), none⟩,
               ⟨some 56, .val (.t 10), none⟩,
               ⟨some 57, .bnot (.t 56), none⟩,
               ⟨some 58, .val (.t 12), none⟩,
               ⟨some 59, .bin .and (.t 57) (.t 58), none⟩,
               ⟨some 60, .bin .xor (.t 55) (.t 59), none⟩,
               ⟨some 61, .bin .add (.t 52) (.t 60), none⟩,
               ⟨some 62, .val (.t 15), none⟩,
               ⟨some 63, .bin .add (.t 61) (.t 62), none⟩,
               ⟨some 64, .val (.t 14), none⟩,
               ⟨some 65, .indexA 64 1 (.t 5) (.t 64), none⟩,
               ⟨some 66, .load (.t 65), none⟩,
               ⟨some 67, .bin .add (.t 63) (.t 66), none⟩,
               ⟨some 68, .bin .add (.t 51) (.t 67), none⟩,
               ⟨some 16, .val (.t 68), none⟩] [])
              (.seq (.ops 8 false [
                ⟨some 69, .val (.t 6), none⟩,
                ⟨some 70, .call 183 [(.t 69), (.c (.int .i64 (-2)))], none⟩,
                ⟨some 71, .val (.t 6), none⟩,
                ⟨some 72, .call 183 [(.t 71), (.c (.int .i64 (-13)))], none⟩,
                ⟨some 73, .bin .xor (.t 70) (.t 72), none⟩,
                ⟨some 74, .val (.t 6), none⟩,
                ⟨some 75, .call 183 [(.t 74), (.c (.int .i64 (-22)))], none⟩,
                ⟨some 76, .bin .xor (.t 73) (.t 75), none⟩,
                ⟨some 17, .val (.t 76), none⟩] [])
               (.seq (.ops 9 false [
                 ⟨some 77, .val (.t 17), none⟩,
                 ⟨some 78, .val (.t 6), none⟩,
                 ⟨some 79, .val (.t 7), none⟩,
                 ⟨some 80, .bin .and (.t 78) (.t 79), none⟩,
                 ⟨some 81, .val (.t 6), none⟩,
                 ⟨some 82, .val (.t 8), none⟩,
                 ⟨some 83, .bin .and (.t 81) (.t 82), none⟩,
                 ⟨some 84, .bin .xor (.t 80) (.t 83), none⟩,
                 ⟨some 85, .val (.t 7), none⟩,
                 ⟨some 86, .val (.t 8), none⟩,
                 ⟨some 87, .bin .and (.t 85) (.t 86), none⟩,
                 ⟨some 88, .bin .xor (.t 84) (.t 87), none⟩,
                 ⟨some 89, .bin .add (.t 77) (.t 88), none⟩,
                 ⟨some 17, .val (.t 89), none⟩] [])
                (.ops 10 false [
                 ⟨some 90, .val (.t 16), none⟩,
                 ⟨some 91, .val (.t 17), none⟩,
                 ⟨some 92, .bin .add (.t 90) (.t 91), none⟩,
                 ⟨some 93, .val (.t 6), none⟩,
                 ⟨some 94, .val (.t 7), none⟩,
                 ⟨some 95, .val (.t 8), none⟩,
                 ⟨some 96, .val (.t 9), none⟩,
                 ⟨some 97, .val (.t 16), none⟩,
                 ⟨some 98, .bin .add (.t 96) (.t 97), none⟩,
                 ⟨some 99, .val (.t 10), none⟩,
                 ⟨some 100, .val (.t 11), none⟩,
                 ⟨some 101, .val (.t 12), none⟩,
                 ⟨some 6, .val (.t 92), none⟩,
                 ⟨some 7, .val (.t 93), none⟩,
                 ⟨some 8, .val (.t 94), none⟩,
                 ⟨some 9, .val (.t 95), none⟩,
                 ⟨some 10, .val (.t 98), none⟩,
                 ⟨some 11, .val (.t 99), none⟩,
                 ⟨some 12, .val (.t 100), none⟩,
                 ⟨some 13, .val (.t 101), none⟩] [])))))))
          (.ops 11 false [
           ⟨some 102, .bin .add (.t 39) (.c (.int .i64 1)), none⟩,
           ⟨some 39, .val (.t 102), none⟩] [])))))))
    (.seq (.seq (.ops 12 false [
       ⟨some 103, .val (.t 6), none⟩,
       ⟨some 104, .val (.t 7), none⟩,
       ⟨some 105, .val (.t 8), none⟩,
       ⟨some 106, .val (.t 9), none⟩,
       ⟨some 107, .val (.t 10), none⟩,
       ⟨some 108, .val (.t 11), none⟩,
       ⟨some 109, .val (.t 12), none⟩,
       ⟨some 110, .val (.t 13), none⟩,
       ⟨some 111, .build (List.replicate 8 (.int .u32 0)) [(0, 1, (.t 103)), (1, 1, (.t 104)), (2, 1, (.t 105)), (3, 1, (.t 106)), (4, 1, (.t 107)), (5, 1, (.t 108)), (6, 1, (.t 109)), (7, 1, (.t 110))], none⟩,
       ⟨some 112, .val (.c (.int .i64 0)), none⟩] [])
      (.block 2 (.loop (.seq (.ops 13 false [
          ⟨some 113, .bin .lss (.t 112) (.c (.int .i64 8)), none⟩] [])
         (.seq (.cond (.t 113) (.skip)
           (.exit 2))
          (.seq (.block 3 (.seq (.ops 14 false [
              ⟨some 114, .val (.t 112), none⟩,
              ⟨some 115, .idx 222 (.t 111) (.t 112), none⟩,
              ⟨some 18, .val (.t 114), none⟩,
              ⟨some 19, .val (.t 115), none⟩] [])
             (.ops 15 false [
              ⟨some 116, .val (.t 18), none⟩,
              ⟨some 117, .indexA 8 1 (.t 2) (.t 116), none⟩,
              ⟨some 118, .load (.t 117), none⟩,
              ⟨some 119, .val (.t 19), none⟩,
              ⟨some 120, .bin .add (.t 118) (.t 119), none⟩,
              ⟨some 121, .indexA 8 1 (.t 2) (.t 116), none⟩,
              ⟨none, .store 1 (.t 121) (.t 120), none⟩] [])))
           (.ops 16 false [
            ⟨some 122, .bin .add (.t 112) (.c (.int .i64 1)), none⟩,
            ⟨some 112, .val (.t 122), none⟩] [])))))))
     (.seq (.ops 17 false [
       ⟨some 123, .loadN 8 (.t 2), none⟩,
       ⟨none, .store 8 (.t 4) (.t 123), none⟩] [])
      (.ret))))))
def rs177 : List RR := [.cell 4 (some 8)]
theorem fun177 : FunR Tryz.prog 177 rc177 rs177 124 := ⟨Tryz.f177, Tryz.func177, by kernel_rfl, by kernel_rfl, by kernel_rfl⟩
/-- (*causeway/digest.Hasher).end -/
def rc178 : RC :=
 .seq (.ops 0 false [
  ⟨some 6, .alloc 178 (List.replicate 32 (.int .u8 0)), none⟩] [])
 (.seq (.ops 1 true [
   ⟨some 14, .val (.t 0), none⟩,
   ⟨some 15, .nilCheck (.t 14), none⟩,
   ⟨some 16, .fieldA 0 (.t 15), none⟩,
   ⟨some 17, .loadN 8 (.t 16), none⟩,
   ⟨some 18, .val (.t 0), none⟩,
   ⟨some 19, .nilCheck (.t 18), none⟩,
   ⟨some 20, .fieldA 8 (.t 19), none⟩,
   ⟨some 21, .loadN 64 (.t 20), none⟩,
   ⟨some 7, .alloc 223 (List.replicate 8 (.int .u32 0)), none⟩,
   ⟨some 8, .alloc 225 (List.replicate 64 (.int .u8 0)), none⟩,
   ⟨none, .store 8 (.t 7) (.t 17), none⟩,
   ⟨none, .store 64 (.t 8) (.t 21), none⟩] [([], []), ([0], [0]), ([1], [1]), ([2], [2]), ([], []), ([4], [4]), ([5], [5]), ([6], [6]), ([], []), ([], []), ([8, 3, 0, 1, 2, 3, 8, 9], [3, 8]), ([9, 7, 10, 0, 1, 2, 3, 4, 5, 6, 7, 8, 9, 10], [7, 9])])
  (.seq (.ops 2 false [
    ⟨some 22, .val (.t 0), none⟩,
    ⟨some 23, .nilCheck (.t 22), none⟩,
    ⟨some 24, .fieldA 72 (.t 23), none⟩,
    ⟨some 25, .load (.t 24), none⟩,
    ⟨some 26, .bin .rem (.t 25) (.c (.int .i64 64)), none⟩,
    ⟨some 9, .val (.t 26), none⟩] [])
   (.seq (.ops 3 false [
     ⟨some 27, .val (.t 9), none⟩,
     ⟨some 28, .sliceA 64 1 (.t 8) (some (.t 27)) none, none⟩,
     ⟨none, .blt .clear #[74] 0 [(.t 28)], none⟩] [])
    (.seq (.ops 4 true [
      ⟨some 29, .val (.t 9), none⟩,
      ⟨some 30, .val (.t 1), none⟩,
      ⟨some 31, .val (.t 2), none⟩,
      ⟨some 32, .bin .shr (.c (.int .u8 255)) (.t 31), none⟩,
      ⟨some 33, .bin .andNot (.t 30) (.t 32), none⟩,
      ⟨some 34, .val (.t 2), none⟩,
      ⟨some 35, .bin .shr (.c (.int .u8 128)) (.t 34), none⟩,
      ⟨some 36, .bin .or (.t 33) (.t 35), none⟩,
      ⟨some 37, .indexA 64 1 (.t 8) (.t 29), none⟩,
      ⟨none, .store 1 (.t 37) (.t 36), none⟩] [([], []), ([], []), ([], []), ([2], [2]), ([1, 3], [1, 3]), ([], []), ([5], [5]), ([4, 6], [4, 6]), ([0, 0, 1, 2, 3, 4, 5, 6, 7], [0]), ([8, 7, 0, 1, 2, 3, 4, 5, 6, 7], [7, 8])])
     (.seq (.seq (.ops 5 false [
        ⟨some 38, .val (.t 9), none⟩,
        ⟨some 39, .bin .geq (.t 38) (.c (.int .i64 56)), none⟩] [])
       (.cond (.t 39) (.ops 6 false [
         ⟨some 40, .loadN 8 (.t 7), none⟩,
         ⟨some 41, .loadN 64 (.t 8), none⟩,
         ⟨some 42, .call 177 [(.t 40), (.t 41)], none⟩,
         ⟨some 43, .build (List.replicate 64 (.int .u8 0)) [], none⟩,
         ⟨none, .store 8 (.t 7) (.t 42), none⟩,
         ⟨none, .store 64 (.t 8) (.t 43), none⟩] [])
        (.skip)))
      (.seq (.ops 7 false [
        ⟨some 44, .val (.t 0), none⟩,
        ⟨some 45, .nilCheck (.t 44), none⟩,
        ⟨some 46, .fieldA 72 (.t 45), none⟩,
        ⟨some 47, .load (.t 46), none⟩,
        ⟨some 48, .conv .u64 (.t 47), none⟩,
        ⟨some 49, .bin .mul (.t 48) (.c (.int .u64 8)), none⟩,
        ⟨some 50, .val (.t 2), none⟩,
        ⟨some 51, .conv .u64 (.t 50), none⟩,
        ⟨some 52, .bin .add (.t 49) (.t 51), none⟩,
        ⟨some 10, .val (.t 52), none⟩] [])
       (.seq (.seq (.ops 8 false [
          ⟨some 53, .val (.c (.int .i64 0)), none⟩] [])
         (.block 0 (.loop (.seq (.ops 9 false [
             ⟨some 54, .bin .lss (.t 53) (.c (.int .i64 8)), none⟩] [])
            (.seq (.cond (.t 54) (.skip)
              (.exit 0))
             (.seq (.block 1 (.seq (.ops 10 false [
                 ⟨some 55, .val (.t 53), none⟩,
                 ⟨some 11, .val (.t 55), none⟩] [])
                (.ops 11 false [
                 ⟨some 56, .val (.t 11), none⟩,
                 ⟨some 57, .bin .sub (.c (.int .i64 63)) (.t 56), none⟩,
                 ⟨some 58, .val (.t 10), none⟩,
                 ⟨some 59, .val (.t 11), none⟩,
                 ⟨some 60, .bin .mul (.c (.int .i64 8)) (.t 59), none⟩,
                 ⟨some 61, .bin .shr (.t 58) (.t 60), none⟩,
                 ⟨some 62, .conv .u8 (.t 61), none⟩,
                 ⟨some 63, .indexA 64 1 (.t 8) (.t 57), none⟩,
                 ⟨none, .store 1 (.t 63) (.t 62), none⟩] [])))
              (.ops 12 false [
               ⟨some 64, .bin .add (.t 53) (.c (.int .i64 1)), none⟩,
               ⟨some 53, .val (.t 64), none⟩] [])))))))
        (.seq (.ops 13 false [
          ⟨some 65, .loadN 8 (.t 7), none⟩,
          ⟨some 66, .loadN 64 (.t 8), none⟩,
          ⟨some 67, .call 177 [(.t 65), (.t 66)], none⟩,
          ⟨none, .store 8 (.t 7) (.t 67), none⟩] [])
         (.seq (.ops 14 false [
           ⟨some 12, .alloc 178 (List.replicate 32 (.int .u8 0)), none⟩] [])
          (.seq (.seq (.ops 15 false [
             ⟨some 68, .val (.c (.int .i64 0)), none⟩] [])
            (.block 2 (.loop (.seq (.ops 16 false [
                ⟨some 69, .bin .lss (.t 68) (.c (.int .i64 32)), none⟩] [])
               (.seq (.cond (.t 69) (.skip)
                 (.exit 2))
                (.seq (.block 3 (.seq (.ops 17 false [
                    ⟨some 70, .val (.t 68), none⟩,
                    ⟨some 13, .val (.t 70), none⟩] [])
                   (.ops 18 false [
                    ⟨some 71, .val (.t 13), none⟩,
                    ⟨some 72, .val (.t 13), none⟩,
                    ⟨some 73, .bin .quo (.t 72) (.c (.int .i64 4)), none⟩,
                    ⟨some 74, .indexA 8 1 (.t 7) (.t 73), none⟩,
                    ⟨some 75, .load (.t 74), none⟩,
                    ⟨some 76, .val (.t 13), none⟩,
                    ⟨some 77, .bin .rem (.t 76) (.c (.int .i64 4)), none⟩,
                    ⟨some 78, .bin .mul (.c (.int .i64 8)) (.t 77), none⟩,
                    ⟨some 79, .bin .sub (.c (.int .i64 24)) (.t 78), none⟩,
                    ⟨some 80, .bin .shr (.t 75) (.t 79), none⟩,
                    ⟨some 81, .conv .u8 (.t 80), none⟩,
                    ⟨some 82, .indexA 32 1 (.t 12) (.t 71), none⟩,
                    ⟨none, .store 1 (.t 82) (.t 81), none⟩] [])))
                 (.ops 19 false [
                  ⟨some 83, .bin .add (.t 68) (.c (.int .i64 1)), none⟩,
                  ⟨some 68, .val (.t 83), none⟩] [])))))))
           (.seq (.ops 20 false [
             ⟨some 84, .loadN 32 (.t 12), none⟩,
             ⟨none, .store 32 (.t 6) (.t 84), none⟩] [])
            (.ret))))))))))))
def rs178 : List RR := [.cell 6 (some 32)]
theorem fun178 : FunR Tryz.prog 178 rc178 rs178 85 := ⟨Tryz.f178, Tryz.func178, by kernel_rfl, by kernel_rfl, by kernel_rfl⟩
/-- causeway/sparse.over -/
def rc180 : RC :=
 .seq (.ops 0 false [
  ⟨some 2, .alloc 178 (List.replicate 32 (.int .u8 0)), none⟩] [])
 (.seq (.seq (.ops 1 false [
    ⟨some 3, .val (.t 0), none⟩,
    ⟨some 4, .eqp .ptr false (.t 3) (.c (.pointer none)), none⟩] [])
   (.cond (.t 4) (.seq (.ops 2 false [
      ⟨some 5, .build (List.replicate 32 (.int .u8 0)) [], none⟩,
      ⟨none, .store 32 (.t 2) (.t 5), none⟩] [])
     (.ret))
    (.skip)))
  (.seq (.ops 3 false [
    ⟨some 6, .val (.t 0), none⟩,
    ⟨some 7, .nilCheck (.t 6), none⟩,
    ⟨some 8, .fieldA 0 (.t 7), none⟩,
    ⟨some 9, .loadN 32 (.t 8), none⟩,
    ⟨none, .store 32 (.t 2) (.t 9), none⟩] [])
   (.ret)))
def rs180 : List RR := [.cell 2 (some 32)]
theorem fun180 : FunR Tryz.prog 180 rc180 rs180 10 := ⟨Tryz.f180, Tryz.func180, by kernel_rfl, by kernel_rfl, by kernel_rfl⟩
/-- causeway/digest.words -/
def rc182 : RC :=
 .seq (.ops 0 false [
  ⟨some 1, .box 225 (.t 0), none⟩,
  ⟨some 2, .alloc 234 (List.replicate 64 (.int .u32 0)), none⟩] [])
 (.seq (.ops 1 false [
   ⟨some 3, .alloc 234 (List.replicate 64 (.int .u32 0)), none⟩] [])
  (.seq (.seq (.ops 2 false [
     ⟨some 8, .val (.c (.int .i64 0)), none⟩] [])
    (.block 0 (.loop (.seq (.ops 3 false [
        ⟨some 9, .bin .lss (.t 8) (.c (.int .i64 16)), none⟩] [])
       (.seq (.cond (.t 9) (.skip)
         (.exit 0))
        (.seq (.block 1 (.seq (.ops 4 false [
            ⟨some 10, .val (.t 8), none⟩,
            ⟨some 4, .val (.t 10), none⟩] [])
           (.ops 5 true [
            ⟨some 11, .val (.t 4), none⟩,
            ⟨some 12, .val (.t 4), none⟩,
            ⟨some 13, .bin .mul (.c (.int .i64 4)) (.t 12), none⟩,
            ⟨some 14, .indexA 64 1 (.t 1) (.t 13), none⟩,
            ⟨some 15, .load (.t 14), none⟩,
            ⟨some 16, .conv .u32 (.t 15), none⟩,
            ⟨some 17, .bin .shl (.t 16) (.c (.int .u64 24)), none⟩,
            ⟨some 18, .val (.t 4), none⟩,
            ⟨some 19, .bin .mul (.c (.int .i64 4)) (.t 18), none⟩,
            ⟨some 20, .bin .add (.t 19) (.c (.int .i64 1)), none⟩,
            ⟨some 21, .indexA 64 1 (.t 1) (.t 20), none⟩,
            ⟨some 22, .load (.t 21), none⟩,
            ⟨some 23, .conv .u32 (.t 22), none⟩,
            ⟨some 24, .bin .shl (.t 23) (.c (.int .u64 16)), none⟩,
            ⟨some 25, .bin .or (.t 17) (.t 24), none⟩,
            ⟨some 26, .val (.t 4), none⟩,
            ⟨some 27, .bin .mul (.c (.int .i64 4)) (.t 26), none⟩,
            ⟨some 28, .bin .add (.t 27) (.c (.int .i64 2)), none⟩,
            ⟨some 29, .indexA 64 1 (.t 1) (.t 28), none⟩,
            ⟨some 30, .load (.t 29), none⟩,
            ⟨some 31, .conv .u32 (.t 30), none⟩,
            ⟨some 32, .bin .shl (.t 31) (.c (.int .u64 8)), none⟩,
            ⟨some 33, .bin .or (.t 25) (.t 32), none⟩,
            ⟨some 34, .val (.t 4), none⟩,
            ⟨some 35, .bin .mul (.c (.int .i64 4)) (.t 34), none⟩,
            ⟨some 36, .bin .add (.t 35) (.c (.int .i64 3)), none⟩,
            ⟨some 37, .indexA 64 1 (.t 1) (.t 36), none⟩,
            ⟨some 38, .load (.t 37), none⟩,
            ⟨some 39, .conv .u32 (.t 38), none⟩,
            ⟨some 40, .bin .or (.t 33) (.t 39), none⟩,
            ⟨some 41, .indexA 64 1 (.t 3) (.t 11), none⟩,
            ⟨none, .store 1 (.t 41) (.t 40), none⟩] [([], []), ([], []), ([1], [1]), ([2], [2]), ([3], [3]), ([4], [4]), ([5], [5]), ([], []), ([7], [7]), ([8], [8]), ([9], [9]), ([10], [10]), ([11], [11]), ([12], [12]), ([6, 13], [6, 13]), ([], []), ([15], [15]), ([16], [16]), ([17], [17]), ([18], [18]), ([19], [19]), ([20], [20]), ([14, 21], [14, 21]), ([], []), ([23], [23]), ([24], [24]), ([25], [25]), ([26], [26]), ([27], [27]), ([22, 28], [22, 28]), ([0, 0, 1, 2, 3, 4, 5, 6, 7, 8, 9, 10, 11, 12, 13, 14, 15, 16, 17, 18, 19, 20, 21, 22, 23, 24, 25, 26, 27, 28, 29], [0]), ([30, 29, 0, 1, 2, 3, 4, 5, 6, 7, 8, 9, 10, 11, 12, 13, 14, 15, 16, 17, 18, 19, 20, 21, 22, 23, 24, 25, 26, 27, 28, 29], [29, 30])])))
         (.ops 6 false [
          ⟨some 42, .bin .add (.t 8) (.c (.int .i64 1)), none⟩,
          ⟨some 8, .val (.t 42), none⟩] [])))))))
   (.seq (.seq (.ops 7 false [
      ⟨some 5, .val (.c (.int .i64 16)), none⟩] [])
     (.block 2 (.loop (.seq (.seq (.ops 8 false [
          ⟨some 43, .val (.t 5), none⟩,
          ⟨some 44, .bin .lss (.t 43) (.c (.int .i64 64)), none⟩] [])
         (.cond (.t 44) (.skip)
          (.exit 2)))
        (.seq (.block 3 (.seq (.ops 10 true [
            ⟨some 47, .val (.t 5), none⟩,
            ⟨some 48, .bin .sub (.t 47) (.c (.int .i64 2)), none⟩,
            ⟨some 49, .indexA 64 1 (.t 3) (.t 48), none⟩,
            ⟨some 50, .load (.t 49), none⟩,
            ⟨some 51, .val (.t 5), none⟩,
            ⟨some 52, .bin .sub (.t 51) (.c (.int .i64 15)), none⟩,
            ⟨some 53, .indexA 64 1 (.t 3) (.t 52), none⟩,
            ⟨some 54, .load (.t 53), none⟩,
            ⟨some 6, .val (.t 50), none⟩,
            ⟨some 7, .val (.t 54), none⟩] [([], []), ([0], [0]), ([1], [1]), ([2], [2]), ([], []), ([4], [4]), ([5], [5]), ([6], [6]), ([3, 0, 1, 2, 3], [3]), ([7, 8, 0, 1, 2, 3, 4, 5, 6, 7, 8], [7])])
           (.seq (.ops 11 false [
             ⟨some 55, .val (.t 6), none⟩,
             ⟨some 56, .call 183 [(.t 55), (.c (.int .i64 (-17)))], none⟩,
             ⟨some 57, .val (.t 6), none⟩,
             ⟨some 58, .call 183 [(.t 57), (.c (.int .i64 (-19)))], none⟩,
             ⟨some 59, .bin .xor (.t 56) (.t 58), none⟩,
             ⟨some 60, .val (.t 6), none⟩,
             ⟨some 61, .bin .shr (.t 60) (.c (.int .u64 10)), none⟩,
             ⟨some 62, .bin .xor (.t 59) (.t 61), none⟩,
             ⟨some 6, .val (.t 62), none⟩] [])
            (.seq (.ops 12 false [
              ⟨some 63, .val (.t 7), none⟩,
              ⟨some 64, .call 183 [(.t 63), (.c (.int .i64 (-7)))], none⟩,
              ⟨some 65, .val (.t 7), none⟩,
              ⟨some 66, .call 183 [(.t 65), (.c (.int .i64 (-18)))], none⟩,
              ⟨some 67, .bin .xor (.t 64) (.t 66), none⟩,
              ⟨some 68, .val (.t 7), none⟩,
              ⟨some 69, .bin .shr (.t 68) (.c (.int .u64 3)), none⟩,
              ⟨some 70, .bin .xor (.t 67) (.t 69), none⟩,
              ⟨some 7, .val (.t 70), none⟩] [])
             (.ops 13 true [
              ⟨some 71, .val (.t 5), none⟩,
              ⟨some 72, .val (.t 6), none⟩,
              ⟨some 73, .val (.t 5), none⟩,
              ⟨some 74, .bin .sub (.t 73) (.c (.int .i64 7)), none⟩,
              ⟨some 75, .indexA 64 1 (.t 3) (.t 74), none⟩,
              ⟨some 76, .load (.t 75), none⟩,
              ⟨some 77, .bin .add (.t 72) (.t 76), none⟩,
              ⟨some 78, .val (.t 7), none⟩,
              ⟨some 79, .bin .add (.t 77) (.t 78), none⟩,
              ⟨some 80, .val (.t 5), none⟩,
              ⟨some 81, .bin .sub (.t 80) (.c (.int .i64 16)), none⟩,
              ⟨some 82, .indexA 64 1 (.t 3) (.t 81), none⟩,
              ⟨some 83, .load (.t 82), none⟩,
              ⟨some 84, .bin .add (.t 79) (.t 83), none⟩,
              ⟨some 85, .indexA 64 1 (.t 3) (.t 71), none⟩,
              ⟨none, .store 1 (.t 85) (.t 84), none⟩] [([], []), ([], []), ([], []), ([2], [2]), ([3], [3]), ([4], [4]), ([1, 5], [1, 5]), ([], []), ([6, 7], [6, 7]), ([], []), ([9], [9]), ([10], [10]), ([11], [11]), ([8, 12], [8, 12]), ([0, 0, 1, 2, 3, 4, 5, 6, 7, 8, 9, 10, 11, 12, 13], [0]), ([14, 13, 0, 1, 2, 3, 4, 5, 6, 7, 8, 9, 10, 11, 12, 13], [13, 14])])))))
         (.ops 9 false [
          ⟨some 45, .val (.t 5), none⟩,
          ⟨some 46, .bin .add (.t 45) (.c (.int .i64 1)), none⟩,
          ⟨some 5, .val (.t 46), none⟩] []))))))
    (.seq (.ops 14 false [
      ⟨some 86, .loadN 64 (.t 3), none⟩,
      ⟨none, .store 64 (.t 2) (.t 86), none⟩] [])
     (.ret)))))
def rs182 : List RR := [.cell 2 (some 64)]
theorem fun182 : FunR Tryz.prog 182 rc182 rs182 87 := ⟨Tryz.f182, Tryz.func182, by kernel_rfl, by kernel_rfl, by kernel_rfl⟩
/-- math/bits.RotateLeft32 -/
def rc183 : RC :=
 .seq (.ops 0 false [
  ⟨some 4, .val (.c (.int .u32 0)), none⟩] [])
 (.seq (.ops 1 false [
   ⟨some 6, .val (.t 1), none⟩,
   ⟨some 7, .conv .u64 (.t 6), none⟩,
   ⟨some 8, .bin .and (.t 7) (.c (.int .u64 31)), none⟩,
   ⟨some 5, .val (.t 8), none⟩] [])
  (.seq (.ops 2 false [
    ⟨some 9, .val (.t 0), none⟩,
    ⟨some 10, .val (.t 5), none⟩,
    ⟨some 11, .bin .shl (.t 9) (.t 10), none⟩,
    ⟨some 12, .val (.t 0), none⟩,
    ⟨some 13, .val (.t 5), none⟩,
    ⟨some 14, .bin .sub (.c (.int .u64 32)) (.t 13), none⟩,
    ⟨some 15, .bin .shr (.t 12) (.t 14), none⟩,
    ⟨some 16, .bin .or (.t 11) (.t 15), none⟩,
    ⟨some 4, .val (.t 16), none⟩] [])
   (.ret)))
def rs183 : List RR := [.tmp 4]
theorem fun183 : FunR Tryz.prog 183 rc183 rs183 17 := ⟨Tryz.f183, Tryz.func183, by kernel_rfl, by kernel_rfl, by kernel_rfl⟩
/-- (*causeway/causewaylaw07.teller).Find -/
def rc200 : RC :=
 .seq (.ops 0 false [
  ⟨some 4, .val (.c (.slice none 0 0)), none⟩,
  ⟨some 5, .val (.c (.int .i64 0)), none⟩] [])
 (.seq (.ops 1 false [
   ⟨some 10, .val (.t 0), none⟩,
   ⟨some 11, .val (.t 1), none⟩,
   ⟨some 12, .call 28 [(.t 10), (.t 11)], none⟩,
   ⟨some 6, .val (.t 12), none⟩] [])
  (.seq (.seq (.ops 2 false [
     ⟨some 13, .val (.t 6), none⟩,
     ⟨some 14, .bin .gtr (.t 13) (.c (.int .i64 0)), none⟩] [])
    (.cond (.t 14) (.ops 3 false [
      ⟨some 15, .val (.t 0), none⟩,
      ⟨some 16, .nilCheck (.t 15), none⟩,
      ⟨some 17, .fieldA 3 (.t 16), none⟩,
      ⟨none, .store 1 (.t 17) (.c (.bool true)), none⟩] [])
     (.skip)))
   (.seq (.seq (.ops 4 false [
      ⟨some 7, .val (.c (.int .i64 0)), none⟩] [])
     (.block 0 (.loop (.seq (.seq (.ops 5 false [
          ⟨some 18, .val (.t 7), none⟩,
          ⟨some 19, .val (.t 0), none⟩,
          ⟨some 20, .nilCheck (.t 19), none⟩,
          ⟨some 21, .fieldA 1 (.t 20), none⟩,
          ⟨some 22, .load (.t 21), none⟩,
          ⟨some 23, .len (.t 22), none⟩,
          ⟨some 24, .bin .lss (.t 18) (.t 23), none⟩] [])
         (.cond (.t 24) (.skip)
          (.exit 0)))
        (.seq (.block 1 (.seq (.ops 7 false [
            ⟨some 27, .val (.t 0), none⟩,
            ⟨some 28, .nilCheck (.t 27), none⟩,
            ⟨some 29, .fieldA 1 (.t 28), none⟩,
            ⟨some 30, .load (.t 29), none⟩,
            ⟨some 31, .val (.t 7), none⟩,
            ⟨some 32, .indexS 2 (.t 30) (.t 31), none⟩,
            ⟨some 33, .fieldA 0 (.t 32), none⟩,
            ⟨some 34, .load (.t 33), none⟩,
            ⟨some 35, .val (.t 1), none⟩,
            ⟨some 36, .eqp .str false (.t 34) (.t 35), none⟩,
            ⟨some 37, .val (.t 36), none⟩,
            ⟨some 38, .val (.t 0), some (37, true)⟩,
            ⟨some 39, .nilCheck (.t 38), some (37, true)⟩,
            ⟨some 40, .fieldA 1 (.t 39), some (37, true)⟩,
            ⟨some 41, .load (.t 40), some (37, true)⟩,
            ⟨some 42, .val (.t 7), some (37, true)⟩,
            ⟨some 43, .indexS 2 (.t 41) (.t 42), some (37, true)⟩,
            ⟨some 44, .fieldA 1 (.t 43), some (37, true)⟩,
            ⟨some 45, .load (.t 44), some (37, true)⟩,
            ⟨some 46, .bin .neq (.t 45) (.c (.int .i64 0)), some (37, true)⟩,
            ⟨some 47, .pick (.t 37) (.t 46) (.c (.bool false)), none⟩] [])
           (.cond (.t 47) (.seq (.ops 8 true [
              ⟨some 48, .buildS 5 15 (List.replicate 15 (.int .u8 0)) [(0, 1, (.c (.int .u8 98))), (1, 1, (.c (.int .u8 101))), (2, 1, (.c (.int .u8 115))), (3, 1, (.c (.int .u8 105))), (4, 1, (.c (.int .u8 100))), (5, 1, (.c (.int .u8 101))), (6, 1, (.c (.int .u8 32))), (7, 1, (.c (.int .u8 97))), (8, 1, (.c (.int .u8 110))), (9, 1, (.c (.int .u8 32))), (10, 1, (.c (.int .u8 101))), (11, 1, (.c (.int .u8 114))), (12, 1, (.c (.int .u8 114))), (13, 1, (.c (.int .u8 111))), (14, 1, (.c (.int .u8 114)))], none⟩,
              ⟨some 49, .cvt 74 74 (.t 48), none⟩,
              ⟨some 50, .val (.t 0), none⟩,
              ⟨some 51, .nilCheck (.t 50), none⟩,
              ⟨some 52, .fieldA 1 (.t 51), none⟩,
              ⟨some 53, .load (.t 52), none⟩,
              ⟨some 54, .val (.t 7), none⟩,
              ⟨some 55, .indexS 2 (.t 53) (.t 54), none⟩,
              ⟨some 56, .fieldA 1 (.t 55), none⟩,
              ⟨some 57, .load (.t 56), none⟩,
              ⟨some 4, .val (.t 49), none⟩,
              ⟨some 5, .val (.t 57), none⟩] [([], []), ([0], [0]), ([], []), ([2], [2]), ([3], [3]), ([4], [4]), ([], []), ([5, 6], [5, 6]), ([7], [7]), ([8], [8]), ([1, 0, 1], [1]), ([9, 10, 0, 1, 2, 3, 4, 5, 6, 7, 8, 9, 10], [9])])
             (.ret))
            (.skip))))
         (.ops 6 false [
          ⟨some 25, .val (.t 7), none⟩,
          ⟨some 26, .bin .add (.t 25) (.c (.int .i64 1)), none⟩,
          ⟨some 7, .val (.t 26), none⟩] []))))))
    (.seq (.seq (.ops 9 false [
       ⟨some 8, .val (.c (.int .i64 0)), none⟩] [])
      (.block 2 (.loop (.seq (.seq (.ops 10 false [
           ⟨some 58, .val (.t 8), none⟩,
           ⟨some 59, .val (.t 0), none⟩,
           ⟨some 60, .nilCheck (.t 59), none⟩,
           ⟨some 61, .fieldA 0 (.t 60), none⟩,
           ⟨some 62, .load (.t 61), none⟩,
           ⟨some 63, .len (.t 62), none⟩,
           ⟨some 64, .bin .lss (.t 58) (.t 63), none⟩] [])
          (.cond (.t 64) (.skip)
           (.exit 2)))
         (.seq (.block 3 (.seq (.ops 12 false [
             ⟨some 67, .val (.t 0), none⟩,
             ⟨some 68, .nilCheck (.t 67), none⟩,
             ⟨some 69, .fieldA 0 (.t 68), none⟩,
             ⟨some 70, .load (.t 69), none⟩,
             ⟨some 71, .val (.t 8), none⟩,
             ⟨some 72, .indexS 2 (.t 70) (.t 71), none⟩,
             ⟨some 73, .fieldA 0 (.t 72), none⟩,
             ⟨some 74, .load (.t 73), none⟩,
             ⟨some 75, .val (.t 1), none⟩,
             ⟨some 76, .eqp .str false (.t 74) (.t 75), none⟩] [])
            (.cond (.t 76) (.seq (.ops 13 false [
               ⟨some 77, .val (.t 0), none⟩,
               ⟨some 78, .nilCheck (.t 77), none⟩,
               ⟨some 79, .fieldA 0 (.t 78), none⟩,
               ⟨some 80, .load (.t 79), none⟩,
               ⟨some 81, .val (.t 8), none⟩,
               ⟨some 82, .indexS 2 (.t 80) (.t 81), none⟩,
               ⟨some 83, .fieldA 1 (.t 82), none⟩,
               ⟨some 84, .load (.t 83), none⟩,
               ⟨some 85, .call 60 [(.t 84)], none⟩,
               ⟨some 9, .val (.t 85), none⟩] [])
              (.seq (.ops 14 false [
                ⟨some 86, .val (.t 0), none⟩,
                ⟨some 87, .val (.t 0), none⟩,
                ⟨some 88, .nilCheck (.t 87), none⟩,
                ⟨some 89, .fieldA 4 (.t 88), none⟩,
                ⟨some 90, .load (.t 89), none⟩,
                ⟨some 91, .val (.t 9), none⟩,
                ⟨some 92, .buildS 74 1 [(.slice none 0 0)] [(0, 1, (.t 91))], none⟩,
                ⟨some 93, .blt .append #[62, 62] 62 [(.t 90), (.t 92)], none⟩,
                ⟨some 94, .nilCheck (.t 86), none⟩,
                ⟨some 95, .fieldA 4 (.t 94), none⟩,
                ⟨none, .store 1 (.t 95) (.t 93), none⟩] [])
               (.seq (.seq (.ops 15 false [
                  ⟨some 96, .val (.t 0), none⟩,
                  ⟨some 97, .nilCheck (.t 96), none⟩,
                  ⟨some 98, .fieldA 0 (.t 97), none⟩,
                  ⟨some 99, .load (.t 98), none⟩,
                  ⟨some 100, .val (.t 8), none⟩,
                  ⟨some 101, .indexS 2 (.t 99) (.t 100), none⟩,
                  ⟨some 102, .fieldA 1 (.t 101), none⟩,
                  ⟨some 103, .load (.t 102), none⟩,
                  ⟨some 104, .len (.t 103), none⟩,
                  ⟨some 105, .bin .leq (.t 104) (.c (.int .i64 4096)), none⟩] [])
                 (.cond (.t 105) (.ops 16 false [
                   ⟨some 106, .val (.t 0), none⟩,
                   ⟨some 107, .val (.t 0), none⟩,
                   ⟨some 108, .nilCheck (.t 107), none⟩,
                   ⟨some 109, .fieldA 2 (.t 108), none⟩,
                   ⟨some 110, .load (.t 109), none⟩,
                   ⟨some 111, .val (.t 1), none⟩,
                   ⟨some 112, .buildS 9 1 [(.string ⟨#[]⟩)] [(0, 1, (.t 111))], none⟩,
                   ⟨some 113, .blt .append #[61, 61] 61 [(.t 110), (.t 112)], none⟩,
                   ⟨some 114, .nilCheck (.t 106), none⟩,
                   ⟨some 115, .fieldA 2 (.t 114), none⟩,
                   ⟨none, .store 1 (.t 115) (.t 113), none⟩] [])
                  (.skip)))
                (.seq (.ops 17 false [
                  ⟨some 116, .val (.t 9), none⟩,
                  ⟨some 117, .val (.t 0), none⟩,
                  ⟨some 118, .nilCheck (.t 117), none⟩,
                  ⟨some 119, .fieldA 0 (.t 118), none⟩,
                  ⟨some 120, .load (.t 119), none⟩,
                  ⟨some 121, .val (.t 8), none⟩,
                  ⟨some 122, .indexS 2 (.t 120) (.t 121), none⟩,
                  ⟨some 123, .fieldA 1 (.t 122), none⟩,
                  ⟨some 124, .load (.t 123), none⟩,
                  ⟨some 125, .len (.t 124), none⟩,
                  ⟨some 126, .slice 1 (.t 116) none (some (.t 125)) none, none⟩,
                  ⟨some 4, .val (.t 126), none⟩,
                  ⟨some 5, .val (.c (.int .i64 0)), none⟩] [])
                 (.ret)))))
             (.skip))))
          (.ops 11 false [
           ⟨some 65, .val (.t 8), none⟩,
           ⟨some 66, .bin .add (.t 65) (.c (.int .i64 1)), none⟩,
           ⟨some 8, .val (.t 66), none⟩] []))))))
     (.seq (.ops 18 false [
       ⟨some 127, .val (.t 0), none⟩,
       ⟨some 128, .val (.t 0), none⟩,
       ⟨some 129, .nilCheck (.t 128), none⟩,
       ⟨some 130, .fieldA 2 (.t 129), none⟩,
       ⟨some 131, .load (.t 130), none⟩,
       ⟨some 132, .val (.t 1), none⟩,
       ⟨some 133, .buildS 9 1 [(.string ⟨#[]⟩)] [(0, 1, (.t 132))], none⟩,
       ⟨some 134, .blt .append #[61, 61] 61 [(.t 131), (.t 133)], none⟩,
       ⟨some 135, .nilCheck (.t 127), none⟩,
       ⟨some 136, .fieldA 2 (.t 135), none⟩,
       ⟨none, .store 1 (.t 136) (.t 134), none⟩] [])
      (.seq (.ops 19 false [
        ⟨some 4, .val (.c (.slice none 0 0)), none⟩,
        ⟨some 5, .val (.c (.int .i64 0)), none⟩] [])
       (.ret)))))))
def rs200 : List RR := [.tmp 4, .tmp 5]
theorem fun200 : FunR Tryz.prog 200 rc200 rs200 137 := ⟨Tryz.f200, Tryz.func200, by kernel_rfl, by kernel_rfl, by kernel_rfl⟩
/-- (*causeway/store.Table).Find -/
def rc202 : RC :=
 .seq (.ops 0 false [
  ⟨some 4, .val (.c (.slice none 0 0)), none⟩,
  ⟨some 5, .val (.c (.int .i64 0)), none⟩] [])
 (.seq (.seq (.ops 1 false [
    ⟨some 7, .val (.t 1), none⟩,
    ⟨some 8, .call 100 [(.t 7), (.c (.slice none 0 0))], none⟩,
    ⟨some 6, .val (.t 8), none⟩] [])
   (.seq (.ops 2 false [
     ⟨some 9, .val (.t 6), none⟩,
     ⟨some 10, .bin .neq (.t 9) (.c (.int .i64 0)), none⟩] [])
    (.cond (.t 10) (.seq (.ops 3 false [
       ⟨some 11, .val (.t 6), none⟩,
       ⟨some 4, .val (.c (.slice none 0 0)), none⟩,
       ⟨some 5, .val (.t 11), none⟩] [])
      (.ret))
     (.skip))))
  (.seq (.ops 4 false [
    ⟨some 12, .val (.t 0), none⟩,
    ⟨some 13, .nilCheck (.t 12), none⟩,
    ⟨some 14, .fieldA 0 (.t 13), none⟩,
    ⟨some 15, .load (.t 14), none⟩,
    ⟨some 16, .val (.t 1), none⟩,
    ⟨some 17, .look 115 (.t 15) (.t 16) false, none⟩,
    ⟨some 18, .call 84 [(.t 17)], none⟩,
    ⟨some 4, .val (.t 18), none⟩,
    ⟨some 5, .val (.c (.int .i64 0)), none⟩] [])
   (.ret)))
def rs202 : List RR := [.tmp 4, .tmp 5]
theorem fun202 : FunR Tryz.prog 202 rc202 rs202 19 := ⟨Tryz.f202, Tryz.func202, by kernel_rfl, by kernel_rfl, by kernel_rfl⟩
end Go.Proofs.YtnbcbdlbejdkpaaGreatDoor
