/-
  The resolved texts of this seat's functions, printed by this session's own program, and that they are what the translation has.
-/
import Derived.Test.YtnbcbdlbejdkpaaDoorChecked
import Derived.Test.YtnbcbdlbejdkpaaDoorZCd
import Derived.KernelRfl
namespace Go.Proofs.YtnbcbdlbejdkpaaDoor
open Go Go.Sl
set_option maxRecDepth 100000
/-- causeway/causewaylaw07.StoreBacks -/
def rc8 : RC :=
 .seq (.ops 0 false [
  ⟨some 6, .val (.c (.bool false)), none⟩] [])
 (.seq (.ops 1 false [
   ⟨some 37, .call 36 [], none⟩,
   ⟨some 7, .val (.t 37), none⟩] [])
  (.seq (.ops 2 false [
    ⟨some 38, .val (.t 0), none⟩,
    ⟨some 39, .call 37 [(.t 38)], none⟩,
    ⟨some 8, .val (.t 39), none⟩] [])
   (.seq (.seq (.ops 3 false [
      ⟨some 40, .val (.t 7), none⟩,
      ⟨some 41, .not (.t 40), none⟩,
      ⟨some 42, .val (.t 41), none⟩,
      ⟨some 43, .val (.t 8), some (42, false)⟩,
      ⟨some 44, .eqp .ptr false (.t 43) (.c (.pointer none)), some (42, false)⟩,
      ⟨some 45, .pick (.t 42) (.c (.bool true)) (.t 44), none⟩] [])
     (.cond (.t 45) (.seq (.ops 4 false [
        ⟨some 6, .val (.c (.bool false)), none⟩] [])
       (.ret))
      (.skip)))
    (.seq (.ops 5 false [
      ⟨some 47, .val (.t 8), none⟩,
      ⟨some 48, .iface 87 (.t 47), none⟩,
      ⟨some 49, .call 38 [(.t 48)], none⟩,
      ⟨some 46, .val (.t 49), none⟩,
      ⟨some 50, .extract 0 (.t 46), none⟩,
      ⟨some 51, .extract 1 (.t 46), none⟩,
      ⟨some 9, .val (.t 50), none⟩,
      ⟨some 10, .val (.t 51), none⟩] [])
     (.seq (.ops 6 false [
       ⟨some 53, .val (.t 8), none⟩,
       ⟨some 54, .iface 87 (.t 53), none⟩,
       ⟨some 55, .call 38 [(.t 54)], none⟩,
       ⟨some 52, .val (.t 55), none⟩,
       ⟨some 56, .extract 0 (.t 52), none⟩,
       ⟨some 57, .extract 1 (.t 52), none⟩,
       ⟨some 11, .val (.t 56), none⟩,
       ⟨some 12, .val (.t 57), none⟩] [])
      (.seq (.seq (.ops 7 false [
         ⟨some 58, .val (.t 9), none⟩,
         ⟨some 59, .eqp .ptr false (.t 58) (.c (.pointer none)), none⟩,
         ⟨some 60, .val (.t 59), none⟩,
         ⟨some 61, .val (.t 11), some (60, false)⟩,
         ⟨some 62, .eqp .ptr false (.t 61) (.c (.pointer none)), some (60, false)⟩,
         ⟨some 63, .pick (.t 60) (.c (.bool true)) (.t 62), none⟩,
         ⟨some 64, .val (.t 63), none⟩,
         ⟨some 65, .val (.t 10), some (64, false)⟩,
         ⟨some 66, .bin .neq (.t 65) (.c (.int .i64 0)), some (64, false)⟩,
         ⟨some 67, .pick (.t 64) (.c (.bool true)) (.t 66), none⟩,
         ⟨some 68, .val (.t 67), none⟩,
         ⟨some 69, .val (.t 12), some (68, false)⟩,
         ⟨some 70, .bin .neq (.t 69) (.c (.int .i64 0)), some (68, false)⟩,
         ⟨some 71, .pick (.t 68) (.c (.bool true)) (.t 70), none⟩] [])
        (.cond (.t 71) (.seq (.ops 8 false [
           ⟨some 6, .val (.c (.bool false)), none⟩] [])
          (.ret))
         (.skip)))
       (.seq (.seq (.ops 9 false [
          ⟨some 13, .val (.c (.int .i64 0)), none⟩] [])
         (.block 0 (.loop (.seq (.seq (.ops 10 false [
              ⟨some 72, .val (.t 13), none⟩,
              ⟨some 73, .val (.t 1), none⟩,
              ⟨some 74, .len (.t 73), none⟩,
              ⟨some 75, .bin .lss (.t 72) (.t 74), none⟩] [])
             (.cond (.t 75) (.skip)
              (.exit 0)))
            (.seq (.block 1 (.seq (.ops 12 false [
                ⟨some 78, .val (.t 1), none⟩,
                ⟨some 79, .val (.t 13), none⟩,
                ⟨some 80, .indexS 4 (.t 78) (.t 79), none⟩,
                ⟨some 81, .fieldA 0 (.t 80), none⟩,
                ⟨some 82, .load (.t 81), none⟩,
                ⟨some 83, .bin .eql (.t 82) (.c (.int .i64 3)), none⟩] [])
               (.cond (.t 83) (.ops 13 false [
                 ⟨some 84, .val (.t 9), none⟩,
                 ⟨some 85, .call 29 [(.t 84)], none⟩] [])
                (.ops 14 true [
                 ⟨some 86, .val (.t 9), none⟩,
                 ⟨some 87, .val (.t 1), none⟩,
                 ⟨some 88, .val (.t 13), none⟩,
                 ⟨some 89, .indexS 4 (.t 87) (.t 88), none⟩,
                 ⟨some 90, .fieldA 1 (.t 89), none⟩,
                 ⟨some 91, .load (.t 90), none⟩,
                 ⟨some 92, .val (.t 1), none⟩,
                 ⟨some 93, .val (.t 13), none⟩,
                 ⟨some 94, .indexS 4 (.t 92) (.t 93), none⟩,
                 ⟨some 95, .fieldA 2 (.t 94), none⟩,
                 ⟨some 96, .load (.t 95), none⟩,
                 ⟨some 97, .call 39 [(.t 86), (.t 91), (.t 96)], none⟩] [([], []), ([], []), ([], []), ([1, 2], [1, 2]), ([3], [3]), ([4], [4]), ([], []), ([], []), ([6, 7], [6, 7]), ([8], [8]), ([9], [9]), ([0, 5, 10], [0, 5, 10])]))))
             (.ops 11 false [
              ⟨some 76, .val (.t 13), none⟩,
              ⟨some 77, .bin .add (.t 76) (.c (.int .i64 1)), none⟩,
              ⟨some 13, .val (.t 77), none⟩] []))))))
        (.seq (.ops 15 false [
          ⟨some 98, .val (.t 9), none⟩,
          ⟨some 99, .call 29 [(.t 98)], none⟩,
          ⟨some 14, .val (.t 99), none⟩] [])
         (.seq (.ops 16 false [
           ⟨some 15, .val (.c (.slice none 0 0)), none⟩] [])
          (.seq (.seq (.ops 17 false [
             ⟨some 16, .val (.c (.int .i64 0)), none⟩] [])
            (.block 2 (.loop (.seq (.seq (.ops 18 false [
                 ⟨some 100, .val (.t 16), none⟩,
                 ⟨some 101, .val (.t 0), none⟩,
                 ⟨some 102, .len (.t 101), none⟩,
                 ⟨some 103, .bin .lss (.t 100) (.t 102), none⟩] [])
                (.cond (.t 103) (.skip)
                 (.exit 2)))
               (.seq (.block 3 (.ops 20 false [
                  ⟨some 106, .val (.t 15), none⟩,
                  ⟨some 107, .val (.t 0), none⟩,
                  ⟨some 108, .val (.t 16), none⟩,
                  ⟨some 109, .indexS 2 (.t 107) (.t 108), none⟩,
                  ⟨some 110, .fieldA 0 (.t 109), none⟩,
                  ⟨some 111, .load (.t 110), none⟩,
                  ⟨some 112, .buildS 9 1 [(.string ⟨#[]⟩)] [(0, 1, (.t 111))], none⟩,
                  ⟨some 113, .blt .append #[95, 95] 95 [(.t 106), (.t 112)], none⟩,
                  ⟨some 15, .val (.t 113), none⟩] []))
                (.ops 19 false [
                 ⟨some 104, .val (.t 16), none⟩,
                 ⟨some 105, .bin .add (.t 104) (.c (.int .i64 1)), none⟩,
                 ⟨some 16, .val (.t 105), none⟩] []))))))
           (.seq (.seq (.ops 21 false [
              ⟨some 17, .val (.c (.int .i64 0)), none⟩] [])
             (.block 4 (.loop (.seq (.seq (.ops 22 false [
                  ⟨some 114, .val (.t 17), none⟩,
                  ⟨some 115, .val (.t 1), none⟩,
                  ⟨some 116, .len (.t 115), none⟩,
                  ⟨some 117, .bin .lss (.t 114) (.t 116), none⟩] [])
                 (.cond (.t 117) (.skip)
                  (.exit 4)))
                (.seq (.block 5 (.ops 24 false [
                   ⟨some 120, .val (.t 15), none⟩,
                   ⟨some 121, .val (.t 1), none⟩,
                   ⟨some 122, .val (.t 17), none⟩,
                   ⟨some 123, .indexS 4 (.t 121) (.t 122), none⟩,
                   ⟨some 124, .fieldA 1 (.t 123), none⟩,
                   ⟨some 125, .load (.t 124), none⟩,
                   ⟨some 126, .buildS 9 1 [(.string ⟨#[]⟩)] [(0, 1, (.t 125))], none⟩,
                   ⟨some 127, .blt .append #[95, 95] 95 [(.t 120), (.t 126)], none⟩,
                   ⟨some 15, .val (.t 127), none⟩] []))
                 (.ops 23 false [
                  ⟨some 118, .val (.t 17), none⟩,
                  ⟨some 119, .bin .add (.t 118) (.c (.int .i64 1)), none⟩,
                  ⟨some 17, .val (.t 119), none⟩] []))))))
            (.seq (.seq (.ops 25 false [
               ⟨some 18, .val (.c (.int .i64 0)), none⟩] [])
              (.block 6 (.loop (.seq (.seq (.ops 26 false [
                   ⟨some 128, .val (.t 18), none⟩,
                   ⟨some 129, .val (.t 2), none⟩,
                   ⟨some 130, .len (.t 129), none⟩,
                   ⟨some 131, .bin .lss (.t 128) (.t 130), none⟩] [])
                  (.cond (.t 131) (.skip)
                   (.exit 6)))
                 (.seq (.block 7 (.ops 28 false [
                    ⟨some 134, .val (.t 15), none⟩,
                    ⟨some 135, .val (.t 2), none⟩,
                    ⟨some 136, .val (.t 18), none⟩,
                    ⟨some 137, .indexS 4 (.t 135) (.t 136), none⟩,
                    ⟨some 138, .fieldA 1 (.t 137), none⟩,
                    ⟨some 139, .load (.t 138), none⟩,
                    ⟨some 140, .buildS 9 1 [(.string ⟨#[]⟩)] [(0, 1, (.t 139))], none⟩,
                    ⟨some 141, .blt .append #[95, 95] 95 [(.t 134), (.t 140)], none⟩,
                    ⟨some 15, .val (.t 141), none⟩] []))
                  (.ops 27 false [
                   ⟨some 132, .val (.t 18), none⟩,
                   ⟨some 133, .bin .add (.t 132) (.c (.int .i64 1)), none⟩,
                   ⟨some 18, .val (.t 133), none⟩] []))))))
             (.seq (.ops 29 false [
               ⟨some 19, .val (.c (.slice none 0 0)), none⟩] [])
              (.seq (.seq (.ops 30 false [
                 ⟨some 20, .val (.c (.int .i64 0)), none⟩] [])
                (.block 8 (.loop (.seq (.seq (.ops 31 false [
                     ⟨some 142, .val (.t 20), none⟩,
                     ⟨some 143, .val (.t 15), none⟩,
                     ⟨some 144, .len (.t 143), none⟩,
                     ⟨some 145, .bin .lss (.t 142) (.t 144), none⟩] [])
                    (.cond (.t 145) (.skip)
                     (.exit 8)))
                   (.seq (.block 9 (.seq (.ops 33 false [
                       ⟨some 149, .val (.t 9), none⟩,
                       ⟨some 150, .val (.t 15), none⟩,
                       ⟨some 151, .val (.t 20), none⟩,
                       ⟨some 152, .indexS 1 (.t 150) (.t 151), none⟩,
                       ⟨some 153, .load (.t 152), none⟩,
                       ⟨some 154, .call 40 [(.t 149), (.t 153)], none⟩,
                       ⟨some 148, .val (.t 154), none⟩,
                       ⟨some 155, .extract 0 (.t 148), none⟩,
                       ⟨some 156, .extract 1 (.t 148), none⟩,
                       ⟨some 21, .val (.t 155), none⟩,
                       ⟨some 22, .val (.t 156), none⟩] [])
                      (.ops 34 false [
                       ⟨some 157, .val (.t 19), none⟩,
                       ⟨some 158, .val (.t 21), none⟩,
                       ⟨some 159, .buildS 91 1 [(.slice none 0 0)] [(0, 1, (.t 158))], none⟩,
                       ⟨some 160, .blt .append #[98, 98] 98 [(.t 157), (.t 159)], none⟩,
                       ⟨some 19, .val (.t 160), none⟩] [])))
                    (.ops 32 false [
                     ⟨some 146, .val (.t 20), none⟩,
                     ⟨some 147, .bin .add (.t 146) (.c (.int .i64 1)), none⟩,
                     ⟨some 20, .val (.t 147), none⟩] []))))))
               (.seq (.ops 35 false [
                 ⟨some 161, .val (.t 9), none⟩,
                 ⟨some 162, .call 41 [(.t 161)], none⟩,
                 ⟨some 23, .val (.t 162), none⟩] [])
                (.seq (.seq (.ops 36 false [
                   ⟨some 24, .val (.c (.int .i64 0)), none⟩] [])
                  (.block 10 (.loop (.seq (.seq (.ops 37 false [
                       ⟨some 163, .val (.t 24), none⟩,
                       ⟨some 164, .val (.t 2), none⟩,
                       ⟨some 165, .len (.t 164), none⟩,
                       ⟨some 166, .bin .lss (.t 163) (.t 165), none⟩] [])
                      (.cond (.t 166) (.skip)
                       (.exit 10)))
                     (.seq (.block 11 (.seq (.ops 39 false [
                         ⟨some 169, .val (.t 2), none⟩,
                         ⟨some 170, .val (.t 24), none⟩,
                         ⟨some 171, .indexS 4 (.t 169) (.t 170), none⟩,
                         ⟨some 172, .fieldA 0 (.t 171), none⟩,
                         ⟨some 173, .load (.t 172), none⟩,
                         ⟨some 174, .bin .eql (.t 173) (.c (.int .i64 3)), none⟩] [])
                        (.cond (.t 174) (.ops 40 false [
                          ⟨some 175, .val (.t 9), none⟩,
                          ⟨some 176, .call 29 [(.t 175)], none⟩] [])
                         (.ops 41 true [
                          ⟨some 177, .val (.t 9), none⟩,
                          ⟨some 178, .val (.t 2), none⟩,
                          ⟨some 179, .val (.t 24), none⟩,
                          ⟨some 180, .indexS 4 (.t 178) (.t 179), none⟩,
                          ⟨some 181, .fieldA 1 (.t 180), none⟩,
                          ⟨some 182, .load (.t 181), none⟩,
                          ⟨some 183, .val (.t 2), none⟩,
                          ⟨some 184, .val (.t 24), none⟩,
                          ⟨some 185, .indexS 4 (.t 183) (.t 184), none⟩,
                          ⟨some 186, .fieldA 2 (.t 185), none⟩,
                          ⟨some 187, .load (.t 186), none⟩,
                          ⟨some 188, .call 39 [(.t 177), (.t 182), (.t 187)], none⟩] [([], []), ([], []), ([], []), ([1, 2], [1, 2]), ([3], [3]), ([4], [4]), ([], []), ([], []), ([6, 7], [6, 7]), ([8], [8]), ([9], [9]), ([0, 5, 10], [0, 5, 10])]))))
                      (.ops 38 false [
                       ⟨some 167, .val (.t 24), none⟩,
                       ⟨some 168, .bin .add (.t 167) (.c (.int .i64 1)), none⟩,
                       ⟨some 24, .val (.t 168), none⟩] []))))))
                 (.seq (.ops 42 false [
                   ⟨some 189, .val (.t 9), none⟩,
                   ⟨some 190, .val (.t 14), none⟩,
                   ⟨some 191, .call 30 [(.t 189), (.t 190)], none⟩,
                   ⟨some 25, .val (.t 191), none⟩] [])
                  (.seq (.ops 43 false [
                    ⟨some 192, .val (.t 9), none⟩,
                    ⟨some 193, .val (.t 14), none⟩,
                    ⟨some 194, .bin .add (.t 193) (.c (.int .i64 1)), none⟩,
                    ⟨some 195, .call 30 [(.t 192), (.t 194)], none⟩,
                    ⟨some 26, .val (.t 195), none⟩] [])
                   (.seq (.ops 44 false [
                     ⟨some 196, .val (.t 9), none⟩,
                     ⟨some 197, .call 41 [(.t 196)], none⟩,
                     ⟨some 27, .val (.t 197), none⟩] [])
                    (.seq (.seq (.ops 45 false [
                       ⟨some 28, .val (.c (.int .i64 0)), none⟩] [])
                      (.block 12 (.loop (.seq (.seq (.ops 46 false [
                           ⟨some 198, .val (.t 28), none⟩,
                           ⟨some 199, .val (.t 15), none⟩,
                           ⟨some 200, .len (.t 199), none⟩,
                           ⟨some 201, .bin .lss (.t 198) (.t 200), none⟩] [])
                          (.cond (.t 201) (.skip)
                           (.exit 12)))
                         (.seq (.block 13 (.seq (.ops 48 false [
                             ⟨some 205, .val (.t 9), none⟩,
                             ⟨some 206, .val (.t 15), none⟩,
                             ⟨some 207, .val (.t 28), none⟩,
                             ⟨some 208, .indexS 1 (.t 206) (.t 207), none⟩,
                             ⟨some 209, .load (.t 208), none⟩,
                             ⟨some 210, .call 40 [(.t 205), (.t 209)], none⟩,
                             ⟨some 204, .val (.t 210), none⟩,
                             ⟨some 211, .extract 0 (.t 204), none⟩,
                             ⟨some 212, .extract 1 (.t 204), none⟩,
                             ⟨some 29, .val (.t 211), none⟩,
                             ⟨some 30, .val (.t 212), none⟩] [])
                            (.seq (.ops 49 false [
                              ⟨some 214, .val (.t 11), none⟩,
                              ⟨some 215, .val (.t 15), none⟩,
                              ⟨some 216, .val (.t 28), none⟩,
                              ⟨some 217, .indexS 1 (.t 215) (.t 216), none⟩,
                              ⟨some 218, .load (.t 217), none⟩,
                              ⟨some 219, .call 40 [(.t 214), (.t 218)], none⟩,
                              ⟨some 213, .val (.t 219), none⟩,
                              ⟨some 220, .extract 0 (.t 213), none⟩,
                              ⟨some 221, .extract 1 (.t 213), none⟩,
                              ⟨some 31, .val (.t 220), none⟩,
                              ⟨some 32, .val (.t 221), none⟩] [])
                             (.seq (.ops 50 false [
                               ⟨some 223, .val (.t 8), none⟩,
                               ⟨some 224, .val (.t 15), none⟩,
                               ⟨some 225, .val (.t 28), none⟩,
                               ⟨some 226, .indexS 1 (.t 224) (.t 225), none⟩,
                               ⟨some 227, .load (.t 226), none⟩,
                               ⟨some 228, .call 42 [(.t 223), (.t 227)], none⟩,
                               ⟨some 222, .val (.t 228), none⟩,
                               ⟨some 229, .extract 0 (.t 222), none⟩,
                               ⟨some 230, .extract 1 (.t 222), none⟩,
                               ⟨some 33, .val (.t 229), none⟩,
                               ⟨some 34, .val (.t 230), none⟩] [])
                              (.seq (.ops 51 false [
                                ⟨some 231, .val (.t 29), none⟩,
                                ⟨some 232, .val (.t 19), none⟩,
                                ⟨some 233, .val (.t 28), none⟩,
                                ⟨some 234, .indexS 1 (.t 232) (.t 233), none⟩,
                                ⟨some 235, .load (.t 234), none⟩,
                                ⟨some 236, .call 43 [(.t 231), (.t 235)], none⟩,
                                ⟨some 237, .not (.t 236), none⟩,
                                ⟨some 238, .val (.t 237), none⟩,
                                ⟨some 239, .val (.t 31), some (238, false)⟩,
                                ⟨some 240, .val (.t 33), some (238, false)⟩,
                                ⟨some 241, .call 43 [(.t 239), (.t 240)], some (238, false)⟩,
                                ⟨some 242, .not (.t 241), some (238, false)⟩,
                                ⟨some 243, .pick (.t 238) (.c (.bool true)) (.t 242), none⟩] [])
                               (.cond (.t 243) (.seq (.ops 52 false [
                                  ⟨some 6, .val (.c (.bool false)), none⟩] [])
                                 (.ret))
                                (.skip)))))))
                          (.ops 47 false [
                           ⟨some 202, .val (.t 28), none⟩,
                           ⟨some 203, .bin .add (.t 202) (.c (.int .i64 1)), none⟩,
                           ⟨some 28, .val (.t 203), none⟩] []))))))
                     (.seq (.ops 53 false [
                       ⟨some 244, .val (.t 9), none⟩,
                       ⟨some 245, .call 29 [(.t 244)], none⟩,
                       ⟨some 35, .val (.t 245), none⟩] [])
                      (.seq (.ops 54 false [
                        ⟨some 246, .val (.t 11), none⟩,
                        ⟨some 247, .call 41 [(.t 246)], none⟩,
                        ⟨some 36, .val (.t 247), none⟩] [])
                       (.seq (.ops 55 false [
                         ⟨some 248, .val (.t 25), none⟩,
                         ⟨some 249, .bin .eql (.t 248) (.c (.int .i64 0)), none⟩,
                         ⟨some 250, .val (.t 249), none⟩,
                         ⟨some 251, .val (.t 26), some (250, true)⟩,
                         ⟨some 252, .bin .eql (.t 251) (.c (.int .i64 72)), some (250, true)⟩,
                         ⟨some 253, .pick (.t 250) (.t 252) (.c (.bool false)), none⟩,
                         ⟨some 254, .val (.t 253), none⟩,
                         ⟨some 255, .val (.t 35), some (254, true)⟩,
                         ⟨some 256, .val (.t 14), some (254, true)⟩,
                         ⟨some 257, .bin .add (.t 256) (.c (.int .i64 1)), some (254, true)⟩,
                         ⟨some 258, .bin .eql (.t 255) (.t 257), some (254, true)⟩,
                         ⟨some 259, .pick (.t 254) (.t 258) (.c (.bool false)), none⟩,
                         ⟨some 260, .val (.t 259), none⟩,
                         ⟨some 261, .val (.t 23), some (260, true)⟩,
                         ⟨some 262, .val (.t 27), some (260, true)⟩,
                         ⟨some 263, .call 44 [(.t 261), (.t 262)], some (260, true)⟩,
                         ⟨some 264, .pick (.t 260) (.t 263) (.c (.bool false)), none⟩,
                         ⟨some 265, .val (.t 264), none⟩,
                         ⟨some 266, .val (.t 36), some (265, true)⟩,
                         ⟨some 267, .len (.t 266), some (265, true)⟩,
                         ⟨some 268, .bin .eql (.t 267) (.c (.int .i64 0)), some (265, true)⟩,
                         ⟨some 269, .pick (.t 265) (.t 268) (.c (.bool false)), none⟩,
                         ⟨some 6, .val (.t 269), none⟩] [])
                        (.ret))))))))))))))))))))))))
def rs8 : List RR := [.tmp 6]
theorem fun8 : FunR Tryd.prog 8 rc8 rs8 270 := ⟨Tryd.f8, Tryd.func8, by kernel_rfl, by kernel_rfl, by kernel_rfl⟩
/-- (*causeway/store.State).Mark -/
def rc29 : RC :=
 .seq (.ops 0 false [
  ⟨some 2, .val (.c (.int .i64 0)), none⟩] [])
 (.seq (.ops 1 true [
   ⟨some 3, .val (.t 0), none⟩,
   ⟨some 4, .val (.t 0), none⟩,
   ⟨some 5, .nilCheck (.t 4), none⟩,
   ⟨some 6, .fieldA 4 (.t 5), none⟩,
   ⟨some 7, .load (.t 6), none⟩,
   ⟨some 8, .val (.t 0), none⟩,
   ⟨some 9, .nilCheck (.t 8), none⟩,
   ⟨some 10, .fieldA 3 (.t 9), none⟩,
   ⟨some 11, .load (.t 10), none⟩,
   ⟨some 12, .len (.t 11), none⟩,
   ⟨some 13, .buildS 3 1 [(.int .i64 0)] [(0, 1, (.t 12))], none⟩,
   ⟨some 14, .blt .append #[58, 58] 58 [(.t 7), (.t 13)], none⟩,
   ⟨some 15, .nilCheck (.t 3), none⟩,
   ⟨some 16, .fieldA 4 (.t 15), none⟩,
   ⟨none, .store 1 (.t 16) (.t 14), none⟩] [([], []), ([], []), ([1], [1]), ([2], [2]), ([3], [3]), ([], []), ([5], [5]), ([6], [6]), ([7], [7]), ([8], [8]), ([9], [9]), ([4, 10], [4, 10]), ([0, 0, 1, 2, 3, 4, 5, 6, 7, 8, 9, 10, 11], [0]), ([12, 0, 1, 2, 3, 4, 5, 6, 7, 8, 9, 10, 11], [12]), ([13, 11, 11, 0, 1, 2, 3, 4, 5, 6, 7, 8, 9, 10, 11], [11, 13])])
  (.seq (.ops 2 false [
    ⟨some 17, .val (.t 0), none⟩,
    ⟨some 18, .nilCheck (.t 17), none⟩,
    ⟨some 19, .fieldA 4 (.t 18), none⟩,
    ⟨some 20, .load (.t 19), none⟩,
    ⟨some 21, .len (.t 20), none⟩,
    ⟨some 22, .bin .sub (.t 21) (.c (.int .i64 1)), none⟩,
    ⟨some 2, .val (.t 22), none⟩] [])
   (.ret)))
def rs29 : List RR := [.tmp 2]
theorem fun29 : FunR Tryd.prog 29 rc29 rs29 23 := ⟨Tryd.f29, Tryd.func29, by kernel_rfl, by kernel_rfl, by kernel_rfl⟩
/-- (*causeway/store.State).Back -/
def rc30 : RC :=
 .seq (.ops 0 false [
  ⟨some 4, .val (.c (.int .i64 0)), none⟩] [])
 (.seq (.seq (.ops 1 false [
    ⟨some 8, .val (.t 1), none⟩,
    ⟨some 9, .bin .lss (.t 8) (.c (.int .i64 0)), none⟩,
    ⟨some 10, .val (.t 9), none⟩,
    ⟨some 11, .val (.t 1), some (10, false)⟩,
    ⟨some 12, .val (.t 0), some (10, false)⟩,
    ⟨some 13, .nilCheck (.t 12), some (10, false)⟩,
    ⟨some 14, .fieldA 4 (.t 13), some (10, false)⟩,
    ⟨some 15, .load (.t 14), some (10, false)⟩,
    ⟨some 16, .len (.t 15), some (10, false)⟩,
    ⟨some 17, .bin .geq (.t 11) (.t 16), some (10, false)⟩,
    ⟨some 18, .pick (.t 10) (.c (.bool true)) (.t 17), none⟩] [])
   (.cond (.t 18) (.seq (.ops 2 false [
      ⟨some 4, .val (.c (.int .i64 72)), none⟩] [])
     (.ret))
    (.skip)))
  (.seq (.ops 3 false [
    ⟨some 19, .val (.t 0), none⟩,
    ⟨some 20, .nilCheck (.t 19), none⟩,
    ⟨some 21, .fieldA 4 (.t 20), none⟩,
    ⟨some 22, .load (.t 21), none⟩,
    ⟨some 23, .val (.t 1), none⟩,
    ⟨some 24, .indexS 1 (.t 22) (.t 23), none⟩,
    ⟨some 25, .load (.t 24), none⟩,
    ⟨some 5, .val (.t 25), none⟩] [])
   (.seq (.seq (.ops 4 false [
      ⟨some 26, .val (.t 0), none⟩,
      ⟨some 27, .nilCheck (.t 26), none⟩,
      ⟨some 28, .fieldA 3 (.t 27), none⟩,
      ⟨some 29, .load (.t 28), none⟩,
      ⟨some 30, .len (.t 29), none⟩,
      ⟨some 31, .bin .sub (.t 30) (.c (.int .i64 1)), none⟩,
      ⟨some 6, .val (.t 31), none⟩] [])
     (.block 0 (.loop (.seq (.seq (.ops 5 false [
          ⟨some 32, .val (.t 6), none⟩,
          ⟨some 33, .val (.t 5), none⟩,
          ⟨some 34, .bin .geq (.t 32) (.t 33), none⟩] [])
         (.cond (.t 34) (.skip)
          (.exit 0)))
        (.seq (.block 1 (.seq (.ops 7 false [
            ⟨some 37, .val (.t 0), none⟩,
            ⟨some 38, .nilCheck (.t 37), none⟩,
            ⟨some 39, .fieldA 3 (.t 38), none⟩,
            ⟨some 40, .load (.t 39), none⟩,
            ⟨some 41, .val (.t 6), none⟩,
            ⟨some 42, .indexS 3 (.t 40) (.t 41), none⟩,
            ⟨some 43, .loadN 3 (.t 42), none⟩,
            ⟨some 7, .alloc 129 [(.string ⟨#[]⟩), (.slice none 0 0), (.bool false)], none⟩,
            ⟨none, .store 3 (.t 7) (.t 43), none⟩] [])
           (.seq (.ops 8 false [
             ⟨some 44, .fieldA 2 (.t 7), none⟩,
             ⟨some 45, .load (.t 44), none⟩] [])
            (.cond (.t 45) (.ops 9 true [
              ⟨some 46, .val (.t 0), none⟩,
              ⟨some 47, .nilCheck (.t 46), none⟩,
              ⟨some 48, .fieldA 2 (.t 47), none⟩,
              ⟨some 49, .load (.t 48), none⟩,
              ⟨some 50, .fieldA 0 (.t 7), none⟩,
              ⟨some 51, .load (.t 50), none⟩,
              ⟨some 52, .fieldA 1 (.t 7), none⟩,
              ⟨some 53, .load (.t 52), none⟩,
              ⟨none, .upd 124 (.t 49) (.t 51) (.t 53), none⟩] [([], []), ([0], [0]), ([1], [1]), ([2], [2]), ([], []), ([4], [4]), ([], []), ([6], [6]), ([3, 5, 7, 0, 1, 2, 3, 4, 5, 6, 7], [3, 5, 7])])
             (.ops 10 true [
              ⟨some 54, .val (.t 0), none⟩,
              ⟨some 55, .nilCheck (.t 54), none⟩,
              ⟨some 56, .fieldA 2 (.t 55), none⟩,
              ⟨some 57, .load (.t 56), none⟩,
              ⟨some 58, .fieldA 0 (.t 7), none⟩,
              ⟨some 59, .load (.t 58), none⟩,
              ⟨none, .blt .delete #[124, 9] 0 [(.t 57), (.t 59)], none⟩] [([], []), ([0], [0]), ([1], [1]), ([2], [2]), ([], []), ([4], [4]), ([3, 5], [3, 5])])))))
         (.ops 6 false [
          ⟨some 35, .val (.t 6), none⟩,
          ⟨some 36, .bin .sub (.t 35) (.c (.int .i64 1)), none⟩,
          ⟨some 6, .val (.t 36), none⟩] []))))))
    (.seq (.ops 11 false [
      ⟨some 60, .val (.t 0), none⟩,
      ⟨some 61, .val (.t 0), none⟩,
      ⟨some 62, .nilCheck (.t 61), none⟩,
      ⟨some 63, .fieldA 3 (.t 62), none⟩,
      ⟨some 64, .load (.t 63), none⟩,
      ⟨some 65, .val (.t 5), none⟩,
      ⟨some 66, .slice 3 (.t 64) none (some (.t 65)) none, none⟩,
      ⟨some 67, .nilCheck (.t 60), none⟩,
      ⟨some 68, .fieldA 3 (.t 67), none⟩,
      ⟨none, .store 1 (.t 68) (.t 66), none⟩] [])
     (.seq (.ops 12 false [
       ⟨some 69, .val (.t 0), none⟩,
       ⟨some 70, .val (.t 0), none⟩,
       ⟨some 71, .nilCheck (.t 70), none⟩,
       ⟨some 72, .fieldA 4 (.t 71), none⟩,
       ⟨some 73, .load (.t 72), none⟩,
       ⟨some 74, .val (.t 1), none⟩,
       ⟨some 75, .bin .add (.t 74) (.c (.int .i64 1)), none⟩,
       ⟨some 76, .slice 1 (.t 73) none (some (.t 75)) none, none⟩,
       ⟨some 77, .nilCheck (.t 69), none⟩,
       ⟨some 78, .fieldA 4 (.t 77), none⟩,
       ⟨none, .store 1 (.t 78) (.t 76), none⟩] [])
      (.seq (.ops 13 false [
        ⟨some 4, .val (.c (.int .i64 0)), none⟩] [])
       (.ret)))))))
def rs30 : List RR := [.tmp 4]
theorem fun30 : FunR Tryd.prog 30 rc30 rs30 79 := ⟨Tryd.f30, Tryd.func30, by kernel_rfl, by kernel_rfl, by kernel_rfl⟩
/-- causeway/causewaylaw07.awake -/
def rc36 : RC :=
 .seq (.ops 0 false [
  ⟨some 0, .val (.c (.bool false)), none⟩] [])
 (.seq (.ops 1 false [
   ⟨some 8, .call 45 [], none⟩,
   ⟨some 1, .val (.t 8), none⟩] [])
  (.seq (.seq (.ops 2 false [
     ⟨some 9, .val (.t 1), none⟩,
     ⟨some 10, .eqp .ptr false (.t 9) (.c (.pointer none)), none⟩] [])
    (.cond (.t 10) (.seq (.ops 3 false [
       ⟨some 0, .val (.c (.bool false)), none⟩] [])
      (.ret))
     (.skip)))
   (.seq (.ops 4 false [
     ⟨some 11, .val (.t 1), none⟩,
     ⟨some 12, .buildS 5 2 [(.int .u8 0), (.int .u8 0)] [(0, 1, (.c (.int .u8 1))), (1, 1, (.c (.int .u8 2)))], none⟩,
     ⟨some 13, .call 46 [(.t 11), (.c (.string ⟨#[97]⟩)), (.t 12)], none⟩,
     ⟨some 2, .val (.t 13), none⟩] [])
    (.seq (.ops 5 false [
      ⟨some 14, .val (.t 1), none⟩,
      ⟨some 15, .call 83 [(.t 14)], none⟩,
      ⟨some 3, .val (.t 15), none⟩] [])
     (.seq (.ops 6 false [
       ⟨some 17, .val (.t 1), none⟩,
       ⟨some 18, .iface 87 (.t 17), none⟩,
       ⟨some 19, .call 38 [(.t 18)], none⟩,
       ⟨some 16, .val (.t 19), none⟩,
       ⟨some 20, .extract 0 (.t 16), none⟩,
       ⟨some 21, .extract 1 (.t 16), none⟩,
       ⟨some 4, .val (.t 20), none⟩,
       ⟨some 5, .val (.t 21), none⟩] [])
      (.seq (.seq (.ops 7 false [
         ⟨some 22, .val (.t 4), none⟩,
         ⟨some 23, .eqp .ptr false (.t 22) (.c (.pointer none)), none⟩] [])
        (.cond (.t 23) (.seq (.ops 8 false [
           ⟨some 0, .val (.c (.bool false)), none⟩] [])
          (.ret))
         (.skip)))
       (.seq (.ops 9 false [
         ⟨some 25, .val (.t 4), none⟩,
         ⟨some 26, .call 40 [(.t 25), (.c (.string ⟨#[97]⟩))], none⟩,
         ⟨some 24, .val (.t 26), none⟩,
         ⟨some 27, .extract 0 (.t 24), none⟩,
         ⟨some 28, .extract 1 (.t 24), none⟩,
         ⟨some 6, .val (.t 27), none⟩,
         ⟨some 7, .val (.t 28), none⟩] [])
        (.seq (.ops 10 false [
          ⟨some 29, .val (.t 2), none⟩,
          ⟨some 30, .bin .eql (.t 29) (.c (.int .i64 0)), none⟩,
          ⟨some 31, .val (.t 30), none⟩,
          ⟨some 32, .val (.t 3), some (31, true)⟩,
          ⟨some 33, .bin .eql (.t 32) (.c (.int .i64 1)), some (31, true)⟩,
          ⟨some 34, .pick (.t 31) (.t 33) (.c (.bool false)), none⟩,
          ⟨some 35, .val (.t 34), none⟩,
          ⟨some 36, .val (.t 5), some (35, true)⟩,
          ⟨some 37, .bin .eql (.t 36) (.c (.int .i64 0)), some (35, true)⟩,
          ⟨some 38, .pick (.t 35) (.t 37) (.c (.bool false)), none⟩,
          ⟨some 39, .val (.t 38), none⟩,
          ⟨some 40, .val (.t 7), some (39, true)⟩,
          ⟨some 41, .bin .eql (.t 40) (.c (.int .i64 0)), some (39, true)⟩,
          ⟨some 42, .pick (.t 39) (.t 41) (.c (.bool false)), none⟩,
          ⟨some 43, .val (.t 42), none⟩,
          ⟨some 44, .val (.t 6), some (43, true)⟩,
          ⟨some 45, .cvt 91 9 (.t 44), some (43, true)⟩,
          ⟨some 46, .eqp .str false (.t 45) (.c (.string ⟨#[1, 2]⟩)), some (43, true)⟩,
          ⟨some 47, .pick (.t 43) (.t 46) (.c (.bool false)), none⟩,
          ⟨some 0, .val (.t 47), none⟩] [])
         (.ret)))))))))
def rs36 : List RR := [.tmp 0]
theorem fun36 : FunR Tryd.prog 36 rc36 rs36 48 := ⟨Tryd.f36, Tryd.func36, by kernel_rfl, by kernel_rfl, by kernel_rfl⟩
/-- causeway/causewaylaw07.table -/
def rc37 : RC :=
 .seq (.ops 0 false [
  ⟨some 2, .val (.c (.pointer none)), none⟩] [])
 (.seq (.ops 1 false [
   ⟨some 7, .call 45 [], none⟩,
   ⟨some 3, .val (.t 7), none⟩] [])
  (.seq (.seq (.ops 2 false [
     ⟨some 8, .val (.t 3), none⟩,
     ⟨some 9, .eqp .ptr false (.t 8) (.c (.pointer none)), none⟩] [])
    (.cond (.t 9) (.seq (.ops 3 false [
       ⟨some 2, .val (.c (.pointer none)), none⟩] [])
      (.ret))
     (.skip)))
   (.seq (.seq (.ops 4 false [
      ⟨some 4, .val (.c (.int .i64 0)), none⟩] [])
     (.block 0 (.loop (.seq (.seq (.ops 5 false [
          ⟨some 10, .val (.t 4), none⟩,
          ⟨some 11, .val (.t 0), none⟩,
          ⟨some 12, .len (.t 11), none⟩,
          ⟨some 13, .bin .lss (.t 10) (.t 12), none⟩] [])
         (.cond (.t 13) (.skip)
          (.exit 0)))
        (.seq (.block 1 (.seq (.ops 7 true [
            ⟨some 16, .val (.t 3), none⟩,
            ⟨some 17, .val (.t 0), none⟩,
            ⟨some 18, .val (.t 4), none⟩,
            ⟨some 19, .indexS 2 (.t 17) (.t 18), none⟩,
            ⟨some 20, .fieldA 0 (.t 19), none⟩,
            ⟨some 21, .load (.t 20), none⟩,
            ⟨some 22, .val (.t 0), none⟩,
            ⟨some 23, .val (.t 4), none⟩,
            ⟨some 24, .indexS 2 (.t 22) (.t 23), none⟩,
            ⟨some 25, .fieldA 1 (.t 24), none⟩,
            ⟨some 26, .load (.t 25), none⟩,
            ⟨some 27, .call 46 [(.t 16), (.t 21), (.t 26)], none⟩,
            ⟨some 5, .val (.t 27), none⟩] [([], []), ([], []), ([], []), ([1, 2], [1, 2]), ([3], [3]), ([4], [4]), ([], []), ([], []), ([6, 7], [6, 7]), ([8], [8]), ([9], [9]), ([0, 5, 10], [0, 5, 10]), ([11, 11, 0, 1, 2, 3, 4, 5, 6, 7, 8, 9, 10, 11], [11])])
           (.seq (.ops 8 true [
             ⟨some 28, .val (.t 0), none⟩,
             ⟨some 29, .val (.t 4), none⟩,
             ⟨some 30, .indexS 2 (.t 28) (.t 29), none⟩,
             ⟨some 31, .fieldA 0 (.t 30), none⟩,
             ⟨some 32, .load (.t 31), none⟩,
             ⟨some 33, .val (.t 0), none⟩,
             ⟨some 34, .val (.t 4), none⟩,
             ⟨some 35, .indexS 2 (.t 33) (.t 34), none⟩,
             ⟨some 36, .fieldA 1 (.t 35), none⟩,
             ⟨some 37, .load (.t 36), none⟩,
             ⟨some 38, .call 84 [(.t 32), (.t 37)], none⟩,
             ⟨some 6, .val (.t 38), none⟩] [([], []), ([], []), ([0, 1], [0, 1]), ([2], [2]), ([3], [3]), ([], []), ([], []), ([5, 6], [5, 6]), ([7], [7]), ([8], [8]), ([4, 9], [4, 9]), ([10, 10, 0, 1, 2, 3, 4, 5, 6, 7, 8, 9, 10], [10])])
            (.seq (.ops 9 false [
              ⟨some 39, .val (.t 5), none⟩,
              ⟨some 40, .val (.t 6), none⟩,
              ⟨some 41, .bin .neq (.t 39) (.t 40), none⟩] [])
             (.cond (.t 41) (.seq (.ops 10 false [
                ⟨some 2, .val (.c (.pointer none)), none⟩] [])
               (.ret))
              (.skip))))))
         (.ops 6 false [
          ⟨some 14, .val (.t 4), none⟩,
          ⟨some 15, .bin .add (.t 14) (.c (.int .i64 1)), none⟩,
          ⟨some 4, .val (.t 15), none⟩] []))))))
    (.seq (.ops 11 false [
      ⟨some 42, .val (.t 3), none⟩,
      ⟨some 2, .val (.t 42), none⟩] [])
     (.ret)))))
def rs37 : List RR := [.tmp 2]
theorem fun37 : FunR Tryd.prog 37 rc37 rs37 43 := ⟨Tryd.f37, Tryd.func37, by kernel_rfl, by kernel_rfl, by kernel_rfl⟩
/-- causeway/store.Over -/
def rc38 : RC :=
 .seq (.ops 0 false [
  ⟨some 2, .val (.c (.pointer none)), none⟩,
  ⟨some 3, .val (.c (.int .i64 0)), none⟩] [])
 (.seq (.seq (.ops 1 false [
    ⟨some 4, .val (.t 0), none⟩,
    ⟨some 5, .eqp .ifc false (.t 4) (.c .nilIface), none⟩] [])
   (.cond (.t 5) (.seq (.ops 2 false [
      ⟨some 2, .val (.c (.pointer none)), none⟩,
      ⟨some 3, .val (.c (.int .i64 1)), none⟩] [])
     (.ret))
    (.skip)))
  (.seq (.ops 3 false [
    ⟨some 6, .val (.t 0), none⟩,
    ⟨some 7, .mkMap 124, none⟩,
    ⟨some 8, .mkMap 124, none⟩,
    ⟨some 9, .build [.nilIface, (.map none), (.map none), (.slice none 0 0), (.slice none 0 0)] [(0, 1, (.t 6)), (1, 1, (.t 7)), (2, 1, (.t 8))], none⟩,
    ⟨some 10, .box 127 (.t 9), none⟩,
    ⟨some 2, .val (.t 10), none⟩,
    ⟨some 3, .val (.c (.int .i64 0)), none⟩] [])
   (.ret)))
def rs38 : List RR := [.tmp 2, .tmp 3]
theorem fun38 : FunR Tryd.prog 38 rc38 rs38 11 := ⟨Tryd.f38, Tryd.func38, by kernel_rfl, by kernel_rfl, by kernel_rfl⟩
/-- (*causeway/store.State).Put -/
def rc39 : RC :=
 .seq (.ops 0 false [
  ⟨some 6, .val (.c (.int .i64 0)), none⟩] [])
 (.seq (.seq (.ops 1 false [
    ⟨some 11, .val (.t 1), none⟩,
    ⟨some 12, .val (.t 2), none⟩,
    ⟨some 13, .call 85 [(.t 11), (.t 12)], none⟩,
    ⟨some 7, .val (.t 13), none⟩] [])
   (.seq (.ops 2 false [
     ⟨some 14, .val (.t 7), none⟩,
     ⟨some 15, .bin .neq (.t 14) (.c (.int .i64 0)), none⟩] [])
    (.cond (.t 15) (.seq (.ops 3 false [
       ⟨some 16, .val (.t 7), none⟩,
       ⟨some 6, .val (.t 16), none⟩] [])
      (.ret))
     (.skip))))
  (.seq (.seq (.ops 4 false [
     ⟨some 17, .val (.t 0), none⟩,
     ⟨some 18, .val (.t 1), none⟩,
     ⟨some 19, .call 86 [(.t 17), (.t 18)], none⟩,
     ⟨some 8, .val (.t 19), none⟩] [])
    (.seq (.ops 5 false [
      ⟨some 20, .val (.t 8), none⟩,
      ⟨some 21, .bin .neq (.t 20) (.c (.int .i64 0)), none⟩] [])
     (.cond (.t 21) (.seq (.ops 6 false [
        ⟨some 22, .val (.t 8), none⟩,
        ⟨some 6, .val (.t 22), none⟩] [])
       (.ret))
      (.skip))))
   (.seq (.ops 7 false [
     ⟨some 24, .val (.t 0), none⟩,
     ⟨some 25, .nilCheck (.t 24), none⟩,
     ⟨some 26, .fieldA 2 (.t 25), none⟩,
     ⟨some 27, .load (.t 26), none⟩,
     ⟨some 28, .val (.t 1), none⟩,
     ⟨some 29, .look 124 (.t 27) (.t 28) true, none⟩,
     ⟨some 23, .val (.t 29), none⟩,
     ⟨some 30, .extract 0 (.t 23), none⟩,
     ⟨some 31, .extract 1 (.t 23), none⟩,
     ⟨some 9, .val (.t 30), none⟩,
     ⟨some 10, .val (.t 31), none⟩] [])
    (.seq (.ops 8 false [
      ⟨some 32, .val (.t 0), none⟩,
      ⟨some 33, .val (.t 0), none⟩,
      ⟨some 34, .nilCheck (.t 33), none⟩,
      ⟨some 35, .fieldA 3 (.t 34), none⟩,
      ⟨some 36, .load (.t 35), none⟩,
      ⟨some 37, .val (.t 1), none⟩,
      ⟨some 38, .val (.t 9), none⟩,
      ⟨some 39, .val (.t 10), none⟩,
      ⟨some 40, .build [(.string ⟨#[]⟩), (.slice none 0 0), (.bool false)] [(0, 1, (.t 37)), (1, 1, (.t 38)), (2, 1, (.t 39))], none⟩,
      ⟨some 41, .buildS 129 1 [(.string ⟨#[]⟩), (.slice none 0 0), (.bool false)] [(0, 3, (.t 40))], none⟩,
      ⟨some 42, .blt .append #[125, 125] 125 [(.t 36), (.t 41)], none⟩,
      ⟨some 43, .nilCheck (.t 32), none⟩,
      ⟨some 44, .fieldA 3 (.t 43), none⟩,
      ⟨none, .store 1 (.t 44) (.t 42), none⟩] [])
     (.seq (.ops 9 true [
       ⟨some 45, .val (.t 0), none⟩,
       ⟨some 46, .nilCheck (.t 45), none⟩,
       ⟨some 47, .fieldA 2 (.t 46), none⟩,
       ⟨some 48, .load (.t 47), none⟩,
       ⟨some 49, .val (.t 1), none⟩,
       ⟨some 50, .val (.t 2), none⟩,
       ⟨some 51, .call 87 [(.t 50)], none⟩,
       ⟨none, .upd 124 (.t 48) (.t 49) (.t 51), none⟩] [([], []), ([0], [0]), ([1], [1]), ([2], [2]), ([], []), ([], []), ([5], [5]), ([3, 4, 6, 6, 0, 1, 2, 3, 4, 5, 6], [3, 4, 6])])
      (.seq (.ops 10 false [
        ⟨some 6, .val (.c (.int .i64 0)), none⟩] [])
       (.ret)))))))
def rs39 : List RR := [.tmp 6]
theorem fun39 : FunR Tryd.prog 39 rc39 rs39 52 := ⟨Tryd.f39, Tryd.func39, by kernel_rfl, by kernel_rfl, by kernel_rfl⟩
/-- (*causeway/store.State).Get -/
def rc40 : RC :=
 .seq (.ops 0 false [
  ⟨some 4, .val (.c (.slice none 0 0)), none⟩,
  ⟨some 5, .val (.c (.int .i64 0)), none⟩] [])
 (.seq (.seq (.ops 1 false [
    ⟨some 8, .val (.t 1), none⟩,
    ⟨some 9, .call 85 [(.t 8), (.c (.slice none 0 0))], none⟩,
    ⟨some 6, .val (.t 9), none⟩] [])
   (.seq (.ops 2 false [
     ⟨some 10, .val (.t 6), none⟩,
     ⟨some 11, .bin .neq (.t 10) (.c (.int .i64 0)), none⟩] [])
    (.cond (.t 11) (.seq (.ops 3 false [
       ⟨some 12, .val (.t 6), none⟩,
       ⟨some 4, .val (.c (.slice none 0 0)), none⟩,
       ⟨some 5, .val (.t 12), none⟩] [])
      (.ret))
     (.skip))))
  (.seq (.seq (.ops 4 false [
     ⟨some 13, .val (.t 0), none⟩,
     ⟨some 14, .val (.t 1), none⟩,
     ⟨some 15, .call 86 [(.t 13), (.t 14)], none⟩,
     ⟨some 7, .val (.t 15), none⟩] [])
    (.seq (.ops 5 false [
      ⟨some 16, .val (.t 7), none⟩,
      ⟨some 17, .bin .neq (.t 16) (.c (.int .i64 0)), none⟩] [])
     (.cond (.t 17) (.seq (.ops 6 false [
        ⟨some 18, .val (.t 7), none⟩,
        ⟨some 4, .val (.c (.slice none 0 0)), none⟩,
        ⟨some 5, .val (.t 18), none⟩] [])
       (.ret))
      (.skip))))
   (.seq (.ops 7 false [
     ⟨some 19, .val (.t 0), none⟩,
     ⟨some 20, .val (.t 1), none⟩,
     ⟨some 21, .call 88 [(.t 19), (.t 20)], none⟩,
     ⟨some 22, .call 87 [(.t 21)], none⟩,
     ⟨some 4, .val (.t 22), none⟩,
     ⟨some 5, .val (.c (.int .i64 0)), none⟩] [])
    (.ret))))
def rs40 : List RR := [.tmp 4, .tmp 5]
theorem fun40 : FunR Tryd.prog 40 rc40 rs40 23 := ⟨Tryd.f40, Tryd.func40, by kernel_rfl, by kernel_rfl, by kernel_rfl⟩
/-- (*causeway/store.State).Changes -/
def rc41 : RC :=
 .seq (.ops 0 false [
  ⟨some 2, .val (.c (.slice none 0 0)), none⟩] [])
 (.seq (.ops 1 false [
   ⟨some 3, .val (.c (.slice none 0 0)), none⟩] [])
  (.seq (.seq (.ops 2 false [
     ⟨some 7, .val (.t 0), none⟩,
     ⟨some 8, .call 89 [(.t 7)], none⟩,
     ⟨some 9, .len (.t 8), none⟩,
     ⟨some 10, .val (.c (.int .i64 0)), none⟩] [])
    (.block 0 (.loop (.seq (.ops 3 false [
        ⟨some 11, .bin .lss (.t 10) (.t 9), none⟩] [])
       (.seq (.cond (.t 11) (.skip)
         (.exit 0))
        (.seq (.block 1 (.seq (.ops 4 false [
            ⟨some 12, .indexS 1 (.t 8) (.t 10), none⟩,
            ⟨some 13, .load (.t 12), none⟩,
            ⟨some 5, .val (.t 13), none⟩] [])
           (.seq (.ops 5 false [
             ⟨some 14, .val (.t 0), none⟩,
             ⟨some 15, .val (.t 5), none⟩,
             ⟨some 16, .call 88 [(.t 14), (.t 15)], none⟩,
             ⟨some 6, .val (.t 16), none⟩] [])
            (.seq (.ops 6 false [
              ⟨some 17, .val (.t 6), none⟩,
              ⟨some 18, .val (.t 0), none⟩,
              ⟨some 19, .nilCheck (.t 18), none⟩,
              ⟨some 20, .fieldA 1 (.t 19), none⟩,
              ⟨some 21, .load (.t 20), none⟩,
              ⟨some 22, .val (.t 5), none⟩,
              ⟨some 23, .look 124 (.t 21) (.t 22) false, none⟩,
              ⟨some 24, .call 90 [(.t 17), (.t 23)], none⟩,
              ⟨some 25, .not (.t 24), none⟩] [])
             (.cond (.t 25) (.ops 7 false [
               ⟨some 26, .val (.t 3), none⟩,
               ⟨some 27, .val (.t 5), none⟩,
               ⟨some 28, .val (.t 0), none⟩,
               ⟨some 29, .nilCheck (.t 28), none⟩,
               ⟨some 30, .fieldA 1 (.t 29), none⟩,
               ⟨some 31, .load (.t 30), none⟩,
               ⟨some 32, .val (.t 5), none⟩,
               ⟨some 33, .look 124 (.t 31) (.t 32) false, none⟩,
               ⟨some 34, .call 87 [(.t 33)], none⟩,
               ⟨some 35, .val (.t 6), none⟩,
               ⟨some 36, .call 87 [(.t 35)], none⟩,
               ⟨some 37, .build [(.string ⟨#[]⟩), (.slice none 0 0), (.slice none 0 0)] [(0, 1, (.t 27)), (1, 1, (.t 34)), (2, 1, (.t 36))], none⟩,
               ⟨some 38, .buildS 150 1 [(.string ⟨#[]⟩), (.slice none 0 0), (.slice none 0 0)] [(0, 3, (.t 37))], none⟩,
               ⟨some 39, .blt .append #[101, 101] 101 [(.t 26), (.t 38)], none⟩,
               ⟨some 3, .val (.t 39), none⟩] [])
              (.skip))))))
         (.ops 8 false [
          ⟨some 40, .bin .add (.t 10) (.c (.int .i64 1)), none⟩,
          ⟨some 10, .val (.t 40), none⟩] [])))))))
   (.seq (.ops 9 false [
     ⟨some 41, .val (.t 3), none⟩,
     ⟨some 2, .val (.t 41), none⟩] [])
    (.ret))))
def rs41 : List RR := [.tmp 2]
theorem fun41 : FunR Tryd.prog 41 rc41 rs41 42 := ⟨Tryd.f41, Tryd.func41, by kernel_rfl, by kernel_rfl, by kernel_rfl⟩
/-- (*causeway/store.Table).Find -/
def rc42 : RC :=
 .seq (.ops 0 false [
  ⟨some 4, .val (.c (.slice none 0 0)), none⟩,
  ⟨some 5, .val (.c (.int .i64 0)), none⟩] [])
 (.seq (.seq (.ops 1 false [
    ⟨some 7, .val (.t 1), none⟩,
    ⟨some 8, .call 85 [(.t 7), (.c (.slice none 0 0))], none⟩,
    ⟨some 6, .val (.t 8), none⟩] [])
   (.seq (.ops 2 false [
     ⟨some 9, .val (.t 6), none⟩,
     ⟨some 10, .bin .neq (.t 9) (.c (.int .i64 0)), none⟩] [])
    (.cond (.t 10) (.seq (.ops 3 false [
       ⟨some 11, .val (.t 6), none⟩,
       ⟨some 4, .val (.c (.slice none 0 0)), none⟩,
       ⟨some 5, .val (.t 11), none⟩] [])
      (.ret))
     (.skip))))
  (.seq (.ops 4 false [
    ⟨some 12, .val (.t 0), none⟩,
    ⟨some 13, .nilCheck (.t 12), none⟩,
    ⟨some 14, .fieldA 0 (.t 13), none⟩,
    ⟨some 15, .load (.t 14), none⟩,
    ⟨some 16, .val (.t 1), none⟩,
    ⟨some 17, .look 124 (.t 15) (.t 16) false, none⟩,
    ⟨some 18, .call 87 [(.t 17)], none⟩,
    ⟨some 4, .val (.t 18), none⟩,
    ⟨some 5, .val (.c (.int .i64 0)), none⟩] [])
   (.ret)))
def rs42 : List RR := [.tmp 4, .tmp 5]
theorem fun42 : FunR Tryd.prog 42 rc42 rs42 19 := ⟨Tryd.f42, Tryd.func42, by kernel_rfl, by kernel_rfl, by kernel_rfl⟩
/-- causeway/causewaylaw07.same -/
def rc43 : RC :=
 .seq (.ops 0 false [
  ⟨some 4, .val (.c (.bool false)), none⟩] [])
 (.seq (.ops 1 false [
   ⟨some 5, .val (.t 0), none⟩,
   ⟨some 6, .cvt 91 9 (.t 5), none⟩,
   ⟨some 7, .val (.t 1), none⟩,
   ⟨some 8, .cvt 91 9 (.t 7), none⟩,
   ⟨some 9, .eqp .str false (.t 6) (.t 8), none⟩,
   ⟨some 4, .val (.t 9), none⟩] [])
  (.ret))
def rs43 : List RR := [.tmp 4]
theorem fun43 : FunR Tryd.prog 43 rc43 rs43 10 := ⟨Tryd.f43, Tryd.func43, by kernel_rfl, by kernel_rfl, by kernel_rfl⟩
/-- causeway/causewaylaw07.sameChanges -/
def rc44 : RC :=
 .seq (.ops 0 false [
  ⟨some 4, .val (.c (.bool false)), none⟩] [])
 (.seq (.seq (.ops 1 false [
    ⟨some 6, .val (.t 0), none⟩,
    ⟨some 7, .len (.t 6), none⟩,
    ⟨some 8, .val (.t 1), none⟩,
    ⟨some 9, .len (.t 8), none⟩,
    ⟨some 10, .bin .neq (.t 7) (.t 9), none⟩] [])
   (.cond (.t 10) (.seq (.ops 2 false [
      ⟨some 4, .val (.c (.bool false)), none⟩] [])
     (.ret))
    (.skip)))
  (.seq (.seq (.ops 3 false [
     ⟨some 5, .val (.c (.int .i64 0)), none⟩] [])
    (.block 0 (.loop (.seq (.seq (.ops 4 false [
         ⟨some 11, .val (.t 5), none⟩,
         ⟨some 12, .val (.t 0), none⟩,
         ⟨some 13, .len (.t 12), none⟩,
         ⟨some 14, .bin .lss (.t 11) (.t 13), none⟩] [])
        (.cond (.t 14) (.skip)
         (.exit 0)))
       (.seq (.block 1 (.seq (.ops 6 true [
           ⟨some 17, .val (.t 0), none⟩,
           ⟨some 18, .val (.t 5), none⟩,
           ⟨some 19, .indexS 3 (.t 17) (.t 18), none⟩,
           ⟨some 20, .fieldA 0 (.t 19), none⟩,
           ⟨some 21, .load (.t 20), none⟩,
           ⟨some 22, .val (.t 1), none⟩,
           ⟨some 23, .val (.t 5), none⟩,
           ⟨some 24, .indexS 3 (.t 22) (.t 23), none⟩,
           ⟨some 25, .fieldA 0 (.t 24), none⟩,
           ⟨some 26, .load (.t 25), none⟩,
           ⟨some 27, .eqp .str true (.t 21) (.t 26), none⟩,
           ⟨some 28, .val (.t 27), none⟩,
           ⟨some 29, .val (.t 0), some (28, false)⟩,
           ⟨some 30, .val (.t 5), some (28, false)⟩,
           ⟨some 31, .indexS 3 (.t 29) (.t 30), some (28, false)⟩,
           ⟨some 32, .fieldA 1 (.t 31), some (28, false)⟩,
           ⟨some 33, .load (.t 32), some (28, false)⟩,
           ⟨some 34, .val (.t 1), some (28, false)⟩,
           ⟨some 35, .val (.t 5), some (28, false)⟩,
           ⟨some 36, .indexS 3 (.t 34) (.t 35), some (28, false)⟩,
           ⟨some 37, .fieldA 1 (.t 36), some (28, false)⟩,
           ⟨some 38, .load (.t 37), some (28, false)⟩,
           ⟨some 39, .call 43 [(.t 33), (.t 38)], some (28, false)⟩,
           ⟨some 40, .not (.t 39), some (28, false)⟩,
           ⟨some 41, .pick (.t 28) (.c (.bool true)) (.t 40), none⟩,
           ⟨some 42, .val (.t 41), none⟩,
           ⟨some 43, .val (.t 0), some (42, false)⟩,
           ⟨some 44, .val (.t 5), some (42, false)⟩,
           ⟨some 45, .indexS 3 (.t 43) (.t 44), some (42, false)⟩,
           ⟨some 46, .fieldA 2 (.t 45), some (42, false)⟩,
           ⟨some 47, .load (.t 46), some (42, false)⟩,
           ⟨some 48, .val (.t 1), some (42, false)⟩,
           ⟨some 49, .val (.t 5), some (42, false)⟩,
           ⟨some 50, .indexS 3 (.t 48) (.t 49), some (42, false)⟩,
           ⟨some 51, .fieldA 2 (.t 50), some (42, false)⟩,
           ⟨some 52, .load (.t 51), some (42, false)⟩,
           ⟨some 53, .call 43 [(.t 47), (.t 52)], some (42, false)⟩,
           ⟨some 54, .not (.t 53), some (42, false)⟩,
           ⟨some 55, .pick (.t 42) (.c (.bool true)) (.t 54), none⟩] [([], []), ([], []), ([0, 1], [0, 1]), ([2], [2]), ([3], [3]), ([], []), ([], []), ([5, 6], [5, 6]), ([7], [7]), ([8], [8]), ([4, 9], [4, 9]), ([10], [10]), ([11], [11]), ([11], [11]), ([12, 13, 11], [11, 12, 13]), ([14, 11], [11, 14]), ([15, 11], [11, 15]), ([11], [11]), ([11], [11]), ([17, 18, 11], [11, 17, 18]), ([19, 11], [11, 19]), ([20, 11], [11, 20]), ([16, 21, 11, 11], [11, 16, 21]), ([22, 11], [11, 22]), ([11, 23], [11, 23]), ([24, 22], [24]), ([25], [25]), ([25], [25]), ([26, 27, 25], [25, 26, 27]), ([28, 25], [25, 28]), ([29, 25], [25, 29]), ([25], [25]), ([25], [25]), ([31, 32, 25], [25, 31, 32]), ([33, 25], [25, 33]), ([34, 25], [25, 34]), ([30, 35, 25, 25], [25, 30, 35]), ([36, 25], [25, 36]), ([25, 37], [25, 37])])
          (.cond (.t 55) (.seq (.ops 7 false [
             ⟨some 4, .val (.c (.bool false)), none⟩] [])
            (.ret))
           (.skip))))
        (.ops 5 false [
         ⟨some 15, .val (.t 5), none⟩,
         ⟨some 16, .bin .add (.t 15) (.c (.int .i64 1)), none⟩,
         ⟨some 5, .val (.t 16), none⟩] []))))))
   (.seq (.ops 8 false [
     ⟨some 4, .val (.c (.bool true)), none⟩] [])
    (.ret))))
def rs44 : List RR := [.tmp 4]
theorem fun44 : FunR Tryd.prog 44 rc44 rs44 56 := ⟨Tryd.f44, Tryd.func44, by kernel_rfl, by kernel_rfl, by kernel_rfl⟩
/-- causeway/store.NewTable -/
def rc45 : RC :=
 .seq (.ops 0 false [
  ⟨some 0, .val (.c (.pointer none)), none⟩] [])
 (.seq (.ops 1 false [
   ⟨some 1, .mkMap 124, none⟩,
   ⟨some 2, .call 91 [], none⟩,
   ⟨some 3, .mkMap 152, none⟩,
   ⟨some 4, .build [(.map none), (.pointer none), (.map none)] [(0, 1, (.t 1)), (1, 1, (.t 2)), (2, 1, (.t 3))], none⟩,
   ⟨some 5, .box 154 (.t 4), none⟩,
   ⟨some 0, .val (.t 5), none⟩] [])
  (.ret))
def rs45 : List RR := [.tmp 0]
theorem fun45 : FunR Tryd.prog 45 rc45 rs45 6 := ⟨Tryd.f45, Tryd.func45, by kernel_rfl, by kernel_rfl, by kernel_rfl⟩
/-- (*causeway/store.Table).Put -/
def rc46 : RC :=
 .seq (.ops 0 false [
  ⟨some 6, .val (.c (.int .i64 0)), none⟩] [])
 (.seq (.seq (.ops 1 false [
    ⟨some 8, .val (.t 1), none⟩,
    ⟨some 9, .val (.t 2), none⟩,
    ⟨some 10, .call 85 [(.t 8), (.t 9)], none⟩,
    ⟨some 7, .val (.t 10), none⟩] [])
   (.seq (.ops 2 false [
     ⟨some 11, .val (.t 7), none⟩,
     ⟨some 12, .bin .neq (.t 11) (.c (.int .i64 0)), none⟩] [])
    (.cond (.t 12) (.seq (.ops 3 false [
       ⟨some 13, .val (.t 7), none⟩,
       ⟨some 6, .val (.t 13), none⟩] [])
      (.ret))
     (.skip))))
  (.seq (.ops 4 false [
    ⟨some 14, .val (.t 0), none⟩,
    ⟨some 15, .val (.t 1), none⟩,
    ⟨some 16, .val (.t 2), none⟩,
    ⟨some 17, .call 92 [(.t 14), (.t 15), (.t 16)], none⟩] [])
   (.seq (.ops 5 false [
     ⟨some 6, .val (.c (.int .i64 0)), none⟩] [])
    (.ret))))
def rs46 : List RR := [.tmp 6]
theorem fun46 : FunR Tryd.prog 46 rc46 rs46 18 := ⟨Tryd.f46, Tryd.func46, by kernel_rfl, by kernel_rfl, by kernel_rfl⟩
/-- (*causeway/store.Table).Len -/
def rc83 : RC :=
 .seq (.ops 0 false [
  ⟨some 2, .val (.c (.int .i64 0)), none⟩] [])
 (.seq (.ops 1 false [
   ⟨some 3, .val (.t 0), none⟩,
   ⟨some 4, .nilCheck (.t 3), none⟩,
   ⟨some 5, .fieldA 0 (.t 4), none⟩,
   ⟨some 6, .load (.t 5), none⟩,
   ⟨some 7, .blt .len #[124] 3 [(.t 6)], none⟩,
   ⟨some 2, .val (.t 7), none⟩] [])
  (.ret))
def rs83 : List RR := [.tmp 2]
theorem fun83 : FunR Tryd.prog 83 rc83 rs83 8 := ⟨Tryd.f83, Tryd.func83, by kernel_rfl, by kernel_rfl, by kernel_rfl⟩
/-- causeway/causewayref07.May -/
def rc84 : RC :=
 .seq (.ops 0 false [
  ⟨some 4, .val (.c (.int .i64 0)), none⟩] [])
 (.seq (.seq (.ops 1 false [
    ⟨some 5, .val (.t 0), none⟩,
    ⟨some 6, .lenT (.t 5), none⟩,
    ⟨some 7, .bin .lss (.t 6) (.c (.int .i64 1)), none⟩,
    ⟨some 8, .val (.t 7), none⟩,
    ⟨some 9, .val (.t 0), some (8, false)⟩,
    ⟨some 10, .lenT (.t 9), some (8, false)⟩,
    ⟨some 11, .bin .gtr (.t 10) (.c (.int .i64 128)), some (8, false)⟩,
    ⟨some 12, .pick (.t 8) (.c (.bool true)) (.t 11), none⟩] [])
   (.cond (.t 12) (.seq (.ops 2 false [
      ⟨some 4, .val (.c (.int .i64 70)), none⟩] [])
     (.ret))
    (.skip)))
  (.seq (.seq (.ops 3 false [
     ⟨some 13, .val (.t 1), none⟩,
     ⟨some 14, .len (.t 13), none⟩,
     ⟨some 15, .bin .gtr (.t 14) (.c (.int .i64 4096)), none⟩] [])
    (.cond (.t 15) (.seq (.ops 4 false [
       ⟨some 4, .val (.c (.int .i64 71)), none⟩] [])
      (.ret))
     (.skip)))
   (.seq (.ops 5 false [
     ⟨some 4, .val (.c (.int .i64 0)), none⟩] [])
    (.ret))))
def rs84 : List RR := [.tmp 4]
theorem fun84 : FunR Tryd.prog 84 rc84 rs84 16 := ⟨Tryd.f84, Tryd.func84, by kernel_rfl, by kernel_rfl, by kernel_rfl⟩
/-- causeway/store.may -/
def rc85 : RC :=
 .seq (.ops 0 false [
  ⟨some 4, .val (.c (.int .i64 0)), none⟩] [])
 (.seq (.block 0 (.seq (.ops 1 false [
     ⟨some 6, .val (.t 0), none⟩,
     ⟨some 7, .eqp .str false (.t 6) (.c (.string ⟨#[]⟩)), none⟩,
     ⟨some 8, .val (.t 7), none⟩,
     ⟨some 9, .val (.t 0), some (8, false)⟩,
     ⟨some 10, .lenT (.t 9), some (8, false)⟩,
     ⟨some 11, .bin .gtr (.t 10) (.c (.int .i64 128)), some (8, false)⟩,
     ⟨some 12, .pick (.t 8) (.c (.bool true)) (.t 11), none⟩,
     ⟨some 5, .val (.t 12), none⟩] [])
    (.cond (.t 5) (.seq (.ops 2 false [
       ⟨some 4, .val (.c (.int .i64 70)), none⟩] [])
      (.ret))
     (.seq (.ops 3 false [
       ⟨some 14, .val (.t 1), none⟩,
       ⟨some 15, .len (.t 14), none⟩,
       ⟨some 16, .bin .gtr (.t 15) (.c (.int .i64 4096)), none⟩,
       ⟨some 13, .val (.t 16), none⟩] [])
      (.cond (.t 13) (.seq (.ops 4 false [
         ⟨some 4, .val (.c (.int .i64 71)), none⟩] [])
        (.ret))
       (.skip))))))
  (.seq (.ops 5 false [
    ⟨some 4, .val (.c (.int .i64 0)), none⟩] [])
   (.ret)))
def rs85 : List RR := [.tmp 4]
theorem fun85 : FunR Tryd.prog 85 rc85 rs85 17 := ⟨Tryd.f85, Tryd.func85, by kernel_rfl, by kernel_rfl, by kernel_rfl⟩
/-- (*causeway/store.State).ask -/
def rc86 : RC :=
 .seq (.ops 0 false [
  ⟨some 4, .val (.c (.int .i64 0)), none⟩] [])
 (.seq (.seq (.ops 1 false [
    ⟨some 10, .val (.t 0), none⟩,
    ⟨some 11, .nilCheck (.t 10), none⟩,
    ⟨some 12, .fieldA 1 (.t 11), none⟩,
    ⟨some 13, .load (.t 12), none⟩,
    ⟨some 14, .val (.t 1), none⟩,
    ⟨some 15, .look 124 (.t 13) (.t 14) true, none⟩,
    ⟨some 9, .val (.t 15), none⟩,
    ⟨some 16, .extract 0 (.t 9), none⟩,
    ⟨some 17, .extract 1 (.t 9), none⟩,
    ⟨some 5, .val (.t 16), none⟩,
    ⟨some 6, .val (.t 17), none⟩] [])
   (.seq (.ops 2 false [
     ⟨some 18, .val (.t 6), none⟩] [])
    (.cond (.t 18) (.seq (.ops 3 false [
       ⟨some 4, .val (.c (.int .i64 0)), none⟩] [])
      (.ret))
     (.skip))))
  (.seq (.ops 4 false [
    ⟨some 20, .val (.t 0), none⟩,
    ⟨some 21, .nilCheck (.t 20), none⟩,
    ⟨some 22, .fieldA 0 (.t 21), none⟩,
    ⟨some 23, .load (.t 22), none⟩,
    ⟨some 24, .val (.t 1), none⟩,
    ⟨some 25, .inv (.t 23) "Find" [(.t 24)], none⟩,
    ⟨some 19, .val (.t 25), none⟩,
    ⟨some 26, .extract 0 (.t 19), none⟩,
    ⟨some 27, .extract 1 (.t 19), none⟩,
    ⟨some 7, .val (.t 26), none⟩,
    ⟨some 8, .val (.t 27), none⟩] [])
   (.seq (.seq (.ops 5 false [
      ⟨some 28, .val (.t 8), none⟩,
      ⟨some 29, .bin .neq (.t 28) (.c (.int .i64 0)), none⟩] [])
     (.cond (.t 29) (.seq (.ops 6 false [
        ⟨some 30, .val (.t 8), none⟩,
        ⟨some 4, .val (.t 30), none⟩] [])
       (.ret))
      (.skip)))
    (.seq (.seq (.ops 7 false [
       ⟨some 31, .val (.t 7), none⟩,
       ⟨some 32, .len (.t 31), none⟩,
       ⟨some 33, .bin .gtr (.t 32) (.c (.int .i64 4096)), none⟩] [])
      (.cond (.t 33) (.seq (.ops 8 false [
         ⟨some 4, .val (.c (.int .i64 71)), none⟩] [])
        (.ret))
       (.skip)))
     (.seq (.ops 9 true [
       ⟨some 34, .val (.t 0), none⟩,
       ⟨some 35, .nilCheck (.t 34), none⟩,
       ⟨some 36, .fieldA 1 (.t 35), none⟩,
       ⟨some 37, .load (.t 36), none⟩,
       ⟨some 38, .val (.t 1), none⟩,
       ⟨some 39, .val (.t 7), none⟩,
       ⟨some 40, .call 87 [(.t 39)], none⟩,
       ⟨none, .upd 124 (.t 37) (.t 38) (.t 40), none⟩] [([], []), ([0], [0]), ([1], [1]), ([2], [2]), ([], []), ([], []), ([5], [5]), ([3, 4, 6, 6, 0, 1, 2, 3, 4, 5, 6], [3, 4, 6])])
      (.seq (.ops 10 false [
        ⟨some 4, .val (.c (.int .i64 0)), none⟩] [])
       (.ret)))))))
def rs86 : List RR := [.tmp 4]
theorem fun86 : FunR Tryd.prog 86 rc86 rs86 41 := ⟨Tryd.f86, Tryd.func86, by kernel_rfl, by kernel_rfl, by kernel_rfl⟩
/-- slices.Clone[[]byte,byte] -/
def rc87 : RC :=
 .seq (.ops 0 false [
  ⟨some 2, .val (.c (.slice none 0 0)), none⟩] [])
 (.seq (.seq (.ops 1 false [
    ⟨some 3, .val (.t 0), none⟩,
    ⟨some 4, .eqp .slc false (.t 3) (.c (.slice none 0 0)), none⟩] [])
   (.cond (.t 4) (.seq (.ops 2 false [
      ⟨some 2, .val (.c (.slice none 0 0)), none⟩] [])
     (.ret))
    (.skip)))
  (.seq (.ops 3 false [
    ⟨some 5, .buildS 5 0 [] [], none⟩,
    ⟨some 6, .val (.t 0), none⟩,
    ⟨some 7, .blt .append #[91, 91] 91 [(.t 5), (.t 6)], none⟩,
    ⟨some 2, .val (.t 7), none⟩] [])
   (.ret)))
def rs87 : List RR := [.tmp 2]
theorem fun87 : FunR Tryd.prog 87 rc87 rs87 8 := ⟨Tryd.f87, Tryd.func87, by kernel_rfl, by kernel_rfl, by kernel_rfl⟩
/-- (*causeway/store.State).value -/
def rc88 : RC :=
 .seq (.ops 0 false [
  ⟨some 4, .val (.c (.slice none 0 0)), none⟩] [])
 (.seq (.seq (.ops 1 false [
    ⟨some 8, .val (.t 0), none⟩,
    ⟨some 9, .nilCheck (.t 8), none⟩,
    ⟨some 10, .fieldA 2 (.t 9), none⟩,
    ⟨some 11, .load (.t 10), none⟩,
    ⟨some 12, .val (.t 1), none⟩,
    ⟨some 13, .look 124 (.t 11) (.t 12) true, none⟩,
    ⟨some 7, .val (.t 13), none⟩,
    ⟨some 14, .extract 0 (.t 7), none⟩,
    ⟨some 15, .extract 1 (.t 7), none⟩,
    ⟨some 5, .val (.t 14), none⟩,
    ⟨some 6, .val (.t 15), none⟩] [])
   (.seq (.ops 2 false [
     ⟨some 16, .val (.t 6), none⟩] [])
    (.cond (.t 16) (.seq (.ops 3 false [
       ⟨some 17, .val (.t 5), none⟩,
       ⟨some 4, .val (.t 17), none⟩] [])
      (.ret))
     (.skip))))
  (.seq (.ops 4 false [
    ⟨some 18, .val (.t 0), none⟩,
    ⟨some 19, .nilCheck (.t 18), none⟩,
    ⟨some 20, .fieldA 1 (.t 19), none⟩,
    ⟨some 21, .load (.t 20), none⟩,
    ⟨some 22, .val (.t 1), none⟩,
    ⟨some 23, .look 124 (.t 21) (.t 22) false, none⟩,
    ⟨some 4, .val (.t 23), none⟩] [])
   (.ret)))
def rs88 : List RR := [.tmp 4]
theorem fun88 : FunR Tryd.prog 88 rc88 rs88 24 := ⟨Tryd.f88, Tryd.func88, by kernel_rfl, by kernel_rfl, by kernel_rfl⟩
/-- (*causeway/store.State).Touched -/
def rc89 : RC :=
 .seq (.ops 0 false [
  ⟨some 2, .val (.c (.slice none 0 0)), none⟩] [])
 (.seq (.ops 1 false [
   ⟨some 3, .val (.t 0), none⟩,
   ⟨some 4, .nilCheck (.t 3), none⟩,
   ⟨some 5, .fieldA 1 (.t 4), none⟩,
   ⟨some 6, .load (.t 5), none⟩,
   ⟨some 7, .call 108 [(.t 6)], none⟩,
   ⟨some 8, .call 107 [(.t 7)], none⟩,
   ⟨some 2, .val (.t 8), none⟩] [])
  (.ret))
def rs89 : List RR := [.tmp 2]
theorem fun89 : FunR Tryd.prog 89 rc89 rs89 9 := ⟨Tryd.f89, Tryd.func89, by kernel_rfl, by kernel_rfl, by kernel_rfl⟩
/-- bytes.Equal -/
def rc90 : RC :=
 .seq (.ops 0 false [
  ⟨some 4, .val (.c (.bool false)), none⟩] [])
 (.seq (.ops 1 false [
   ⟨some 5, .val (.t 0), none⟩,
   ⟨some 6, .cvt 91 9 (.t 5), none⟩,
   ⟨some 7, .val (.t 1), none⟩,
   ⟨some 8, .cvt 91 9 (.t 7), none⟩,
   ⟨some 9, .eqp .str false (.t 6) (.t 8), none⟩,
   ⟨some 4, .val (.t 9), none⟩] [])
  (.ret))
def rs90 : List RR := [.tmp 4]
theorem fun90 : FunR Tryd.prog 90 rc90 rs90 10 := ⟨Tryd.f90, Tryd.func90, by kernel_rfl, by kernel_rfl, by kernel_rfl⟩
/-- causeway/sparse.New -/
def rc91 : RC :=
 .seq (.ops 0 false [
  ⟨some 0, .val (.c (.pointer none)), none⟩] [])
 (.seq (.ops 1 false [
   ⟨some 1, .build [(.pointer none), (.int .i64 0)] [], none⟩,
   ⟨some 2, .box 177 (.t 1), none⟩,
   ⟨some 0, .val (.t 2), none⟩] [])
  (.ret))
def rs91 : List RR := [.tmp 0]
theorem fun91 : FunR Tryd.prog 91 rc91 rs91 3 := ⟨Tryd.f91, Tryd.func91, by kernel_rfl, by kernel_rfl, by kernel_rfl⟩
/-- (*causeway/store.Table).lay -/
def rc92 : RC :=
 .seq (.ops 0 false [
  ⟨some 10, .val (.t 1), none⟩,
  ⟨some 11, .cvt 9 91 (.t 10), none⟩,
  ⟨some 12, .call 109 [(.t 11)], none⟩,
  ⟨some 6, .alloc 179 (List.replicate 32 (.int .u8 0)), none⟩,
  ⟨none, .store 32 (.t 6) (.t 12), none⟩] [])
 (.seq (.ops 1 true [
   ⟨some 13, .val (.t 0), none⟩,
   ⟨some 14, .nilCheck (.t 13), none⟩,
   ⟨some 15, .fieldA 2 (.t 14), none⟩,
   ⟨some 16, .load (.t 15), none⟩,
   ⟨some 17, .loadN 32 (.t 6), none⟩,
   ⟨some 18, .look 152 (.t 16) (.t 17) false, none⟩,
   ⟨some 7, .val (.t 18), none⟩] [([], []), ([0], [0]), ([1], [1]), ([2], [2]), ([], []), ([3, 4], [3, 4]), ([5, 0, 1, 2, 3, 4, 5], [5])])
  (.seq (.ops 2 false [
    ⟨some 20, .val (.t 7), none⟩,
    ⟨some 21, .val (.t 1), none⟩,
    ⟨some 22, .call 110 [(.t 20), (.t 21)], none⟩,
    ⟨some 19, .val (.t 22), none⟩,
    ⟨some 23, .extract 0 (.t 19), none⟩,
    ⟨some 24, .extract 1 (.t 19), none⟩,
    ⟨some 8, .val (.t 23), none⟩,
    ⟨some 9, .val (.t 24), none⟩] [])
   (.seq (.seq (.ops 3 false [
      ⟨some 25, .val (.t 2), none⟩,
      ⟨some 26, .len (.t 25), none⟩,
      ⟨some 27, .bin .gtr (.t 26) (.c (.int .i64 0)), none⟩] [])
     (.cond (.t 27) (.seq (.ops 4 true [
        ⟨some 28, .val (.t 0), none⟩,
        ⟨some 29, .nilCheck (.t 28), none⟩,
        ⟨some 30, .fieldA 0 (.t 29), none⟩,
        ⟨some 31, .load (.t 30), none⟩,
        ⟨some 32, .val (.t 1), none⟩,
        ⟨some 33, .val (.t 2), none⟩,
        ⟨some 34, .call 87 [(.t 33)], none⟩,
        ⟨none, .upd 124 (.t 31) (.t 32) (.t 34), none⟩] [([], []), ([0], [0]), ([1], [1]), ([2], [2]), ([], []), ([], []), ([5], [5]), ([3, 4, 6, 6, 0, 1, 2, 3, 4, 5, 6], [3, 4, 6])])
       (.seq (.ops 5 false [
         ⟨some 35, .val (.t 9), none⟩,
         ⟨some 36, .not (.t 35), none⟩] [])
        (.cond (.t 36) (.ops 6 false [
          ⟨some 37, .val (.t 7), none⟩,
          ⟨some 38, .call 112 [(.t 37)], none⟩,
          ⟨some 39, .val (.t 8), none⟩,
          ⟨some 40, .val (.t 1), none⟩,
          ⟨some 41, .buildS 9 1 [(.string ⟨#[]⟩)] [(0, 1, (.t 40))], none⟩,
          ⟨some 42, .call 111 [(.t 38), (.t 39), (.t 41)], none⟩,
          ⟨some 7, .val (.t 42), none⟩] [])
         (.skip))))
      (.seq (.ops 7 false [
        ⟨some 43, .val (.t 9), none⟩] [])
       (.cond (.t 43) (.seq (.ops 8 false [
          ⟨some 44, .val (.t 0), none⟩,
          ⟨some 45, .nilCheck (.t 44), none⟩,
          ⟨some 46, .fieldA 0 (.t 45), none⟩,
          ⟨some 47, .load (.t 46), none⟩,
          ⟨some 48, .val (.t 1), none⟩,
          ⟨none, .blt .delete #[124, 9] 0 [(.t 47), (.t 48)], none⟩] [])
         (.ops 9 false [
          ⟨some 49, .val (.t 7), none⟩,
          ⟨some 50, .call 112 [(.t 49)], none⟩,
          ⟨some 51, .val (.t 8), none⟩,
          ⟨some 52, .val (.t 8), none⟩,
          ⟨some 53, .bin .add (.t 52) (.c (.int .i64 1)), none⟩,
          ⟨some 54, .call 113 [(.t 50), (.t 51), (.t 53)], none⟩,
          ⟨some 7, .val (.t 54), none⟩] []))
        (.skip)))))
    (.seq (.seq (.ops 10 false [
       ⟨some 55, .val (.t 7), none⟩,
       ⟨some 56, .len (.t 55), none⟩,
       ⟨some 57, .bin .eql (.t 56) (.c (.int .i64 0)), none⟩] [])
      (.cond (.t 57) (.seq (.ops 11 true [
         ⟨some 58, .val (.t 0), none⟩,
         ⟨some 59, .nilCheck (.t 58), none⟩,
         ⟨some 60, .fieldA 2 (.t 59), none⟩,
         ⟨some 61, .load (.t 60), none⟩,
         ⟨some 62, .loadN 32 (.t 6), none⟩,
         ⟨none, .blt .delete #[152, 179] 0 [(.t 61), (.t 62)], none⟩] [([], []), ([0], [0]), ([1], [1]), ([2], [2]), ([], []), ([3, 4], [3, 4])])
        (.seq (.ops 12 true [
          ⟨some 63, .val (.t 0), none⟩,
          ⟨some 64, .nilCheck (.t 63), none⟩,
          ⟨some 65, .fieldA 1 (.t 64), none⟩,
          ⟨some 66, .load (.t 65), none⟩,
          ⟨some 67, .loadN 32 (.t 6), none⟩,
          ⟨some 68, .build (List.replicate 32 (.int .u8 0)) [], none⟩,
          ⟨some 69, .call 114 [(.t 66), (.t 67), (.t 68)], none⟩] [([], []), ([0], [0]), ([1], [1]), ([2], [2]), ([], []), ([], []), ([3, 4, 5], [3, 4, 5])])
         (.ret)))
       (.skip)))
     (.seq (.ops 13 true [
       ⟨some 70, .val (.t 0), none⟩,
       ⟨some 71, .nilCheck (.t 70), none⟩,
       ⟨some 72, .fieldA 2 (.t 71), none⟩,
       ⟨some 73, .load (.t 72), none⟩,
       ⟨some 74, .loadN 32 (.t 6), none⟩,
       ⟨some 75, .val (.t 7), none⟩,
       ⟨none, .upd 152 (.t 73) (.t 74) (.t 75), none⟩] [([], []), ([0], [0]), ([1], [1]), ([2], [2]), ([], []), ([], []), ([3, 4, 5, 0, 1, 2, 3, 4, 5], [3, 4, 5])])
      (.ops 14 true [
       ⟨some 76, .val (.t 0), none⟩,
       ⟨some 77, .nilCheck (.t 76), none⟩,
       ⟨some 78, .fieldA 1 (.t 77), none⟩,
       ⟨some 79, .load (.t 78), none⟩,
       ⟨some 80, .loadN 32 (.t 6), none⟩,
       ⟨some 81, .val (.t 0), none⟩,
       ⟨some 82, .nilCheck (.t 81), none⟩,
       ⟨some 83, .fieldA 0 (.t 82), none⟩,
       ⟨some 84, .load (.t 83), none⟩,
       ⟨some 85, .val (.t 7), none⟩,
       ⟨some 86, .val (.t 7), none⟩,
       ⟨some 87, .len (.t 86), none⟩,
       ⟨some 88, .bin .sub (.t 87) (.c (.int .i64 1)), none⟩,
       ⟨some 89, .indexS 1 (.t 85) (.t 88), none⟩,
       ⟨some 90, .load (.t 89), none⟩,
       ⟨some 91, .look 124 (.t 84) (.t 90) false, none⟩,
       ⟨some 92, .call 109 [(.t 91)], none⟩,
       ⟨some 93, .call 114 [(.t 79), (.t 80), (.t 92)], none⟩] [([], []), ([0], [0]), ([1], [1]), ([2], [2]), ([], []), ([], []), ([5], [5]), ([6], [6]), ([7], [7]), ([], []), ([], []), ([10], [10]), ([11], [11]), ([9, 12], [9, 12]), ([13], [13]), ([8, 14], [8, 14]), ([15], [15]), ([3, 4, 16, 16], [3, 4, 16])]))))))
def rs92 : List RR := []
theorem fun92 : FunR Tryd.prog 92 rc92 rs92 94 := ⟨Tryd.f92, Tryd.func92, by kernel_rfl, by kernel_rfl, by kernel_rfl⟩
/-- causeway/digest.Sum -/
def rc109 : RC :=
 .seq (.ops 0 false [
  ⟨some 2, .alloc 179 (List.replicate 32 (.int .u8 0)), none⟩] [])
 (.seq (.ops 1 false [
   ⟨some 3, .val (.t 0), none⟩,
   ⟨some 4, .buildS 91 1 [(.slice none 0 0)] [(0, 1, (.t 3))], none⟩,
   ⟨some 5, .call 121 [(.t 4)], none⟩,
   ⟨none, .store 32 (.t 2) (.t 5), none⟩] [])
  (.ret))
def rs109 : List RR := [.cell 2 (some 32)]
theorem fun109 : FunR Tryd.prog 109 rc109 rs109 6 := ⟨Tryd.f109, Tryd.func109, by kernel_rfl, by kernel_rfl, by kernel_rfl⟩
/-- slices.BinarySearch[[]string,string] -/
def rc110 : RC :=
 .seq (.ops 0 false [
  ⟨some 4, .val (.c (.int .i64 0)), none⟩,
  ⟨some 5, .val (.c (.bool false)), none⟩] [])
 (.seq (.ops 1 false [
   ⟨some 10, .val (.t 0), none⟩,
   ⟨some 11, .len (.t 10), none⟩,
   ⟨some 6, .val (.t 11), none⟩] [])
  (.seq (.ops 2 false [
    ⟨some 12, .val (.t 6), none⟩,
    ⟨some 7, .val (.c (.int .i64 0)), none⟩,
    ⟨some 8, .val (.t 12), none⟩] [])
   (.seq (.block 0 (.loop (.seq (.seq (.ops 3 false [
         ⟨some 13, .val (.t 7), none⟩,
         ⟨some 14, .val (.t 8), none⟩,
         ⟨some 15, .bin .lss (.t 13) (.t 14), none⟩] [])
        (.cond (.t 15) (.skip)
         (.exit 0)))
       (.block 1 (.seq (.ops 4 false [
          ⟨some 16, .val (.t 7), none⟩,
          ⟨some 17, .val (.t 8), none⟩,
          ⟨some 18, .bin .add (.t 16) (.t 17), none⟩,
          ⟨some 19, .conv .u64 (.t 18), none⟩,
          ⟨some 20, .bin .shr (.t 19) (.c (.int .u64 1)), none⟩,
          ⟨some 21, .conv .i64 (.t 20), none⟩,
          ⟨some 9, .val (.t 21), none⟩] [])
         (.seq (.ops 5 false [
           ⟨some 22, .val (.t 0), none⟩,
           ⟨some 23, .val (.t 9), none⟩,
           ⟨some 24, .indexS 1 (.t 22) (.t 23), none⟩,
           ⟨some 25, .load (.t 24), none⟩,
           ⟨some 26, .val (.t 1), none⟩,
           ⟨some 27, .call 122 [(.t 25), (.t 26)], none⟩] [])
          (.cond (.t 27) (.ops 6 false [
            ⟨some 28, .val (.t 9), none⟩,
            ⟨some 29, .bin .add (.t 28) (.c (.int .i64 1)), none⟩,
            ⟨some 7, .val (.t 29), none⟩] [])
           (.ops 7 false [
            ⟨some 30, .val (.t 9), none⟩,
            ⟨some 8, .val (.t 30), none⟩] []))))))))
    (.seq (.ops 8 false [
      ⟨some 31, .val (.t 7), none⟩,
      ⟨some 32, .val (.t 7), none⟩,
      ⟨some 33, .val (.t 6), none⟩,
      ⟨some 34, .bin .lss (.t 32) (.t 33), none⟩,
      ⟨some 35, .val (.t 34), none⟩,
      ⟨some 36, .val (.t 0), some (35, true)⟩,
      ⟨some 37, .val (.t 7), some (35, true)⟩,
      ⟨some 38, .indexS 1 (.t 36) (.t 37), some (35, true)⟩,
      ⟨some 39, .load (.t 38), some (35, true)⟩,
      ⟨some 40, .val (.t 1), some (35, true)⟩,
      ⟨some 41, .eqp .str false (.t 39) (.t 40), some (35, true)⟩,
      ⟨some 42, .val (.t 41), some (35, true)⟩,
      ⟨some 43, .val (.t 0), some (42, false)⟩,
      ⟨some 44, .val (.t 7), some (42, false)⟩,
      ⟨some 45, .indexS 1 (.t 43) (.t 44), some (42, false)⟩,
      ⟨some 46, .load (.t 45), some (42, false)⟩,
      ⟨some 47, .call 123 [(.t 46)], some (42, false)⟩,
      ⟨some 48, .val (.t 47), some (42, false)⟩,
      ⟨some 49, .val (.t 1), some (48, true)⟩,
      ⟨some 50, .call 123 [(.t 49)], some (48, true)⟩,
      ⟨some 51, .pick (.t 48) (.t 50) (.c (.bool false)), some (42, false)⟩,
      ⟨some 52, .pick (.t 42) (.c (.bool true)) (.t 51), some (35, true)⟩,
      ⟨some 53, .pick (.t 35) (.t 52) (.c (.bool false)), none⟩,
      ⟨some 4, .val (.t 31), none⟩,
      ⟨some 5, .val (.t 53), none⟩] [])
     (.ret)))))
def rs110 : List RR := [.tmp 4, .tmp 5]
theorem fun110 : FunR Tryd.prog 110 rc110 rs110 54 := ⟨Tryd.f110, Tryd.func110, by kernel_rfl, by kernel_rfl, by kernel_rfl⟩
/-- slices.Insert[[]string,string] -/
def rc111 : RC :=
 .seq (.ops 0 false [
  ⟨some 6, .val (.c (.slice none 0 0)), none⟩] [])
 (.seq (.ops 1 false [
   ⟨some 10, .val (.t 0), none⟩,
   ⟨some 11, .val (.t 1), none⟩,
   ⟨some 12, .slice 1 (.t 10) (some (.t 11)) none none, none⟩] [])
  (.seq (.ops 2 false [
    ⟨some 13, .val (.t 2), none⟩,
    ⟨some 14, .len (.t 13), none⟩,
    ⟨some 7, .val (.t 14), none⟩] [])
   (.seq (.seq (.ops 3 false [
      ⟨some 15, .val (.t 7), none⟩,
      ⟨some 16, .bin .eql (.t 15) (.c (.int .i64 0)), none⟩] [])
     (.cond (.t 16) (.seq (.ops 4 false [
        ⟨some 17, .val (.t 0), none⟩,
        ⟨some 6, .val (.t 17), none⟩] [])
       (.ret))
      (.skip)))
    (.seq (.ops 5 false [
      ⟨some 18, .val (.t 0), none⟩,
      ⟨some 19, .len (.t 18), none⟩,
      ⟨some 8, .val (.t 19), none⟩] [])
     (.seq (.seq (.ops 6 false [
        ⟨some 20, .val (.t 1), none⟩,
        ⟨some 21, .val (.t 8), none⟩,
        ⟨some 22, .bin .eql (.t 20) (.t 21), none⟩] [])
       (.cond (.t 22) (.seq (.ops 7 false [
          ⟨some 23, .val (.t 0), none⟩,
          ⟨some 24, .val (.t 2), none⟩,
          ⟨some 25, .blt .append #[95, 95] 95 [(.t 23), (.t 24)], none⟩,
          ⟨some 6, .val (.t 25), none⟩] [])
         (.ret))
        (.skip)))
      (.seq (.seq (.ops 8 false [
         ⟨some 26, .val (.t 8), none⟩,
         ⟨some 27, .val (.t 7), none⟩,
         ⟨some 28, .bin .add (.t 26) (.t 27), none⟩,
         ⟨some 29, .val (.t 0), none⟩,
         ⟨some 30, .blt .cap #[95] 3 [(.t 29)], none⟩,
         ⟨some 31, .bin .gtr (.t 28) (.t 30), none⟩] [])
        (.cond (.t 31) (.seq (.ops 9 false [
           ⟨some 32, .val (.t 0), none⟩,
           ⟨some 33, .val (.t 1), none⟩,
           ⟨some 34, .slice 1 (.t 32) none (some (.t 33)) none, none⟩,
           ⟨some 35, .val (.t 8), none⟩,
           ⟨some 36, .val (.t 7), none⟩,
           ⟨some 37, .bin .add (.t 35) (.t 36), none⟩,
           ⟨some 38, .val (.t 1), none⟩,
           ⟨some 39, .bin .sub (.t 37) (.t 38), none⟩,
           ⟨some 40, .blt .append #[95, 3] 95 [(.t 34), (.t 39)], none⟩,
           ⟨some 9, .val (.t 40), none⟩] [])
          (.seq (.ops 10 false [
            ⟨some 41, .val (.t 9), none⟩,
            ⟨some 42, .val (.t 1), none⟩,
            ⟨some 43, .slice 1 (.t 41) (some (.t 42)) none none, none⟩,
            ⟨some 44, .val (.t 2), none⟩,
            ⟨some 45, .blt .copy #[95, 95] 3 [(.t 43), (.t 44)], none⟩] [])
           (.seq (.ops 11 true [
             ⟨some 46, .val (.t 9), none⟩,
             ⟨some 47, .val (.t 1), none⟩,
             ⟨some 48, .val (.t 7), none⟩,
             ⟨some 49, .bin .add (.t 47) (.t 48), none⟩,
             ⟨some 50, .slice 1 (.t 46) (some (.t 49)) none none, none⟩,
             ⟨some 51, .val (.t 0), none⟩,
             ⟨some 52, .val (.t 1), none⟩,
             ⟨some 53, .slice 1 (.t 51) (some (.t 52)) none none, none⟩,
             ⟨some 54, .blt .copy #[95, 95] 3 [(.t 50), (.t 53)], none⟩] [([], []), ([], []), ([], []), ([1, 2], [1, 2]), ([0, 3], [0, 3]), ([], []), ([], []), ([5, 6], [5, 6]), ([4, 7], [4, 7])])
            (.seq (.ops 12 false [
              ⟨some 55, .val (.t 9), none⟩,
              ⟨some 6, .val (.t 55), none⟩] [])
             (.ret)))))
         (.skip)))
       (.seq (.ops 13 false [
         ⟨some 56, .val (.t 0), none⟩,
         ⟨some 57, .val (.t 8), none⟩,
         ⟨some 58, .val (.t 7), none⟩,
         ⟨some 59, .bin .add (.t 57) (.t 58), none⟩,
         ⟨some 60, .slice 1 (.t 56) none (some (.t 59)) none, none⟩,
         ⟨some 0, .val (.t 60), none⟩] [])
        (.seq (.seq (.ops 14 false [
           ⟨some 61, .val (.t 2), none⟩,
           ⟨some 62, .val (.t 0), none⟩,
           ⟨some 63, .val (.t 1), none⟩,
           ⟨some 64, .val (.t 7), none⟩,
           ⟨some 65, .bin .add (.t 63) (.t 64), none⟩,
           ⟨some 66, .slice 1 (.t 62) (some (.t 65)) none none, none⟩,
           ⟨some 67, .ext 124 [(.t 61), (.t 66)], none⟩,
           ⟨some 68, .not (.t 67), none⟩] [])
          (.cond (.t 68) (.seq (.ops 15 true [
             ⟨some 69, .val (.t 0), none⟩,
             ⟨some 70, .val (.t 1), none⟩,
             ⟨some 71, .val (.t 7), none⟩,
             ⟨some 72, .bin .add (.t 70) (.t 71), none⟩,
             ⟨some 73, .slice 1 (.t 69) (some (.t 72)) none none, none⟩,
             ⟨some 74, .val (.t 0), none⟩,
             ⟨some 75, .val (.t 1), none⟩,
             ⟨some 76, .slice 1 (.t 74) (some (.t 75)) none none, none⟩,
             ⟨some 77, .blt .copy #[95, 95] 3 [(.t 73), (.t 76)], none⟩] [([], []), ([], []), ([], []), ([1, 2], [1, 2]), ([0, 3], [0, 3]), ([], []), ([], []), ([5, 6], [5, 6]), ([4, 7], [4, 7])])
            (.seq (.ops 16 false [
              ⟨some 78, .val (.t 0), none⟩,
              ⟨some 79, .val (.t 1), none⟩,
              ⟨some 80, .slice 1 (.t 78) (some (.t 79)) none none, none⟩,
              ⟨some 81, .val (.t 2), none⟩,
              ⟨some 82, .blt .copy #[95, 95] 3 [(.t 80), (.t 81)], none⟩] [])
             (.seq (.ops 17 false [
               ⟨some 83, .val (.t 0), none⟩,
               ⟨some 6, .val (.t 83), none⟩] [])
              (.ret))))
           (.skip)))
         (.seq (.ops 18 false [
           ⟨some 84, .val (.t 0), none⟩,
           ⟨some 85, .val (.t 8), none⟩,
           ⟨some 86, .slice 1 (.t 84) (some (.t 85)) none none, none⟩,
           ⟨some 87, .val (.t 2), none⟩,
           ⟨some 88, .blt .copy #[95, 95] 3 [(.t 86), (.t 87)], none⟩] [])
          (.seq (.ops 19 false [
            ⟨some 89, .val (.t 0), none⟩,
            ⟨some 90, .val (.t 1), none⟩,
            ⟨some 91, .slice 1 (.t 89) (some (.t 90)) none none, none⟩,
            ⟨some 92, .val (.t 7), none⟩,
            ⟨some 93, .call 125 [(.t 91), (.t 92)], none⟩] [])
           (.seq (.ops 20 false [
             ⟨some 94, .val (.t 0), none⟩,
             ⟨some 6, .val (.t 94), none⟩] [])
            (.ret))))))))))))
def rs111 : List RR := [.tmp 6]
theorem fun111 : FunR Tryd.prog 111 rc111 rs111 95 := ⟨Tryd.f111, Tryd.func111, by kernel_rfl, by kernel_rfl, by kernel_rfl⟩
/-- slices.Clone[[]string,string] -/
def rc112 : RC :=
 .seq (.ops 0 false [
  ⟨some 2, .val (.c (.slice none 0 0)), none⟩] [])
 (.seq (.seq (.ops 1 false [
    ⟨some 3, .val (.t 0), none⟩,
    ⟨some 4, .eqp .slc false (.t 3) (.c (.slice none 0 0)), none⟩] [])
   (.cond (.t 4) (.seq (.ops 2 false [
      ⟨some 2, .val (.c (.slice none 0 0)), none⟩] [])
     (.ret))
    (.skip)))
  (.seq (.ops 3 false [
    ⟨some 5, .buildS 9 0 [] [], none⟩,
    ⟨some 6, .val (.t 0), none⟩,
    ⟨some 7, .blt .append #[95, 95] 95 [(.t 5), (.t 6)], none⟩,
    ⟨some 2, .val (.t 7), none⟩] [])
   (.ret)))
def rs112 : List RR := [.tmp 2]
theorem fun112 : FunR Tryd.prog 112 rc112 rs112 8 := ⟨Tryd.f112, Tryd.func112, by kernel_rfl, by kernel_rfl, by kernel_rfl⟩
/-- slices.Delete[[]string,string] -/
def rc113 : RC :=
 .seq (.ops 0 false [
  ⟨some 6, .val (.c (.slice none 0 0)), none⟩] [])
 (.seq (.ops 1 false [
   ⟨some 8, .val (.t 0), none⟩,
   ⟨some 9, .val (.t 1), none⟩,
   ⟨some 10, .val (.t 2), none⟩,
   ⟨some 11, .val (.t 0), none⟩,
   ⟨some 12, .len (.t 11), none⟩,
   ⟨some 13, .slice 1 (.t 8) (some (.t 9)) (some (.t 10)) (some (.t 12)), none⟩] [])
  (.seq (.seq (.ops 2 false [
     ⟨some 14, .val (.t 1), none⟩,
     ⟨some 15, .val (.t 2), none⟩,
     ⟨some 16, .bin .eql (.t 14) (.t 15), none⟩] [])
    (.cond (.t 16) (.seq (.ops 3 false [
       ⟨some 17, .val (.t 0), none⟩,
       ⟨some 6, .val (.t 17), none⟩] [])
      (.ret))
     (.skip)))
   (.seq (.ops 4 false [
     ⟨some 18, .val (.t 0), none⟩,
     ⟨some 19, .len (.t 18), none⟩,
     ⟨some 7, .val (.t 19), none⟩] [])
    (.seq (.ops 5 true [
      ⟨some 20, .val (.t 0), none⟩,
      ⟨some 21, .val (.t 1), none⟩,
      ⟨some 22, .slice 1 (.t 20) none (some (.t 21)) none, none⟩,
      ⟨some 23, .val (.t 0), none⟩,
      ⟨some 24, .val (.t 2), none⟩,
      ⟨some 25, .slice 1 (.t 23) (some (.t 24)) none none, none⟩,
      ⟨some 26, .blt .append #[95, 95] 95 [(.t 22), (.t 25)], none⟩,
      ⟨some 0, .val (.t 26), none⟩] [([], []), ([], []), ([0, 1], [0, 1]), ([], []), ([], []), ([3, 4], [3, 4]), ([2, 5], [2, 5]), ([6, 6, 0, 1, 2, 3, 4, 5, 6], [0, 3, 6])])
     (.seq (.ops 6 false [
       ⟨some 27, .val (.t 0), none⟩,
       ⟨some 28, .val (.t 0), none⟩,
       ⟨some 29, .len (.t 28), none⟩,
       ⟨some 30, .val (.t 7), none⟩,
       ⟨some 31, .slice 1 (.t 27) (some (.t 29)) (some (.t 30)) none, none⟩,
       ⟨none, .blt .clear #[95] 0 [(.t 31)], none⟩] [])
      (.seq (.ops 7 false [
        ⟨some 32, .val (.t 0), none⟩,
        ⟨some 6, .val (.t 32), none⟩] [])
       (.ret)))))))
def rs113 : List RR := [.tmp 6]
theorem fun113 : FunR Tryd.prog 113 rc113 rs113 33 := ⟨Tryd.f113, Tryd.func113, by kernel_rfl, by kernel_rfl, by kernel_rfl⟩
/-- (*causeway/sparse.Map).Put -/
def rc114 : RC :=
 .seq (.ops 0 false [
  ⟨some 4, .box 179 (.t 1), none⟩,
  ⟨some 5, .box 179 (.t 2), none⟩] [])
 (.seq (.ops 1 false [
   ⟨some 8, .build (List.replicate 32 (.int .u8 0)) [], none⟩,
   ⟨some 6, .alloc 179 (List.replicate 32 (.int .u8 0)), none⟩,
   ⟨none, .store 32 (.t 6) (.t 8), none⟩] [])
  (.seq (.ops 2 true [
    ⟨some 9, .val (.t 0), none⟩,
    ⟨some 10, .nilCheck (.t 9), none⟩,
    ⟨some 11, .fieldA 0 (.t 10), none⟩,
    ⟨some 12, .load (.t 11), none⟩,
    ⟨some 13, .loadN 32 (.t 4), none⟩,
    ⟨some 14, .call 126 [(.t 12), (.t 13)], none⟩,
    ⟨some 7, .alloc 179 (List.replicate 32 (.int .u8 0)), none⟩,
    ⟨none, .store 32 (.t 7) (.t 14), none⟩] [([], []), ([0], [0]), ([1], [1]), ([2], [2]), ([], []), ([3, 4], [3, 4]), ([], []), ([6, 5, 5, 0, 1, 2, 3, 4, 5, 6], [5, 6])])
   (.seq (.seq (.ops 3 false [
      ⟨some 15, .loadN 32 (.t 7), none⟩,
      ⟨some 16, .loadN 32 (.t 6), none⟩,
      ⟨some 17, .eqn true 179 (.t 15) (.t 16), none⟩] [])
     (.cond (.t 17) (.ops 4 false [
       ⟨some 18, .val (.t 0), none⟩,
       ⟨some 19, .nilCheck (.t 18), none⟩,
       ⟨some 20, .fieldA 1 (.t 19), none⟩,
       ⟨some 21, .load (.t 20), none⟩,
       ⟨some 22, .bin .sub (.t 21) (.c (.int .i64 1)), none⟩,
       ⟨some 23, .nilCheck (.t 18), none⟩,
       ⟨some 24, .fieldA 1 (.t 23), none⟩,
       ⟨none, .store 1 (.t 24) (.t 22), none⟩] [])
      (.skip)))
    (.seq (.seq (.ops 5 false [
       ⟨some 25, .loadN 32 (.t 5), none⟩,
       ⟨some 26, .loadN 32 (.t 6), none⟩,
       ⟨some 27, .eqn true 179 (.t 25) (.t 26), none⟩] [])
      (.cond (.t 27) (.ops 6 false [
        ⟨some 28, .val (.t 0), none⟩,
        ⟨some 29, .nilCheck (.t 28), none⟩,
        ⟨some 30, .fieldA 1 (.t 29), none⟩,
        ⟨some 31, .load (.t 30), none⟩,
        ⟨some 32, .bin .add (.t 31) (.c (.int .i64 1)), none⟩,
        ⟨some 33, .nilCheck (.t 28), none⟩,
        ⟨some 34, .fieldA 1 (.t 33), none⟩,
        ⟨none, .store 1 (.t 34) (.t 32), none⟩] [])
       (.skip)))
     (.ops 7 true [
      ⟨some 35, .val (.t 0), none⟩,
      ⟨some 36, .val (.t 0), none⟩,
      ⟨some 37, .nilCheck (.t 36), none⟩,
      ⟨some 38, .fieldA 0 (.t 37), none⟩,
      ⟨some 39, .load (.t 38), none⟩,
      ⟨some 40, .loadN 32 (.t 4), none⟩,
      ⟨some 41, .loadN 32 (.t 5), none⟩,
      ⟨some 42, .call 127 [(.t 39), (.t 40), (.t 41), (.c (.int .i64 0))], none⟩,
      ⟨some 43, .nilCheck (.t 35), none⟩,
      ⟨some 44, .fieldA 0 (.t 43), none⟩,
      ⟨none, .store 1 (.t 44) (.t 42), none⟩] [([], []), ([], []), ([1], [1]), ([2], [2]), ([3], [3]), ([], []), ([], []), ([4, 5, 6], [4, 5, 6]), ([0, 0, 1, 2, 3, 4, 5, 6, 7], [0]), ([8, 0, 1, 2, 3, 4, 5, 6, 7], [8]), ([9, 7, 7, 0, 1, 2, 3, 4, 5, 6, 7], [7, 9])])))))
def rs114 : List RR := []
theorem fun114 : FunR Tryd.prog 114 rc114 rs114 45 := ⟨Tryd.f114, Tryd.func114, by kernel_rfl, by kernel_rfl, by kernel_rfl⟩
/-- causeway/digest.Parts -/
def rc121 : RC :=
 .seq (.ops 0 false [
  ⟨some 2, .alloc 179 (List.replicate 32 (.int .u8 0)), none⟩] [])
 (.seq (.ops 1 false [
   ⟨some 6, .call 132 [], none⟩,
   ⟨some 3, .val (.t 6), none⟩] [])
  (.seq (.seq (.ops 2 false [
     ⟨some 7, .val (.t 0), none⟩,
     ⟨some 8, .len (.t 7), none⟩,
     ⟨some 9, .val (.c (.int .i64 0)), none⟩] [])
    (.block 0 (.loop (.seq (.ops 3 false [
        ⟨some 10, .bin .lss (.t 9) (.t 8), none⟩] [])
       (.seq (.cond (.t 10) (.skip)
         (.exit 0))
        (.seq (.block 1 (.seq (.ops 4 false [
            ⟨some 11, .indexS 1 (.t 7) (.t 9), none⟩,
            ⟨some 12, .load (.t 11), none⟩,
            ⟨some 5, .val (.t 12), none⟩] [])
           (.ops 5 false [
            ⟨some 13, .val (.t 3), none⟩,
            ⟨some 14, .val (.t 5), none⟩,
            ⟨some 15, .call 133 [(.t 13), (.t 14)], none⟩] [])))
         (.ops 6 false [
          ⟨some 16, .bin .add (.t 9) (.c (.int .i64 1)), none⟩,
          ⟨some 9, .val (.t 16), none⟩] [])))))))
   (.seq (.ops 7 false [
     ⟨some 17, .val (.t 3), none⟩,
     ⟨some 18, .call 134 [(.t 17)], none⟩,
     ⟨none, .store 32 (.t 2) (.t 18), none⟩] [])
    (.ret))))
def rs121 : List RR := [.cell 2 (some 32)]
theorem fun121 : FunR Tryd.prog 121 rc121 rs121 19 := ⟨Tryd.f121, Tryd.func121, by kernel_rfl, by kernel_rfl, by kernel_rfl⟩
/-- cmp.Less[string] -/
def rc122 : RC :=
 .seq (.ops 0 false [
  ⟨some 4, .val (.c (.bool false)), none⟩] [])
 (.seq (.ops 1 false [
   ⟨some 5, .val (.t 0), none⟩,
   ⟨some 6, .call 135 [(.t 5)], none⟩,
   ⟨some 7, .val (.t 6), none⟩,
   ⟨some 8, .val (.t 1), some (7, true)⟩,
   ⟨some 9, .call 135 [(.t 8)], some (7, true)⟩,
   ⟨some 10, .not (.t 9), some (7, true)⟩,
   ⟨some 11, .pick (.t 7) (.t 10) (.c (.bool false)), none⟩,
   ⟨some 12, .val (.t 11), none⟩,
   ⟨some 13, .val (.t 0), some (12, false)⟩,
   ⟨some 14, .val (.t 1), some (12, false)⟩,
   ⟨some 15, .sbin .lss (.t 13) (.t 14), some (12, false)⟩,
   ⟨some 16, .pick (.t 12) (.c (.bool true)) (.t 15), none⟩,
   ⟨some 4, .val (.t 16), none⟩] [])
  (.ret))
def rs122 : List RR := [.tmp 4]
theorem fun122 : FunR Tryd.prog 122 rc122 rs122 17 := ⟨Tryd.f122, Tryd.func122, by kernel_rfl, by kernel_rfl, by kernel_rfl⟩
/-- slices.isNaN[string] -/
def rc123 : RC :=
 .seq (.ops 0 false [
  ⟨some 2, .val (.c (.bool false)), none⟩] [])
 (.seq (.ops 1 false [
   ⟨some 3, .val (.t 0), none⟩,
   ⟨some 4, .val (.t 0), none⟩,
   ⟨some 5, .eqp .str true (.t 3) (.t 4), none⟩,
   ⟨some 2, .val (.t 5), none⟩] [])
  (.ret))
def rs123 : List RR := [.tmp 2]
theorem fun123 : FunR Tryd.prog 123 rc123 rs123 6 := ⟨Tryd.f123, Tryd.func123, by kernel_rfl, by kernel_rfl, by kernel_rfl⟩
/-- causeway/sparse.find -/
def rc126 : RC :=
 .seq (.ops 0 false [
  ⟨some 3, .box 179 (.t 1), none⟩,
  ⟨some 4, .alloc 179 (List.replicate 32 (.int .u8 0)), none⟩] [])
 (.seq (.seq (.ops 1 false [
    ⟨some 5, .val (.c (.int .i64 0)), none⟩] [])
   (.block 0 (.loop (.seq (.seq (.ops 2 false [
        ⟨some 6, .val (.t 0), none⟩,
        ⟨some 7, .eqp .ptr true (.t 6) (.c (.pointer none)), none⟩] [])
       (.cond (.t 7) (.skip)
        (.exit 0)))
      (.seq (.block 1 (.seq (.seq (.ops 4 false [
           ⟨some 10, .val (.t 0), none⟩,
           ⟨some 11, .call 137 [(.t 10)], none⟩] [])
          (.cond (.t 11) (.seq (.seq (.ops 5 true [
              ⟨some 12, .val (.t 0), none⟩,
              ⟨some 13, .nilCheck (.t 12), none⟩,
              ⟨some 14, .fieldA 32 (.t 13), none⟩,
              ⟨some 15, .loadN 32 (.t 14), none⟩,
              ⟨some 16, .loadN 32 (.t 3), none⟩,
              ⟨some 17, .eqn false 179 (.t 15) (.t 16), none⟩] [([], []), ([0], [0]), ([1], [1]), ([2], [2]), ([], []), ([3, 4], [3, 4])])
             (.cond (.t 17) (.seq (.ops 6 false [
                ⟨some 18, .val (.t 0), none⟩,
                ⟨some 19, .nilCheck (.t 18), none⟩,
                ⟨some 20, .fieldA 64 (.t 19), none⟩,
                ⟨some 21, .loadN 32 (.t 20), none⟩,
                ⟨none, .store 32 (.t 4) (.t 21), none⟩] [])
               (.ret))
              (.skip)))
            (.exit 0))
           (.skip)))
         (.seq (.ops 7 false [
           ⟨some 22, .loadN 32 (.t 3), none⟩,
           ⟨some 23, .val (.t 5), none⟩,
           ⟨some 24, .call 138 [(.t 22), (.t 23)], none⟩] [])
          (.cond (.t 24) (.ops 8 false [
            ⟨some 25, .val (.t 0), none⟩,
            ⟨some 26, .nilCheck (.t 25), none⟩,
            ⟨some 27, .fieldA 97 (.t 26), none⟩,
            ⟨some 28, .load (.t 27), none⟩,
            ⟨some 0, .val (.t 28), none⟩] [])
           (.ops 9 false [
            ⟨some 29, .val (.t 0), none⟩,
            ⟨some 30, .nilCheck (.t 29), none⟩,
            ⟨some 31, .fieldA 96 (.t 30), none⟩,
            ⟨some 32, .load (.t 31), none⟩,
            ⟨some 0, .val (.t 32), none⟩] [])))))
       (.ops 3 false [
        ⟨some 8, .val (.t 5), none⟩,
        ⟨some 9, .bin .add (.t 8) (.c (.int .i64 1)), none⟩,
        ⟨some 5, .val (.t 9), none⟩] []))))))
  (.seq (.ops 10 false [
    ⟨some 33, .build (List.replicate 32 (.int .u8 0)) [], none⟩,
    ⟨none, .store 32 (.t 4) (.t 33), none⟩] [])
   (.ret)))
def rs126 : List RR := [.cell 4 (some 32)]
theorem fun126 : FunR Tryd.prog 126 rc126 rs126 34 := ⟨Tryd.f126, Tryd.func126, by kernel_rfl, by kernel_rfl, by kernel_rfl⟩
/-- causeway/sparse.put -/
def rc127 : RC :=
 .seq (.ops 0 false [
  ⟨some 5, .box 179 (.t 1), none⟩,
  ⟨some 6, .box 179 (.t 2), none⟩,
  ⟨some 8, .val (.c (.pointer none)), none⟩] [])
 (.seq (.ops 1 false [
   ⟨some 12, .loadN 32 (.t 6), none⟩,
   ⟨some 13, .build (List.replicate 32 (.int .u8 0)) [], none⟩,
   ⟨some 14, .eqn false 179 (.t 12) (.t 13), none⟩,
   ⟨some 9, .val (.t 14), none⟩] [])
  (.seq (.block 0 (.seq (.ops 2 false [
      ⟨some 16, .val (.t 0), none⟩,
      ⟨some 17, .eqp .ptr false (.t 16) (.c (.pointer none)), none⟩,
      ⟨some 18, .val (.t 17), none⟩,
      ⟨some 19, .val (.t 9), some (18, true)⟩,
      ⟨some 20, .pick (.t 18) (.t 19) (.c (.bool false)), none⟩,
      ⟨some 15, .val (.t 20), none⟩] [])
     (.cond (.t 15) (.seq (.ops 3 false [
        ⟨some 8, .val (.c (.pointer none)), none⟩] [])
       (.ret))
      (.seq (.ops 4 false [
        ⟨some 22, .val (.t 0), none⟩,
        ⟨some 23, .eqp .ptr false (.t 22) (.c (.pointer none)), none⟩,
        ⟨some 21, .val (.t 23), none⟩] [])
       (.cond (.t 21) (.seq (.ops 5 false [
          ⟨some 24, .loadN 32 (.t 5), none⟩,
          ⟨some 25, .loadN 32 (.t 6), none⟩,
          ⟨some 26, .call 139 [(.t 24), (.t 25)], none⟩,
          ⟨some 8, .val (.t 26), none⟩] [])
         (.ret))
        (.seq (.ops 6 true [
          ⟨some 28, .val (.t 0), none⟩,
          ⟨some 29, .call 137 [(.t 28)], none⟩,
          ⟨some 30, .val (.t 29), none⟩,
          ⟨some 31, .val (.t 0), some (30, true)⟩,
          ⟨some 32, .nilCheck (.t 31), some (30, true)⟩,
          ⟨some 33, .fieldA 32 (.t 32), some (30, true)⟩,
          ⟨some 34, .loadN 32 (.t 33), some (30, true)⟩,
          ⟨some 35, .loadN 32 (.t 5), some (30, true)⟩,
          ⟨some 36, .eqn false 179 (.t 34) (.t 35), some (30, true)⟩,
          ⟨some 37, .pick (.t 30) (.t 36) (.c (.bool false)), none⟩,
          ⟨some 38, .val (.t 37), none⟩,
          ⟨some 39, .val (.t 9), some (38, true)⟩,
          ⟨some 40, .pick (.t 38) (.t 39) (.c (.bool false)), none⟩,
          ⟨some 27, .val (.t 40), none⟩] [([], []), ([0], [0]), ([1, 1], [1]), ([2], [2]), ([3, 2], [2, 3]), ([4, 2], [2, 4]), ([5, 2], [2, 5]), ([2], [2]), ([6, 7, 2], [2, 6, 7]), ([2, 8], [2, 8]), ([9, 2], [9]), ([10], [10]), ([10, 11], [10, 11]), ([12, 10], [12])])
         (.cond (.t 27) (.seq (.ops 7 false [
            ⟨some 8, .val (.c (.pointer none)), none⟩] [])
           (.ret))
          (.seq (.ops 8 true [
            ⟨some 42, .val (.t 0), none⟩,
            ⟨some 43, .call 137 [(.t 42)], none⟩,
            ⟨some 44, .val (.t 43), none⟩,
            ⟨some 45, .val (.t 0), some (44, true)⟩,
            ⟨some 46, .nilCheck (.t 45), some (44, true)⟩,
            ⟨some 47, .fieldA 32 (.t 46), some (44, true)⟩,
            ⟨some 48, .loadN 32 (.t 47), some (44, true)⟩,
            ⟨some 49, .loadN 32 (.t 5), some (44, true)⟩,
            ⟨some 50, .eqn false 179 (.t 48) (.t 49), some (44, true)⟩,
            ⟨some 51, .pick (.t 44) (.t 50) (.c (.bool false)), none⟩,
            ⟨some 41, .val (.t 51), none⟩] [([], []), ([0], [0]), ([1, 1], [1]), ([2], [2]), ([3, 2], [2, 3]), ([4, 2], [2, 4]), ([5, 2], [2, 5]), ([2], [2]), ([6, 7, 2], [2, 6, 7]), ([2, 8], [2, 8]), ([9, 2], [9])])
           (.cond (.t 41) (.seq (.ops 9 false [
              ⟨some 52, .loadN 32 (.t 5), none⟩,
              ⟨some 53, .loadN 32 (.t 6), none⟩,
              ⟨some 54, .call 139 [(.t 52), (.t 53)], none⟩,
              ⟨some 8, .val (.t 54), none⟩] [])
             (.ret))
            (.seq (.ops 10 false [
              ⟨some 56, .val (.t 0), none⟩,
              ⟨some 57, .call 137 [(.t 56)], none⟩,
              ⟨some 58, .val (.t 57), none⟩,
              ⟨some 59, .val (.t 9), some (58, true)⟩,
              ⟨some 60, .pick (.t 58) (.t 59) (.c (.bool false)), none⟩,
              ⟨some 55, .val (.t 60), none⟩] [])
             (.cond (.t 55) (.seq (.ops 11 false [
                ⟨some 61, .val (.t 0), none⟩,
                ⟨some 8, .val (.t 61), none⟩] [])
               (.ret))
              (.skip))))))))))))
   (.seq (.ops 12 true [
     ⟨some 62, .val (.t 0), none⟩,
     ⟨some 63, .nilCheck (.t 62), none⟩,
     ⟨some 64, .fieldA 96 (.t 63), none⟩,
     ⟨some 65, .load (.t 64), none⟩,
     ⟨some 66, .val (.t 0), none⟩,
     ⟨some 67, .nilCheck (.t 66), none⟩,
     ⟨some 68, .fieldA 97 (.t 67), none⟩,
     ⟨some 69, .load (.t 68), none⟩,
     ⟨some 10, .val (.t 65), none⟩,
     ⟨some 11, .val (.t 69), none⟩] [([], []), ([0], [0]), ([1], [1]), ([2], [2]), ([], []), ([4], [4]), ([5], [5]), ([6], [6]), ([3, 0, 1, 2, 3], [3]), ([7, 8, 0, 1, 2, 3, 4, 5, 6, 7, 8], [7])])
    (.seq (.seq (.ops 13 false [
       ⟨some 70, .val (.t 0), none⟩,
       ⟨some 71, .call 137 [(.t 70)], none⟩] [])
      (.cond (.t 71) (.seq (.ops 14 false [
         ⟨some 72, .val (.t 0), none⟩,
         ⟨some 73, .nilCheck (.t 72), none⟩,
         ⟨some 74, .fieldA 32 (.t 73), none⟩,
         ⟨some 75, .loadN 32 (.t 74), none⟩,
         ⟨some 76, .val (.t 3), none⟩,
         ⟨some 77, .call 138 [(.t 75), (.t 76)], none⟩] [])
        (.cond (.t 77) (.ops 15 false [
          ⟨some 78, .val (.t 0), none⟩,
          ⟨some 11, .val (.t 78), none⟩] [])
         (.ops 16 false [
          ⟨some 79, .val (.t 0), none⟩,
          ⟨some 10, .val (.t 79), none⟩] [])))
       (.skip)))
     (.seq (.seq (.ops 17 false [
        ⟨some 80, .loadN 32 (.t 5), none⟩,
        ⟨some 81, .val (.t 3), none⟩,
        ⟨some 82, .call 138 [(.t 80), (.t 81)], none⟩] [])
       (.cond (.t 82) (.ops 18 false [
         ⟨some 83, .val (.t 11), none⟩,
         ⟨some 84, .loadN 32 (.t 5), none⟩,
         ⟨some 85, .loadN 32 (.t 6), none⟩,
         ⟨some 86, .val (.t 3), none⟩,
         ⟨some 87, .bin .add (.t 86) (.c (.int .i64 1)), none⟩,
         ⟨some 88, .call 127 [(.t 83), (.t 84), (.t 85), (.t 87)], none⟩,
         ⟨some 11, .val (.t 88), none⟩] [])
        (.ops 19 false [
         ⟨some 89, .val (.t 10), none⟩,
         ⟨some 90, .loadN 32 (.t 5), none⟩,
         ⟨some 91, .loadN 32 (.t 6), none⟩,
         ⟨some 92, .val (.t 3), none⟩,
         ⟨some 93, .bin .add (.t 92) (.c (.int .i64 1)), none⟩,
         ⟨some 94, .call 127 [(.t 89), (.t 90), (.t 91), (.t 93)], none⟩,
         ⟨some 10, .val (.t 94), none⟩] [])))
      (.seq (.ops 20 false [
        ⟨some 95, .val (.t 10), none⟩,
        ⟨some 96, .val (.t 11), none⟩,
        ⟨some 97, .call 140 [(.t 95), (.t 96)], none⟩,
        ⟨some 8, .val (.t 97), none⟩] [])
       (.ret)))))))
def rs127 : List RR := [.tmp 8]
theorem fun127 : FunR Tryd.prog 127 rc127 rs127 98 := ⟨Tryd.f127, Tryd.func127, by kernel_rfl, by kernel_rfl, by kernel_rfl⟩
/-- causeway/digest.New -/
def rc132 : RC :=
 .seq (.ops 0 false [
  ⟨some 0, .val (.c (.pointer none)), none⟩] [])
 (.seq (.ops 1 false [
   ⟨some 1, .call 151 [], none⟩,
   ⟨some 2, .build [(.int .u32 0), (.int .u32 0), (.int .u32 0), (.int .u32 0), (.int .u32 0), (.int .u32 0), (.int .u32 0), (.int .u32 0), (.int .u8 0), (.int .u8 0), (.int .u8 0), (.int .u8 0), (.int .u8 0), (.int .u8 0), (.int .u8 0), (.int .u8 0), (.int .u8 0), (.int .u8 0), (.int .u8 0), (.int .u8 0), (.int .u8 0), (.int .u8 0), (.int .u8 0), (.int .u8 0), (.int .u8 0), (.int .u8 0), (.int .u8 0), (.int .u8 0), (.int .u8 0), (.int .u8 0), (.int .u8 0), (.int .u8 0), (.int .u8 0), (.int .u8 0), (.int .u8 0), (.int .u8 0), (.int .u8 0), (.int .u8 0), (.int .u8 0), (.int .u8 0), (.int .u8 0), (.int .u8 0), (.int .u8 0), (.int .u8 0), (.int .u8 0), (.int .u8 0), (.int .u8 0), (.int .u8 0), (.int .u8 0), (.int .u8 0), (.int .u8 0), (.int .u8 0), (.int .u8 0), (.int .u8 0), (.int .u8 0), (.int .u8 0), (.int .u8 0), (.int .u8 0), (.int .u8 0), (.int .u8 0), (.int .u8 0), (.int .u8 0), (.int .u8 0), (.int .u8 0), (.int .u8 0), (.int .u8 0), (.int .u8 0), (.int .u8 0), (.int .u8 0), (.int .u8 0), (.int .u8 0), (.int .u8 0), (.int .i64 0)] [(0, 8, (.t 1))], none⟩,
   ⟨some 3, .box 226 (.t 2), none⟩,
   ⟨some 0, .val (.t 3), none⟩] [])
  (.ret))
def rs132 : List RR := [.tmp 0]
theorem fun132 : FunR Tryd.prog 132 rc132 rs132 4 := ⟨Tryd.f132, Tryd.func132, by kernel_rfl, by kernel_rfl, by kernel_rfl⟩
/-- (*causeway/digest.Hasher).Write -/
def rc133 : RC :=
 .block 0 (.loop (.seq (.seq (.ops 0 false [
     ⟨some 6, .val (.t 1), none⟩,
     ⟨some 7, .len (.t 6), none⟩,
     ⟨some 8, .bin .gtr (.t 7) (.c (.int .i64 0)), none⟩] [])
    (.cond (.t 8) (.skip)
     (.exit 0)))
   (.block 1 (.seq (.ops 1 false [
      ⟨some 9, .val (.t 0), none⟩,
      ⟨some 10, .nilCheck (.t 9), none⟩,
      ⟨some 11, .fieldA 72 (.t 10), none⟩,
      ⟨some 12, .load (.t 11), none⟩,
      ⟨some 13, .bin .rem (.t 12) (.c (.int .i64 64)), none⟩,
      ⟨some 4, .val (.t 13), none⟩] [])
     (.seq (.ops 2 false [
       ⟨some 14, .val (.t 0), none⟩,
       ⟨some 15, .nilCheck (.t 14), none⟩,
       ⟨some 16, .fieldA 8 (.t 15), none⟩,
       ⟨some 17, .val (.t 4), none⟩,
       ⟨some 18, .sliceA 64 1 (.t 16) (some (.t 17)) none, none⟩,
       ⟨some 19, .val (.t 1), none⟩,
       ⟨some 20, .blt .copy #[91, 91] 3 [(.t 18), (.t 19)], none⟩,
       ⟨some 5, .val (.t 20), none⟩] [])
      (.seq (.ops 3 false [
        ⟨some 21, .val (.t 1), none⟩,
        ⟨some 22, .val (.t 5), none⟩,
        ⟨some 23, .slice 1 (.t 21) (some (.t 22)) none none, none⟩,
        ⟨some 1, .val (.t 23), none⟩] [])
       (.seq (.ops 4 false [
         ⟨some 24, .val (.t 0), none⟩,
         ⟨some 25, .nilCheck (.t 24), none⟩,
         ⟨some 26, .fieldA 72 (.t 25), none⟩,
         ⟨some 27, .load (.t 26), none⟩,
         ⟨some 28, .val (.t 5), none⟩,
         ⟨some 29, .bin .add (.t 27) (.t 28), none⟩,
         ⟨some 30, .nilCheck (.t 24), none⟩,
         ⟨some 31, .fieldA 72 (.t 30), none⟩,
         ⟨none, .store 1 (.t 31) (.t 29), none⟩] [])
        (.seq (.ops 5 false [
          ⟨some 32, .val (.t 4), none⟩,
          ⟨some 33, .val (.t 5), none⟩,
          ⟨some 34, .bin .add (.t 32) (.t 33), none⟩,
          ⟨some 35, .bin .eql (.t 34) (.c (.int .i64 64)), none⟩] [])
         (.cond (.t 35) (.ops 6 true [
           ⟨some 36, .val (.t 0), none⟩,
           ⟨some 37, .val (.t 0), none⟩,
           ⟨some 38, .nilCheck (.t 37), none⟩,
           ⟨some 39, .fieldA 0 (.t 38), none⟩,
           ⟨some 40, .loadN 8 (.t 39), none⟩,
           ⟨some 41, .val (.t 0), none⟩,
           ⟨some 42, .nilCheck (.t 41), none⟩,
           ⟨some 43, .fieldA 8 (.t 42), none⟩,
           ⟨some 44, .loadN 64 (.t 43), none⟩,
           ⟨some 45, .call 152 [(.t 40), (.t 44)], none⟩,
           ⟨some 46, .nilCheck (.t 36), none⟩,
           ⟨some 47, .fieldA 0 (.t 46), none⟩,
           ⟨none, .store 8 (.t 47) (.t 45), none⟩] [([], []), ([], []), ([1], [1]), ([2], [2]), ([3], [3]), ([], []), ([5], [5]), ([6], [6]), ([7], [7]), ([4, 8], [4, 8]), ([0, 0, 1, 2, 3, 4, 5, 6, 7, 8, 9], [0]), ([10, 0, 1, 2, 3, 4, 5, 6, 7, 8, 9], [10]), ([11, 9, 9, 0, 1, 2, 3, 4, 5, 6, 7, 8, 9], [9, 11])])
          (.skip))))))))))
def rs133 : List RR := []
theorem fun133 : FunR Tryd.prog 133 rc133 rs133 48 := ⟨Tryd.f133, Tryd.func133, by kernel_rfl, by kernel_rfl, by kernel_rfl⟩
/-- (*causeway/digest.Hasher).Sum -/
def rc134 : RC :=
 .seq (.ops 0 false [
  ⟨some 2, .alloc 179 (List.replicate 32 (.int .u8 0)), none⟩] [])
 (.seq (.ops 1 false [
   ⟨some 3, .val (.t 0), none⟩,
   ⟨some 4, .call 153 [(.t 3), (.c (.int .u8 0)), (.c (.int .i64 0))], none⟩,
   ⟨none, .store 32 (.t 2) (.t 4), none⟩] [])
  (.ret))
def rs134 : List RR := [.cell 2 (some 32)]
theorem fun134 : FunR Tryd.prog 134 rc134 rs134 5 := ⟨Tryd.f134, Tryd.func134, by kernel_rfl, by kernel_rfl, by kernel_rfl⟩
/-- cmp.isNaN[string] -/
def rc135 : RC :=
 .seq (.ops 0 false [
  ⟨some 2, .val (.c (.bool false)), none⟩] [])
 (.seq (.ops 1 false [
   ⟨some 3, .val (.t 0), none⟩,
   ⟨some 4, .val (.t 0), none⟩,
   ⟨some 5, .eqp .str true (.t 3) (.t 4), none⟩,
   ⟨some 2, .val (.t 5), none⟩] [])
  (.ret))
def rs135 : List RR := [.tmp 2]
theorem fun135 : FunR Tryd.prog 135 rc135 rs135 6 := ⟨Tryd.f135, Tryd.func135, by kernel_rfl, by kernel_rfl, by kernel_rfl⟩
/-- (*causeway/sparse.node).single -/
def rc137 : RC :=
 .seq (.ops 0 false [
  ⟨some 2, .val (.c (.bool false)), none⟩] [])
 (.seq (.ops 1 false [
   ⟨some 3, .val (.t 0), none⟩,
   ⟨some 4, .eqp .ptr true (.t 3) (.c (.pointer none)), none⟩,
   ⟨some 5, .val (.t 4), none⟩,
   ⟨some 6, .val (.t 0), some (5, true)⟩,
   ⟨some 7, .nilCheck (.t 6), some (5, true)⟩,
   ⟨some 8, .fieldA 96 (.t 7), some (5, true)⟩,
   ⟨some 9, .load (.t 8), some (5, true)⟩,
   ⟨some 10, .eqp .ptr false (.t 9) (.c (.pointer none)), some (5, true)⟩,
   ⟨some 11, .pick (.t 5) (.t 10) (.c (.bool false)), none⟩,
   ⟨some 12, .val (.t 11), none⟩,
   ⟨some 13, .val (.t 0), some (12, true)⟩,
   ⟨some 14, .nilCheck (.t 13), some (12, true)⟩,
   ⟨some 15, .fieldA 97 (.t 14), some (12, true)⟩,
   ⟨some 16, .load (.t 15), some (12, true)⟩,
   ⟨some 17, .eqp .ptr false (.t 16) (.c (.pointer none)), some (12, true)⟩,
   ⟨some 18, .pick (.t 12) (.t 17) (.c (.bool false)), none⟩,
   ⟨some 19, .val (.t 18), none⟩,
   ⟨some 20, .val (.t 0), some (19, true)⟩,
   ⟨some 21, .nilCheck (.t 20), some (19, true)⟩,
   ⟨some 22, .fieldA 98 (.t 21), some (19, true)⟩,
   ⟨some 23, .load (.t 22), some (19, true)⟩,
   ⟨some 24, .not (.t 23), some (19, true)⟩,
   ⟨some 25, .pick (.t 19) (.t 24) (.c (.bool false)), none⟩,
   ⟨some 2, .val (.t 25), none⟩] [])
  (.ret))
def rs137 : List RR := [.tmp 2]
theorem fun137 : FunR Tryd.prog 137 rc137 rs137 26 := ⟨Tryd.f137, Tryd.func137, by kernel_rfl, by kernel_rfl, by kernel_rfl⟩
/-- causeway/sparse.bit -/
def rc138 : RC :=
 .seq (.ops 0 false [
  ⟨some 2, .box 179 (.t 0), none⟩,
  ⟨some 4, .val (.c (.bool false)), none⟩] [])
 (.seq (.ops 1 false [
   ⟨some 5, .val (.t 1), none⟩,
   ⟨some 6, .bin .quo (.t 5) (.c (.int .i64 8)), none⟩,
   ⟨some 7, .indexA 32 1 (.t 2) (.t 6), none⟩,
   ⟨some 8, .load (.t 7), none⟩,
   ⟨some 9, .val (.t 1), none⟩,
   ⟨some 10, .bin .rem (.t 9) (.c (.int .i64 8)), none⟩,
   ⟨some 11, .bin .sub (.c (.int .i64 7)) (.t 10), none⟩,
   ⟨some 12, .bin .shr (.t 8) (.t 11), none⟩,
   ⟨some 13, .bin .and (.t 12) (.c (.int .u8 1)), none⟩,
   ⟨some 14, .bin .eql (.t 13) (.c (.int .u8 1)), none⟩,
   ⟨some 4, .val (.t 14), none⟩] [])
  (.ret))
def rs138 : List RR := [.tmp 4]
theorem fun138 : FunR Tryd.prog 138 rc138 rs138 15 := ⟨Tryd.f138, Tryd.func138, by kernel_rfl, by kernel_rfl, by kernel_rfl⟩
/-- causeway/sparse.leaf -/
def rc139 : RC :=
 .seq (.ops 0 false [
  ⟨some 2, .box 179 (.t 0), none⟩,
  ⟨some 3, .box 179 (.t 1), none⟩,
  ⟨some 4, .val (.c (.pointer none)), none⟩] [])
 (.seq (.ops 1 true [
   ⟨some 5, .buildS 5 1 [(.int .u8 0)] [(0, 1, (.c (.int .u8 2)))], none⟩,
   ⟨some 6, .sliceA 32 1 (.t 2) none none, none⟩,
   ⟨some 7, .sliceA 32 1 (.t 3) none none, none⟩,
   ⟨some 8, .buildS 91 3 [(.slice none 0 0), (.slice none 0 0), (.slice none 0 0)] [(0, 1, (.t 5)), (1, 1, (.t 6)), (2, 1, (.t 7))], none⟩,
   ⟨some 9, .call 121 [(.t 8)], none⟩,
   ⟨some 10, .loadN 32 (.t 2), none⟩,
   ⟨some 11, .loadN 32 (.t 3), none⟩,
   ⟨some 12, .build [(.int .u8 0), (.int .u8 0), (.int .u8 0), (.int .u8 0), (.int .u8 0), (.int .u8 0), (.int .u8 0), (.int .u8 0), (.int .u8 0), (.int .u8 0), (.int .u8 0), (.int .u8 0), (.int .u8 0), (.int .u8 0), (.int .u8 0), (.int .u8 0), (.int .u8 0), (.int .u8 0), (.int .u8 0), (.int .u8 0), (.int .u8 0), (.int .u8 0), (.int .u8 0), (.int .u8 0), (.int .u8 0), (.int .u8 0), (.int .u8 0), (.int .u8 0), (.int .u8 0), (.int .u8 0), (.int .u8 0), (.int .u8 0), (.int .u8 0), (.int .u8 0), (.int .u8 0), (.int .u8 0), (.int .u8 0), (.int .u8 0), (.int .u8 0), (.int .u8 0), (.int .u8 0), (.int .u8 0), (.int .u8 0), (.int .u8 0), (.int .u8 0), (.int .u8 0), (.int .u8 0), (.int .u8 0), (.int .u8 0), (.int .u8 0), (.int .u8 0), (.int .u8 0), (.int .u8 0), (.int .u8 0), (.int .u8 0), (.int .u8 0), (.int .u8 0), (.int .u8 0), (.int .u8 0), (.int .u8 0), (.int .u8 0), (.int .u8 0), (.int .u8 0), (.int .u8 0), (.int .u8 0), (.int .u8 0), (.int .u8 0), (.int .u8 0), (.int .u8 0), (.int .u8 0), (.int .u8 0), (.int .u8 0), (.int .u8 0), (.int .u8 0), (.int .u8 0), (.int .u8 0), (.int .u8 0), (.int .u8 0), (.int .u8 0), (.int .u8 0), (.int .u8 0), (.int .u8 0), (.int .u8 0), (.int .u8 0), (.int .u8 0), (.int .u8 0), (.int .u8 0), (.int .u8 0), (.int .u8 0), (.int .u8 0), (.int .u8 0), (.int .u8 0), (.int .u8 0), (.int .u8 0), (.int .u8 0), (.int .u8 0), (.pointer none), (.pointer none), (.bool false)] [(0, 32, (.t 9)), (32, 32, (.t 10)), (64, 32, (.t 11))], none⟩,
   ⟨some 13, .box 207 (.t 12), none⟩,
   ⟨some 4, .val (.t 13), none⟩] [([], []), ([], []), ([], []), ([0, 1, 2], [0, 1, 2]), ([3], [3]), ([], []), ([], []), ([4, 5, 6], [4, 5, 6]), ([7], [7]), ([8, 4, 0, 1, 2, 3, 4, 5, 6, 7, 8], [8])])
  (.ret))
def rs139 : List RR := [.tmp 4]
theorem fun139 : FunR Tryd.prog 139 rc139 rs139 14 := ⟨Tryd.f139, Tryd.func139, by kernel_rfl, by kernel_rfl, by kernel_rfl⟩
/-- causeway/sparse.joined -/
def rc140 : RC :=
 .seq (.ops 0 false [
  ⟨some 4, .val (.c (.pointer none)), none⟩] [])
 (.seq (.block 0 (.seq (.ops 1 false [
     ⟨some 8, .val (.t 0), none⟩,
     ⟨some 9, .eqp .ptr false (.t 8) (.c (.pointer none)), none⟩,
     ⟨some 10, .val (.t 9), none⟩,
     ⟨some 11, .val (.t 1), some (10, true)⟩,
     ⟨some 12, .eqp .ptr false (.t 11) (.c (.pointer none)), some (10, true)⟩,
     ⟨some 13, .val (.t 12), some (10, true)⟩,
     ⟨some 14, .val (.t 1), some (13, false)⟩,
     ⟨some 15, .call 137 [(.t 14)], some (13, false)⟩,
     ⟨some 16, .pick (.t 13) (.c (.bool true)) (.t 15), some (10, true)⟩,
     ⟨some 17, .pick (.t 10) (.t 16) (.c (.bool false)), none⟩,
     ⟨some 7, .val (.t 17), none⟩] [])
    (.cond (.t 7) (.seq (.ops 2 false [
       ⟨some 18, .val (.t 1), none⟩,
       ⟨some 4, .val (.t 18), none⟩] [])
      (.ret))
     (.seq (.ops 3 false [
       ⟨some 20, .val (.t 1), none⟩,
       ⟨some 21, .eqp .ptr false (.t 20) (.c (.pointer none)), none⟩,
       ⟨some 22, .val (.t 21), none⟩,
       ⟨some 23, .val (.t 0), some (22, true)⟩,
       ⟨some 24, .call 137 [(.t 23)], some (22, true)⟩,
       ⟨some 25, .pick (.t 22) (.t 24) (.c (.bool false)), none⟩,
       ⟨some 19, .val (.t 25), none⟩] [])
      (.cond (.t 19) (.seq (.ops 4 false [
         ⟨some 26, .val (.t 0), none⟩,
         ⟨some 4, .val (.t 26), none⟩] [])
        (.ret))
       (.skip))))))
  (.seq (.ops 5 false [
    ⟨some 27, .val (.t 0), none⟩,
    ⟨some 28, .call 155 [(.t 27)], none⟩,
    ⟨some 29, .val (.t 1), none⟩,
    ⟨some 30, .call 155 [(.t 29)], none⟩,
    ⟨some 5, .alloc 179 (List.replicate 32 (.int .u8 0)), none⟩,
    ⟨some 6, .alloc 179 (List.replicate 32 (.int .u8 0)), none⟩,
    ⟨none, .store 32 (.t 5) (.t 28), none⟩,
    ⟨none, .store 32 (.t 6) (.t 30), none⟩] [])
   (.seq (.ops 6 true [
     ⟨some 31, .buildS 5 1 [(.int .u8 0)] [(0, 1, (.c (.int .u8 3)))], none⟩,
     ⟨some 32, .sliceA 32 1 (.t 5) none none, none⟩,
     ⟨some 33, .sliceA 32 1 (.t 6) none none, none⟩,
     ⟨some 34, .buildS 91 3 [(.slice none 0 0), (.slice none 0 0), (.slice none 0 0)] [(0, 1, (.t 31)), (1, 1, (.t 32)), (2, 1, (.t 33))], none⟩,
     ⟨some 35, .call 121 [(.t 34)], none⟩,
     ⟨some 36, .val (.t 0), none⟩,
     ⟨some 37, .val (.t 1), none⟩,
     ⟨some 38, .build [(.int .u8 0), (.int .u8 0), (.int .u8 0), (.int .u8 0), (.int .u8 0), (.int .u8 0), (.int .u8 0), (.int .u8 0), (.int .u8 0), (.int .u8 0), (.int .u8 0), (.int .u8 0), (.int .u8 0), (.int .u8 0), (.int .u8 0), (.int .u8 0), (.int .u8 0), (.int .u8 0), (.int .u8 0), (.int .u8 0), (.int .u8 0), (.int .u8 0), (.int .u8 0), (.int .u8 0), (.int .u8 0), (.int .u8 0), (.int .u8 0), (.int .u8 0), (.int .u8 0), (.int .u8 0), (.int .u8 0), (.int .u8 0), (.int .u8 0), (.int .u8 0), (.int .u8 0), (.int .u8 0), (.int .u8 0), (.int .u8 0), (.int .u8 0), (.int .u8 0), (.int .u8 0), (.int .u8 0), (.int .u8 0), (.int .u8 0), (.int .u8 0), (.int .u8 0), (.int .u8 0), (.int .u8 0), (.int .u8 0), (.int .u8 0), (.int .u8 0), (.int .u8 0), (.int .u8 0), (.int .u8 0), (.int .u8 0), (.int .u8 0), (.int .u8 0), (.int .u8 0), (.int .u8 0), (.int .u8 0), (.int .u8 0), (.int .u8 0), (.int .u8 0), (.int .u8 0), (.int .u8 0), (.int .u8 0), (.int .u8 0), (.int .u8 0), (.int .u8 0), (.int .u8 0), (.int .u8 0), (.int .u8 0), (.int .u8 0), (.int .u8 0), (.int .u8 0), (.int .u8 0), (.int .u8 0), (.int .u8 0), (.int .u8 0), (.int .u8 0), (.int .u8 0), (.int .u8 0), (.int .u8 0), (.int .u8 0), (.int .u8 0), (.int .u8 0), (.int .u8 0), (.int .u8 0), (.int .u8 0), (.int .u8 0), (.int .u8 0), (.int .u8 0), (.int .u8 0), (.int .u8 0), (.int .u8 0), (.int .u8 0), (.pointer none), (.pointer none), (.bool false)] [(0, 32, (.t 35)), (96, 1, (.t 36)), (97, 1, (.t 37))], none⟩,
     ⟨some 39, .box 207 (.t 38), none⟩,
     ⟨some 4, .val (.t 39), none⟩] [([], []), ([], []), ([], []), ([0, 1, 2], [0, 1, 2]), ([3], [3]), ([], []), ([], []), ([4, 5, 6], [4, 5, 6]), ([7], [7]), ([8, 4, 0, 1, 2, 3, 4, 5, 6, 7, 8], [8])])
    (.ret))))
def rs140 : List RR := [.tmp 4]
theorem fun140 : FunR Tryd.prog 140 rc140 rs140 40 := ⟨Tryd.f140, Tryd.func140, by kernel_rfl, by kernel_rfl, by kernel_rfl⟩
/-- causeway/digest.begin -/
def rc151 : RC :=
 .seq (.ops 0 false [
  ⟨some 0, .alloc 222 (List.replicate 8 (.int .u32 0)), none⟩] [])
 (.seq (.ops 1 false [
   ⟨some 1, .build (List.replicate 8 (.int .u32 0)) [(0, 1, (.c (.int .u32 1779033703))), (1, 1, (.c (.int .u32 3144134277))), (2, 1, (.c (.int .u32 1013904242))), (3, 1, (.c (.int .u32 2773480762))), (4, 1, (.c (.int .u32 1359893119))), (5, 1, (.c (.int .u32 2600822924))), (6, 1, (.c (.int .u32 528734635))), (7, 1, (.c (.int .u32 1541459225)))], none⟩,
   ⟨none, .store 8 (.t 0) (.t 1), none⟩] [])
  (.ret))
def rs151 : List RR := [.cell 0 (some 8)]
theorem fun151 : FunR Tryd.prog 151 rc151 rs151 2 := ⟨Tryd.f151, Tryd.func151, by kernel_rfl, by kernel_rfl, by kernel_rfl⟩
/-- (causeway/digest.state).take -/
def rc152 : RC :=
 .seq (.ops 0 false [
  ⟨some 2, .box 222 (.t 0), none⟩,
  ⟨some 3, .box 224 (.t 1), none⟩,
  ⟨some 4, .alloc 222 (List.replicate 8 (.int .u32 0)), none⟩] [])
 (.seq (.ops 1 false [
   ⟨some 20, .loadN 64 (.t 3), none⟩,
   ⟨some 21, .call 161 [(.t 20)], none⟩,
   ⟨some 5, .alloc 236 (List.replicate 64 (.int .u32 0)), none⟩,
   ⟨none, .store 64 (.t 5) (.t 21), none⟩] [])
  (.seq (.ops 2 true [
    ⟨some 22, .indexA 8 1 (.t 2) (.c (.int .i64 0)), none⟩,
    ⟨some 23, .load (.t 22), none⟩,
    ⟨some 24, .indexA 8 1 (.t 2) (.c (.int .i64 1)), none⟩,
    ⟨some 25, .load (.t 24), none⟩,
    ⟨some 26, .indexA 8 1 (.t 2) (.c (.int .i64 2)), none⟩,
    ⟨some 27, .load (.t 26), none⟩,
    ⟨some 28, .indexA 8 1 (.t 2) (.c (.int .i64 3)), none⟩,
    ⟨some 29, .load (.t 28), none⟩,
    ⟨some 30, .indexA 8 1 (.t 2) (.c (.int .i64 4)), none⟩,
    ⟨some 31, .load (.t 30), none⟩,
    ⟨some 32, .indexA 8 1 (.t 2) (.c (.int .i64 5)), none⟩,
    ⟨some 33, .load (.t 32), none⟩,
    ⟨some 34, .indexA 8 1 (.t 2) (.c (.int .i64 6)), none⟩,
    ⟨some 35, .load (.t 34), none⟩,
    ⟨some 36, .indexA 8 1 (.t 2) (.c (.int .i64 7)), none⟩,
    ⟨some 37, .load (.t 36), none⟩,
    ⟨some 6, .val (.t 23), none⟩,
    ⟨some 7, .val (.t 25), none⟩,
    ⟨some 8, .val (.t 27), none⟩,
    ⟨some 9, .val (.t 29), none⟩,
    ⟨some 10, .val (.t 31), none⟩,
    ⟨some 11, .val (.t 33), none⟩,
    ⟨some 12, .val (.t 35), none⟩,
    ⟨some 13, .val (.t 37), none⟩] [([], []), ([0], [0]), ([], []), ([2], [2]), ([], []), ([4], [4]), ([], []), ([6], [6]), ([], []), ([8], [8]), ([], []), ([10], [10]), ([], []), ([12], [12]), ([], []), ([14], [14]), ([1, 0, 1], [1]), ([3, 16, 0, 1, 2, 3, 16], [3]), ([5, 17, 0, 1, 2, 3, 4, 5, 16, 17], [5]), ([7, 18, 0, 1, 2, 3, 4, 5, 6, 7, 16, 17, 18], [7]), ([9, 19, 0, 1, 2, 3, 4, 5, 6, 7, 8, 9, 16, 17, 18, 19], [9]), ([11, 20, 0, 1, 2, 3, 4, 5, 6, 7, 8, 9, 10, 11, 16, 17, 18, 19, 20], [11]), ([13, 21, 0, 1, 2, 3, 4, 5, 6, 7, 8, 9, 10, 11, 12, 13, 16, 17, 18, 19, 20, 21], [13]), ([15, 22, 0, 1, 2, 3, 4, 5, 6, 7, 8, 9, 10, 11, 12, 13, 14, 15, 16, 17, 18, 19, 20, 21, 22], [15])])
   (.seq (.seq (.ops 3 false [
      ⟨some 38, .loadN 64 (.c (.pointer (some ⟨0, 0, none⟩))), none⟩,
      ⟨some 39, .val (.c (.int .i64 0)), none⟩] [])
     (.block 0 (.loop (.seq (.ops 4 false [
         ⟨some 40, .bin .lss (.t 39) (.c (.int .i64 64)), none⟩] [])
        (.seq (.cond (.t 40) (.skip)
          (.exit 0))
         (.seq (.block 1 (.seq (.ops 5 false [
             ⟨some 41, .val (.t 39), none⟩,
             ⟨some 42, .idx 236 (.t 38) (.t 39), none⟩,
             ⟨some 14, .val (.t 41), none⟩,
             ⟨some 15, .val (.t 42), none⟩] [])
            (.seq (.ops 6 false [
              ⟨some 43, .val (.t 10), none⟩,
              ⟨some 44, .call 162 [(.t 43), (.c (.int .i64 (-6)))], none⟩,
              ⟨some 45, .val (.t 10), none⟩,
              ⟨some 46, .call 162 [(.t 45), (.c (.int .i64 (-11)))], none⟩,
              ⟨some 47, .bin .xor (.t 44) (.t 46), none⟩,
              ⟨some 48, .val (.t 10), none⟩,
              ⟨some 49, .call 162 [(.t 48), (.c (.int .i64 (-25)))], none⟩,
              ⟨some 50, .bin .xor (.t 47) (.t 49), none⟩,
              ⟨some 16, .val (.t 50), none⟩] [])
             (.seq (.ops 7 false [
               ⟨some 51, .val (.t 16), none⟩,
               ⟨some 52, .val (.t 13), none⟩,
               ⟨some 53, .val (.t 10), none⟩,
               ⟨some 54, .val (.t 11), none⟩,
               ⟨some 55, .bin .and (.t 53) (.t 54), none⟩,
               ⟨some 56, .val (.t 10), none⟩,
               ⟨some 57, .bnot (.t 56), none⟩,
               ⟨some 58, .val (.t 12), none⟩,
               ⟨some 59, .bin .and (.t 57) (.t 58), none⟩,
               ⟨some 60, .bin .xor (.t 55) (.t 59), none⟩,
               ⟨some 61, .bin .add (.t 52) (.t 60), none⟩,
               ⟨some 62, .val (.t 15), none⟩,
               ⟨some 63, .bin .add (.t 61) (.t 62), none⟩,
               ⟨some 64, .val (.t 14), none⟩,
               ⟨some 65, .indexA 64 1 (.t 5) (.t 64), none⟩,
               ⟨some 66, .load (.t 65), none⟩,
               ⟨some 67, .bin .add (.t 63) (.t 66), none⟩,
               ⟨some 68, .bin .add (.t 51) (.t 67), none⟩,
               ⟨some 16, .val (.t 68), none⟩] [])
              (.seq (.ops 8 false [
                ⟨some 69, .val (.t 6), none⟩,
                ⟨some 70, .call 162 [(.t 69), (.c (.int .i64 (-2)))], none⟩,
                ⟨some 71, .val (.t 6), none⟩,
                ⟨some 72, .call 162 [(.t 71), (.c (.int .i64 (-13)))], none⟩,
                ⟨some 73, .bin .xor (.t 70) (.t 72), none⟩,
                ⟨some 74, .val (.t 6), none⟩,
                ⟨some 75, .call 162 [(.t 74), (.c (.int .i64 (-22)))], none⟩,
                ⟨some 76, .bin .xor (.t 73) (.t 75), none⟩,
                ⟨some 17, .val (.t 76), none⟩] [])
               (.seq (.ops 9 false [
                 ⟨some 77, .val (.t 17), none⟩,
                 ⟨some 78, .val (.t 6), none⟩,
                 ⟨some 79, .val (.t 7), none⟩,
                 ⟨some 80, .bin .and (.t 78) (.t 79), none⟩,
                 ⟨some 81, .val (.t 6), none⟩,
                 ⟨some 82, .val (.t 8), none⟩,
                 ⟨some 83, .bin .and (.t 81) (.t 82), none⟩,
                 ⟨some 84, .bin .xor (.t 80) (.t 83), none⟩,
                 ⟨some 85, .val (.t 7), none⟩,
                 ⟨some 86, .val (.t 8), none⟩,
                 ⟨some 87, .bin .and (.t 85) (.t 86), none⟩,
                 ⟨some 88, .bin .xor (.t 84) (.t 87), none⟩,
                 ⟨some 89, .bin .add (.t 77) (.t 88), none⟩,
                 ⟨some 17, .val (.t 89), none⟩] [])
                (.ops 10 false [
                 ⟨some 90, .val (.t 16), none⟩,
                 ⟨some 91, .val (.t 17), none⟩,
                 ⟨some 92, .bin .add (.t 90) (.t 91), none⟩,
                 ⟨some 93, .val (.t 6), none⟩,
                 ⟨some 94, .val (.t 7), none⟩,
                 ⟨some 95, .val (.t 8), none⟩,
                 ⟨some 96, .val (.t 9), none⟩,
                 ⟨some 97, .val (.t 16), none⟩,
                 ⟨some 98, .bin .add (.t 96) (.t 97), none⟩,
                 ⟨some 99, .val (.t 10), none⟩,
                 ⟨some 100, .val (.t 11), none⟩,
                 ⟨some 101, .val (.t 12), none⟩,
                 ⟨some 6, .val (.t 92), none⟩,
                 ⟨some 7, .val (.t 93), none⟩,
                 ⟨some 8, .val (.t 94), none⟩,
                 ⟨some 9, .val (.t 95), none⟩,
                 ⟨some 10, .val (.t 98), none⟩,
                 ⟨some 11, .val (.t 99), none⟩,
                 ⟨some 12, .val (.t 100), none⟩,
                 ⟨some 13, .val (.t 101), none⟩] [])))))))
          (.ops 11 false [
           ⟨some 102, .bin .add (.t 39) (.c (.int .i64 1)), none⟩,
           ⟨some 39, .val (.t 102), none⟩] [])))))))
    (.seq (.seq (.ops 12 false [
       ⟨some 103, .val (.t 6), none⟩,
       ⟨some 104, .val (.t 7), none⟩,
       ⟨some 105, .val (.t 8), none⟩,
       ⟨some 106, .val (.t 9), none⟩,
       ⟨some 107, .val (.t 10), none⟩,
       ⟨some 108, .val (.t 11), none⟩,
       ⟨some 109, .val (.t 12), none⟩,
       ⟨some 110, .val (.t 13), none⟩,
       ⟨some 111, .build (List.replicate 8 (.int .u32 0)) [(0, 1, (.t 103)), (1, 1, (.t 104)), (2, 1, (.t 105)), (3, 1, (.t 106)), (4, 1, (.t 107)), (5, 1, (.t 108)), (6, 1, (.t 109)), (7, 1, (.t 110))], none⟩,
       ⟨some 112, .val (.c (.int .i64 0)), none⟩] [])
      (.block 2 (.loop (.seq (.ops 13 false [
          ⟨some 113, .bin .lss (.t 112) (.c (.int .i64 8)), none⟩] [])
         (.seq (.cond (.t 113) (.skip)
           (.exit 2))
          (.seq (.block 3 (.seq (.ops 14 false [
              ⟨some 114, .val (.t 112), none⟩,
              ⟨some 115, .idx 221 (.t 111) (.t 112), none⟩,
              ⟨some 18, .val (.t 114), none⟩,
              ⟨some 19, .val (.t 115), none⟩] [])
             (.ops 15 false [
              ⟨some 116, .val (.t 18), none⟩,
              ⟨some 117, .indexA 8 1 (.t 2) (.t 116), none⟩,
              ⟨some 118, .load (.t 117), none⟩,
              ⟨some 119, .val (.t 19), none⟩,
              ⟨some 120, .bin .add (.t 118) (.t 119), none⟩,
              ⟨some 121, .indexA 8 1 (.t 2) (.t 116), none⟩,
              ⟨none, .store 1 (.t 121) (.t 120), none⟩] [])))
           (.ops 16 false [
            ⟨some 122, .bin .add (.t 112) (.c (.int .i64 1)), none⟩,
            ⟨some 112, .val (.t 122), none⟩] [])))))))
     (.seq (.ops 17 false [
       ⟨some 123, .loadN 8 (.t 2), none⟩,
       ⟨none, .store 8 (.t 4) (.t 123), none⟩] [])
      (.ret))))))
def rs152 : List RR := [.cell 4 (some 8)]
theorem fun152 : FunR Tryd.prog 152 rc152 rs152 124 := ⟨Tryd.f152, Tryd.func152, by kernel_rfl, by kernel_rfl, by kernel_rfl⟩
/-- (*causeway/digest.Hasher).end -/
def rc153 : RC :=
 .seq (.ops 0 false [
  ⟨some 6, .alloc 179 (List.replicate 32 (.int .u8 0)), none⟩] [])
 (.seq (.ops 1 true [
   ⟨some 14, .val (.t 0), none⟩,
   ⟨some 15, .nilCheck (.t 14), none⟩,
   ⟨some 16, .fieldA 0 (.t 15), none⟩,
   ⟨some 17, .loadN 8 (.t 16), none⟩,
   ⟨some 18, .val (.t 0), none⟩,
   ⟨some 19, .nilCheck (.t 18), none⟩,
   ⟨some 20, .fieldA 8 (.t 19), none⟩,
   ⟨some 21, .loadN 64 (.t 20), none⟩,
   ⟨some 7, .alloc 222 (List.replicate 8 (.int .u32 0)), none⟩,
   ⟨some 8, .alloc 224 (List.replicate 64 (.int .u8 0)), none⟩,
   ⟨none, .store 8 (.t 7) (.t 17), none⟩,
   ⟨none, .store 64 (.t 8) (.t 21), none⟩] [([], []), ([0], [0]), ([1], [1]), ([2], [2]), ([], []), ([4], [4]), ([5], [5]), ([6], [6]), ([], []), ([], []), ([8, 3, 0, 1, 2, 3, 8, 9], [3, 8]), ([9, 7, 10, 0, 1, 2, 3, 4, 5, 6, 7, 8, 9, 10], [7, 9])])
  (.seq (.ops 2 false [
    ⟨some 22, .val (.t 0), none⟩,
    ⟨some 23, .nilCheck (.t 22), none⟩,
    ⟨some 24, .fieldA 72 (.t 23), none⟩,
    ⟨some 25, .load (.t 24), none⟩,
    ⟨some 26, .bin .rem (.t 25) (.c (.int .i64 64)), none⟩,
    ⟨some 9, .val (.t 26), none⟩] [])
   (.seq (.ops 3 false [
     ⟨some 27, .val (.t 9), none⟩,
     ⟨some 28, .sliceA 64 1 (.t 8) (some (.t 27)) none, none⟩,
     ⟨none, .blt .clear #[91] 0 [(.t 28)], none⟩] [])
    (.seq (.ops 4 true [
      ⟨some 29, .val (.t 9), none⟩,
      ⟨some 30, .val (.t 1), none⟩,
      ⟨some 31, .val (.t 2), none⟩,
      ⟨some 32, .bin .shr (.c (.int .u8 255)) (.t 31), none⟩,
      ⟨some 33, .bin .andNot (.t 30) (.t 32), none⟩,
      ⟨some 34, .val (.t 2), none⟩,
      ⟨some 35, .bin .shr (.c (.int .u8 128)) (.t 34), none⟩,
      ⟨some 36, .bin .or (.t 33) (.t 35), none⟩,
      ⟨some 37, .indexA 64 1 (.t 8) (.t 29), none⟩,
      ⟨none, .store 1 (.t 37) (.t 36), none⟩] [([], []), ([], []), ([], []), ([2], [2]), ([1, 3], [1, 3]), ([], []), ([5], [5]), ([4, 6], [4, 6]), ([0, 0, 1, 2, 3, 4, 5, 6, 7], [0]), ([8, 7, 0, 1, 2, 3, 4, 5, 6, 7], [7, 8])])
     (.seq (.seq (.ops 5 false [
        ⟨some 38, .val (.t 9), none⟩,
        ⟨some 39, .bin .geq (.t 38) (.c (.int .i64 56)), none⟩] [])
       (.cond (.t 39) (.ops 6 false [
         ⟨some 40, .loadN 8 (.t 7), none⟩,
         ⟨some 41, .loadN 64 (.t 8), none⟩,
         ⟨some 42, .call 152 [(.t 40), (.t 41)], none⟩,
         ⟨some 43, .build (List.replicate 64 (.int .u8 0)) [], none⟩,
         ⟨none, .store 8 (.t 7) (.t 42), none⟩,
         ⟨none, .store 64 (.t 8) (.t 43), none⟩] [])
        (.skip)))
      (.seq (.ops 7 false [
        ⟨some 44, .val (.t 0), none⟩,
        ⟨some 45, .nilCheck (.t 44), none⟩,
        ⟨some 46, .fieldA 72 (.t 45), none⟩,
        ⟨some 47, .load (.t 46), none⟩,
        ⟨some 48, .conv .u64 (.t 47), none⟩,
        ⟨some 49, .bin .mul (.t 48) (.c (.int .u64 8)), none⟩,
        ⟨some 50, .val (.t 2), none⟩,
        ⟨some 51, .conv .u64 (.t 50), none⟩,
        ⟨some 52, .bin .add (.t 49) (.t 51), none⟩,
        ⟨some 10, .val (.t 52), none⟩] [])
       (.seq (.seq (.ops 8 false [
          ⟨some 53, .val (.c (.int .i64 0)), none⟩] [])
         (.block 0 (.loop (.seq (.ops 9 false [
             ⟨some 54, .bin .lss (.t 53) (.c (.int .i64 8)), none⟩] [])
            (.seq (.cond (.t 54) (.skip)
              (.exit 0))
             (.seq (.block 1 (.seq (.ops 10 false [
                 ⟨some 55, .val (.t 53), none⟩,
                 ⟨some 11, .val (.t 55), none⟩] [])
                (.ops 11 false [
                 ⟨some 56, .val (.t 11), none⟩,
                 ⟨some 57, .bin .sub (.c (.int .i64 63)) (.t 56), none⟩,
                 ⟨some 58, .val (.t 10), none⟩,
                 ⟨some 59, .val (.t 11), none⟩,
                 ⟨some 60, .bin .mul (.c (.int .i64 8)) (.t 59), none⟩,
                 ⟨some 61, .bin .shr (.t 58) (.t 60), none⟩,
                 ⟨some 62, .conv .u8 (.t 61), none⟩,
                 ⟨some 63, .indexA 64 1 (.t 8) (.t 57), none⟩,
                 ⟨none, .store 1 (.t 63) (.t 62), none⟩] [])))
              (.ops 12 false [
               ⟨some 64, .bin .add (.t 53) (.c (.int .i64 1)), none⟩,
               ⟨some 53, .val (.t 64), none⟩] [])))))))
        (.seq (.ops 13 false [
          ⟨some 65, .loadN 8 (.t 7), none⟩,
          ⟨some 66, .loadN 64 (.t 8), none⟩,
          ⟨some 67, .call 152 [(.t 65), (.t 66)], none⟩,
          ⟨none, .store 8 (.t 7) (.t 67), none⟩] [])
         (.seq (.ops 14 false [
           ⟨some 12, .alloc 179 (List.replicate 32 (.int .u8 0)), none⟩] [])
          (.seq (.seq (.ops 15 false [
             ⟨some 68, .val (.c (.int .i64 0)), none⟩] [])
            (.block 2 (.loop (.seq (.ops 16 false [
                ⟨some 69, .bin .lss (.t 68) (.c (.int .i64 32)), none⟩] [])
               (.seq (.cond (.t 69) (.skip)
                 (.exit 2))
                (.seq (.block 3 (.seq (.ops 17 false [
                    ⟨some 70, .val (.t 68), none⟩,
                    ⟨some 13, .val (.t 70), none⟩] [])
                   (.ops 18 false [
                    ⟨some 71, .val (.t 13), none⟩,
                    ⟨some 72, .val (.t 13), none⟩,
                    ⟨some 73, .bin .quo (.t 72) (.c (.int .i64 4)), none⟩,
                    ⟨some 74, .indexA 8 1 (.t 7) (.t 73), none⟩,
                    ⟨some 75, .load (.t 74), none⟩,
                    ⟨some 76, .val (.t 13), none⟩,
                    ⟨some 77, .bin .rem (.t 76) (.c (.int .i64 4)), none⟩,
                    ⟨some 78, .bin .mul (.c (.int .i64 8)) (.t 77), none⟩,
                    ⟨some 79, .bin .sub (.c (.int .i64 24)) (.t 78), none⟩,
                    ⟨some 80, .bin .shr (.t 75) (.t 79), none⟩,
                    ⟨some 81, .conv .u8 (.t 80), none⟩,
                    ⟨some 82, .indexA 32 1 (.t 12) (.t 71), none⟩,
                    ⟨none, .store 1 (.t 82) (.t 81), none⟩] [])))
                 (.ops 19 false [
                  ⟨some 83, .bin .add (.t 68) (.c (.int .i64 1)), none⟩,
                  ⟨some 68, .val (.t 83), none⟩] [])))))))
           (.seq (.ops 20 false [
             ⟨some 84, .loadN 32 (.t 12), none⟩,
             ⟨none, .store 32 (.t 6) (.t 84), none⟩] [])
            (.ret))))))))))))
def rs153 : List RR := [.cell 6 (some 32)]
theorem fun153 : FunR Tryd.prog 153 rc153 rs153 85 := ⟨Tryd.f153, Tryd.func153, by kernel_rfl, by kernel_rfl, by kernel_rfl⟩
/-- causeway/sparse.over -/
def rc155 : RC :=
 .seq (.ops 0 false [
  ⟨some 2, .alloc 179 (List.replicate 32 (.int .u8 0)), none⟩] [])
 (.seq (.seq (.ops 1 false [
    ⟨some 3, .val (.t 0), none⟩,
    ⟨some 4, .eqp .ptr false (.t 3) (.c (.pointer none)), none⟩] [])
   (.cond (.t 4) (.seq (.ops 2 false [
      ⟨some 5, .build (List.replicate 32 (.int .u8 0)) [], none⟩,
      ⟨none, .store 32 (.t 2) (.t 5), none⟩] [])
     (.ret))
    (.skip)))
  (.seq (.ops 3 false [
    ⟨some 6, .val (.t 0), none⟩,
    ⟨some 7, .nilCheck (.t 6), none⟩,
    ⟨some 8, .fieldA 0 (.t 7), none⟩,
    ⟨some 9, .loadN 32 (.t 8), none⟩,
    ⟨none, .store 32 (.t 2) (.t 9), none⟩] [])
   (.ret)))
def rs155 : List RR := [.cell 2 (some 32)]
theorem fun155 : FunR Tryd.prog 155 rc155 rs155 10 := ⟨Tryd.f155, Tryd.func155, by kernel_rfl, by kernel_rfl, by kernel_rfl⟩
/-- causeway/digest.words -/
def rc161 : RC :=
 .seq (.ops 0 false [
  ⟨some 1, .box 224 (.t 0), none⟩,
  ⟨some 2, .alloc 236 (List.replicate 64 (.int .u32 0)), none⟩] [])
 (.seq (.ops 1 false [
   ⟨some 3, .alloc 236 (List.replicate 64 (.int .u32 0)), none⟩] [])
  (.seq (.seq (.ops 2 false [
     ⟨some 8, .val (.c (.int .i64 0)), none⟩] [])
    (.block 0 (.loop (.seq (.ops 3 false [
        ⟨some 9, .bin .lss (.t 8) (.c (.int .i64 16)), none⟩] [])
       (.seq (.cond (.t 9) (.skip)
         (.exit 0))
        (.seq (.block 1 (.seq (.ops 4 false [
            ⟨some 10, .val (.t 8), none⟩,
            ⟨some 4, .val (.t 10), none⟩] [])
           (.ops 5 true [
            ⟨some 11, .val (.t 4), none⟩,
            ⟨some 12, .val (.t 4), none⟩,
            ⟨some 13, .bin .mul (.c (.int .i64 4)) (.t 12), none⟩,
            ⟨some 14, .indexA 64 1 (.t 1) (.t 13), none⟩,
            ⟨some 15, .load (.t 14), none⟩,
            ⟨some 16, .conv .u32 (.t 15), none⟩,
            ⟨some 17, .bin .shl (.t 16) (.c (.int .u64 24)), none⟩,
            ⟨some 18, .val (.t 4), none⟩,
            ⟨some 19, .bin .mul (.c (.int .i64 4)) (.t 18), none⟩,
            ⟨some 20, .bin .add (.t 19) (.c (.int .i64 1)), none⟩,
            ⟨some 21, .indexA 64 1 (.t 1) (.t 20), none⟩,
            ⟨some 22, .load (.t 21), none⟩,
            ⟨some 23, .conv .u32 (.t 22), none⟩,
            ⟨some 24, .bin .shl (.t 23) (.c (.int .u64 16)), none⟩,
            ⟨some 25, .bin .or (.t 17) (.t 24), none⟩,
            ⟨some 26, .val (.t 4), none⟩,
            ⟨some 27, .bin .mul (.c (.int .i64 4)) (.t 26), none⟩,
            ⟨some 28, .bin .add (.t 27) (.c (.int .i64 2)), none⟩,
            ⟨some 29, .indexA 64 1 (.t 1) (.t 28), none⟩,
            ⟨some 30, .load (.t 29), none⟩,
            ⟨some 31, .conv .u32 (.t 30), none⟩,
            ⟨some 32, .bin .shl (.t 31) (.c (.int .u64 8)), none⟩,
            ⟨some 33, .bin .or (.t 25) (.t 32), none⟩,
            ⟨some 34, .val (.t 4), none⟩,
            ⟨some 35, .bin .mul (.c (.int .i64 4)) (.t 34), none⟩,
            ⟨some 36, .bin .add (.t 35) (.c (.int .i64 3)), none⟩,
            ⟨some 37, .indexA 64 1 (.t 1) (.t 36), none⟩,
            ⟨some 38, .load (.t 37), none⟩,
            ⟨some 39, .conv .u32 (.t 38), none⟩,
            ⟨some 40, .bin .or (.t 33) (.t 39), none⟩,
            ⟨some 41, .indexA 64 1 (.t 3) (.t 11), none⟩,
            ⟨none, .store 1 (.t 41) (.t 40), none⟩] [([], []), ([], []), ([1], [1]), ([2], [2]), ([3], [3]), ([4], [4]), ([5], [5]), ([], []), ([7], [7]), ([8], [8]), ([9], [9]), ([10], [10]), ([11], [11]), ([12], [12]), ([6, 13], [6, 13]), ([], []), ([15], [15]), ([16], [16]), ([17], [17]), ([18], [18]), ([19], [19]), ([20], [20]), ([14, 21], [14, 21]), ([], []), ([23], [23]), ([24], [24]), ([25], [25]), ([26], [26]), ([27], [27]), ([22, 28], [22, 28]), ([0, 0, 1, 2, 3, 4, 5, 6, 7, 8, 9, 10, 11, 12, 13, 14, 15, 16, 17, 18, 19, 20, 21, 22, 23, 24, 25, 26, 27, 28, 29], [0]), ([30, 29, 0, 1, 2, 3, 4, 5, 6, 7, 8, 9, 10, 11, 12, 13, 14, 15, 16, 17, 18, 19, 20, 21, 22, 23, 24, 25, 26, 27, 28, 29], [29, 30])])))
         (.ops 6 false [
          ⟨some 42, .bin .add (.t 8) (.c (.int .i64 1)), none⟩,
          ⟨some 8, .val (.t 42), none⟩] [])))))))
   (.seq (.seq (.ops 7 false [
      ⟨some 5, .val (.c (.int .i64 16)), none⟩] [])
     (.block 2 (.loop (.seq (.seq (.ops 8 false [
          ⟨some 43, .val (.t 5), none⟩,
          ⟨some 44, .bin .lss (.t 43) (.c (.int .i64 64)), none⟩] [])
         (.cond (.t 44) (.skip)
          (.exit 2)))
        (.seq (.block 3 (.seq (.ops 10 true [
            ⟨some 47, .val (.t 5), none⟩,
            ⟨some 48, .bin .sub (.t 47) (.c (.int .i64 2)), none⟩,
            ⟨some 49, .indexA 64 1 (.t 3) (.t 48), none⟩,
            ⟨some 50, .load (.t 49), none⟩,
            ⟨some 51, .val (.t 5), none⟩,
            ⟨some 52, .bin .sub (.t 51) (.c (.int .i64 15)), none⟩,
            ⟨some 53, .indexA 64 1 (.t 3) (.t 52), none⟩,
            ⟨some 54, .load (.t 53), none⟩,
            ⟨some 6, .val (.t 50), none⟩,
            ⟨some 7, .val (.t 54), none⟩] [([], []), ([0], [0]), ([1], [1]), ([2], [2]), ([], []), ([4], [4]), ([5], [5]), ([6], [6]), ([3, 0, 1, 2, 3], [3]), ([7, 8, 0, 1, 2, 3, 4, 5, 6, 7, 8], [7])])
           (.seq (.ops 11 false [
             ⟨some 55, .val (.t 6), none⟩,
             ⟨some 56, .call 162 [(.t 55), (.c (.int .i64 (-17)))], none⟩,
             ⟨some 57, .val (.t 6), none⟩,
             ⟨some 58, .call 162 [(.t 57), (.c (.int .i64 (-19)))], none⟩,
             ⟨some 59, .bin .xor (.t 56) (.t 58), none⟩,
             ⟨some 60, .val (.t 6), none⟩,
             ⟨some 61, .bin .shr (.t 60) (.c (.int .u64 10)), none⟩,
             ⟨some 62, .bin .xor (.t 59) (.t 61), none⟩,
             ⟨some 6, .val (.t 62), none⟩] [])
            (.seq (.ops 12 false [
              ⟨some 63, .val (.t 7), none⟩,
              ⟨some 64, .call 162 [(.t 63), (.c (.int .i64 (-7)))], none⟩,
              ⟨some 65, .val (.t 7), none⟩,
              ⟨some 66, .call 162 [(.t 65), (.c (.int .i64 (-18)))], none⟩,
              ⟨some 67, .bin .xor (.t 64) (.t 66), none⟩,
              ⟨some 68, .val (.t 7), none⟩,
              ⟨some 69, .bin .shr (.t 68) (.c (.int .u64 3)), none⟩,
              ⟨some 70, .bin .xor (.t 67) (.t 69), none⟩,
              ⟨some 7, .val (.t 70), none⟩] [])
             (.ops 13 true [
              ⟨some 71, .val (.t 5), none⟩,
              ⟨some 72, .val (.t 6), none⟩,
              ⟨some 73, .val (.t 5), none⟩,
              ⟨some 74, .bin .sub (.t 73) (.c (.int .i64 7)), none⟩,
              ⟨some 75, .indexA 64 1 (.t 3) (.t 74), none⟩,
              ⟨some 76, .load (.t 75), none⟩,
              ⟨some 77, .bin .add (.t 72) (.t 76), none⟩,
              ⟨some 78, .val (.t 7), none⟩,
              ⟨some 79, .bin .add (.t 77) (.t 78), none⟩,
              ⟨some 80, .val (.t 5), none⟩,
              ⟨some 81, .bin .sub (.t 80) (.c (.int .i64 16)), none⟩,
              ⟨some 82, .indexA 64 1 (.t 3) (.t 81), none⟩,
              ⟨some 83, .load (.t 82), none⟩,
              ⟨some 84, .bin .add (.t 79) (.t 83), none⟩,
              ⟨some 85, .indexA 64 1 (.t 3) (.t 71), none⟩,
              ⟨none, .store 1 (.t 85) (.t 84), none⟩] [([], []), ([], []), ([], []), ([2], [2]), ([3], [3]), ([4], [4]), ([1, 5], [1, 5]), ([], []), ([6, 7], [6, 7]), ([], []), ([9], [9]), ([10], [10]), ([11], [11]), ([8, 12], [8, 12]), ([0, 0, 1, 2, 3, 4, 5, 6, 7, 8, 9, 10, 11, 12, 13], [0]), ([14, 13, 0, 1, 2, 3, 4, 5, 6, 7, 8, 9, 10, 11, 12, 13], [13, 14])])))))
         (.ops 9 false [
          ⟨some 45, .val (.t 5), none⟩,
          ⟨some 46, .bin .add (.t 45) (.c (.int .i64 1)), none⟩,
          ⟨some 5, .val (.t 46), none⟩] []))))))
    (.seq (.ops 14 false [
      ⟨some 86, .loadN 64 (.t 3), none⟩,
      ⟨none, .store 64 (.t 2) (.t 86), none⟩] [])
     (.ret)))))
def rs161 : List RR := [.cell 2 (some 64)]
theorem fun161 : FunR Tryd.prog 161 rc161 rs161 87 := ⟨Tryd.f161, Tryd.func161, by kernel_rfl, by kernel_rfl, by kernel_rfl⟩
/-- math/bits.RotateLeft32 -/
def rc162 : RC :=
 .seq (.ops 0 false [
  ⟨some 4, .val (.c (.int .u32 0)), none⟩] [])
 (.seq (.ops 1 false [
   ⟨some 6, .val (.t 1), none⟩,
   ⟨some 7, .conv .u64 (.t 6), none⟩,
   ⟨some 8, .bin .and (.t 7) (.c (.int .u64 31)), none⟩,
   ⟨some 5, .val (.t 8), none⟩] [])
  (.seq (.ops 2 false [
    ⟨some 9, .val (.t 0), none⟩,
    ⟨some 10, .val (.t 5), none⟩,
    ⟨some 11, .bin .shl (.t 9) (.t 10), none⟩,
    ⟨some 12, .val (.t 0), none⟩,
    ⟨some 13, .val (.t 5), none⟩,
    ⟨some 14, .bin .sub (.c (.int .u64 32)) (.t 13), none⟩,
    ⟨some 15, .bin .shr (.t 12) (.t 14), none⟩,
    ⟨some 16, .bin .or (.t 11) (.t 15), none⟩,
    ⟨some 4, .val (.t 16), none⟩] [])
   (.ret)))
def rs162 : List RR := [.tmp 4]
theorem fun162 : FunR Tryd.prog 162 rc162 rs162 17 := ⟨Tryd.f162, Tryd.func162, by kernel_rfl, by kernel_rfl, by kernel_rfl⟩
end Go.Proofs.YtnbcbdlbejdkpaaDoor
