/-
  The resolved texts of this seat's functions, printed by this session's own program, and that they are what the translation has.
-/
import Derived.Test.YtnbcbdlbejdkpaaDoorChecked
import Derived.Test.YtnbcbdlbejdkpaaDoorZCd
import Derived.KernelRfl
namespace Go.Proofs.YtnbcbdlbejdkpaaDoor
open Go Go.Sl
set_option maxRecDepth 100000
/-- causeway/causewaylaw08.LedgerGives -/
def rc3 : RC :=
 .seq (.ops 0 false [
  ⟨some 1, .box 27 (.t 0), none⟩,
  ⟨some 2, .val (.c (.bool false)), none⟩] [])
 (.seq (.ops 1 false [
   ⟨some 31, .call 9 [], none⟩,
   ⟨some 3, .val (.t 31), none⟩] [])
  (.seq (.ops 2 false [
    ⟨some 32, .call 10 [(.c (.slice none 0 0))], none⟩,
    ⟨some 4, .val (.t 32), none⟩] [])
   (.seq (.ops 3 false [
     ⟨some 33, .fieldA 0 (.t 1), none⟩,
     ⟨some 34, .load (.t 33), none⟩,
     ⟨some 35, .call 11 [(.t 34), (.c (.int .i64 64))], none⟩,
     ⟨some 5, .val (.t 35), none⟩] [])
    (.seq (.ops 4 false [
      ⟨some 36, .fieldA 2 (.t 1), none⟩,
      ⟨some 37, .loadN 4 (.t 36), none⟩,
      ⟨some 6, .alloc 25 [(.int .u64 0), (.int .u64 0), (.int .u64 0), (.int .u64 0)], none⟩,
      ⟨none, .store 4 (.t 6) (.t 37), none⟩] [])
     (.seq (.ops 5 false [
       ⟨some 38, .fieldA 6 (.t 1), none⟩,
       ⟨some 39, .loadN 4 (.t 38), none⟩,
       ⟨some 7, .alloc 25 [(.int .u64 0), (.int .u64 0), (.int .u64 0), (.int .u64 0)], none⟩,
       ⟨none, .store 4 (.t 7) (.t 39), none⟩] [])
      (.seq (.seq (.ops 6 false [
         ⟨some 40, .val (.t 3), none⟩,
         ⟨some 41, .not (.t 40), none⟩,
         ⟨some 42, .val (.t 41), none⟩,
         ⟨some 43, .val (.t 4), some (42, false)⟩,
         ⟨some 44, .eqp .ptr false (.t 43) (.c (.pointer none)), some (42, false)⟩,
         ⟨some 45, .pick (.t 42) (.c (.bool true)) (.t 44), none⟩,
         ⟨some 46, .val (.t 45), none⟩,
         ⟨some 47, .fieldA 1 (.t 1), some (46, false)⟩,
         ⟨some 48, .load (.t 47), some (46, false)⟩,
         ⟨some 49, .len (.t 48), some (46, false)⟩,
         ⟨some 50, .bin .lss (.t 49) (.c (.int .i64 3)), some (46, false)⟩,
         ⟨some 51, .pick (.t 46) (.c (.bool true)) (.t 50), none⟩] [])
        (.cond (.t 51) (.seq (.ops 7 false [
           ⟨some 52, .val (.t 3), none⟩,
           ⟨some 2, .val (.t 52), none⟩] [])
          (.ret))
         (.skip)))
       (.seq (.ops 8 false [
         ⟨some 53, .fieldA 1 (.t 1), none⟩,
         ⟨some 54, .load (.t 53), none⟩,
         ⟨some 55, .indexS 20 (.t 54) (.c (.int .i64 0)), none⟩,
         ⟨some 56, .loadN 20 (.t 55), none⟩,
         ⟨some 8, .alloc 33 (List.replicate 20 (.int .u8 0)), none⟩,
         ⟨none, .store 20 (.t 8) (.t 56), none⟩] [])
        (.seq (.ops 9 false [
          ⟨some 57, .fieldA 1 (.t 1), none⟩,
          ⟨some 58, .load (.t 57), none⟩,
          ⟨some 59, .indexS 20 (.t 58) (.c (.int .i64 1)), none⟩,
          ⟨some 60, .loadN 20 (.t 59), none⟩,
          ⟨some 9, .alloc 33 (List.replicate 20 (.int .u8 0)), none⟩,
          ⟨none, .store 20 (.t 9) (.t 60), none⟩] [])
         (.seq (.ops 10 false [
           ⟨some 61, .fieldA 1 (.t 1), none⟩,
           ⟨some 62, .load (.t 61), none⟩,
           ⟨some 63, .indexS 20 (.t 62) (.c (.int .i64 2)), none⟩,
           ⟨some 64, .loadN 20 (.t 63), none⟩,
           ⟨some 10, .alloc 33 (List.replicate 20 (.int .u8 0)), none⟩,
           ⟨none, .store 20 (.t 10) (.t 64), none⟩] [])
          (.seq (.ops 11 false [
            ⟨some 65, .val (.t 4), none⟩,
            ⟨some 66, .val (.t 5), none⟩,
            ⟨some 67, .call 12 [(.t 65), (.t 66)], none⟩,
            ⟨some 11, .val (.t 67), none⟩] [])
           (.seq (.ops 12 false [
             ⟨some 68, .val (.t 4), none⟩,
             ⟨some 69, .val (.t 5), none⟩,
             ⟨some 70, .loadN 20 (.t 8), none⟩,
             ⟨some 71, .loadN 4 (.t 6), none⟩,
             ⟨some 72, .call 13 [(.t 68), (.t 69), (.t 70), (.t 71)], none⟩,
             ⟨some 12, .val (.t 72), none⟩] [])
            (.seq (.ops 13 false [
              ⟨some 73, .val (.t 4), none⟩,
              ⟨some 74, .val (.t 5), none⟩,
              ⟨some 75, .loadN 20 (.t 8), none⟩,
              ⟨some 76, .loadN 20 (.t 9), none⟩,
              ⟨some 77, .loadN 4 (.t 7), none⟩,
              ⟨some 78, .call 14 [(.t 73), (.t 74), (.t 75), (.t 76), (.t 77)], none⟩,
              ⟨some 13, .val (.t 78), none⟩] [])
             (.seq (.ops 14 false [
               ⟨some 79, .loadN 4 (.t 6), none⟩,
               ⟨some 80, .loadN 4 (.t 7), none⟩,
               ⟨some 81, .call 15 [(.t 79), (.t 80)], none⟩,
               ⟨some 82, .bin .lss (.t 81) (.c (.int .i64 0)), none⟩,
               ⟨some 14, .val (.t 82), none⟩] [])
              (.seq (.seq (.ops 15 false [
                 ⟨some 83, .val (.t 11), none⟩,
                 ⟨some 84, .bin .neq (.t 83) (.c (.int .i64 0)), none⟩,
                 ⟨some 85, .val (.t 84), none⟩,
                 ⟨some 86, .val (.t 12), some (85, false)⟩,
                 ⟨some 87, .bin .neq (.t 86) (.c (.int .i64 0)), some (85, false)⟩,
                 ⟨some 88, .pick (.t 85) (.c (.bool true)) (.t 87), none⟩,
                 ⟨some 89, .val (.t 88), none⟩,
                 ⟨some 90, .val (.t 14), some (89, false)⟩,
                 ⟨some 91, .val (.t 90), some (89, false)⟩,
                 ⟨some 92, .val (.t 13), some (91, true)⟩,
                 ⟨some 93, .bin .neq (.t 92) (.c (.int .i64 85)), some (91, true)⟩,
                 ⟨some 94, .pick (.t 91) (.t 93) (.c (.bool false)), some (89, false)⟩,
                 ⟨some 95, .pick (.t 89) (.c (.bool true)) (.t 94), none⟩,
                 ⟨some 96, .val (.t 95), none⟩,
                 ⟨some 97, .val (.t 14), some (96, false)⟩,
                 ⟨some 98, .not (.t 97), some (96, false)⟩,
                 ⟨some 99, .val (.t 98), some (96, false)⟩,
                 ⟨some 100, .val (.t 13), some (99, true)⟩,
                 ⟨some 101, .bin .neq (.t 100) (.c (.int .i64 0)), some (99, true)⟩,
                 ⟨some 102, .pick (.t 99) (.t 101) (.c (.bool false)), some (96, false)⟩,
                 ⟨some 103, .pick (.t 96) (.c (.bool true)) (.t 102), none⟩] [])
                (.cond (.t 103) (.seq (.ops 16 false [
                   ⟨some 2, .val (.c (.bool false)), none⟩] [])
                  (.ret))
                 (.skip)))
               (.seq (.seq (.ops 17 false [
                  ⟨some 104, .val (.t 14), none⟩] [])
                 (.cond (.t 104) (.seq (.ops 18 false [
                    ⟨some 2, .val (.c (.bool true)), none⟩] [])
                   (.ret))
                  (.skip)))
                (.seq (.ops 19 false [
                  ⟨some 105, .val (.t 4), none⟩,
                  ⟨some 106, .val (.t 5), none⟩,
                  ⟨some 107, .loadN 20 (.t 9), none⟩,
                  ⟨some 108, .loadN 20 (.t 8), none⟩,
                  ⟨some 109, .loadN 4 (.t 7), none⟩,
                  ⟨some 110, .call 14 [(.t 105), (.t 106), (.t 107), (.t 108), (.t 109)], none⟩,
                  ⟨some 15, .val (.t 110), none⟩] [])
                 (.seq (.ops 20 false [
                   ⟨some 112, .val (.t 4), none⟩,
                   ⟨some 113, .val (.t 5), none⟩,
                   ⟨some 114, .loadN 20 (.t 8), none⟩,
                   ⟨some 115, .call 16 [(.t 112), (.t 113), (.t 114)], none⟩,
                   ⟨some 111, .val (.t 115), none⟩,
                   ⟨some 116, .extract 0 (.t 111), none⟩,
                   ⟨some 117, .extract 1 (.t 111), none⟩,
                   ⟨some 16, .alloc 25 [(.int .u64 0), (.int .u64 0), (.int .u64 0), (.int .u64 0)], none⟩,
                   ⟨none, .store 4 (.t 16) (.t 116), none⟩,
                   ⟨some 17, .val (.t 117), none⟩] [])
                  (.seq (.ops 21 false [
                    ⟨some 118, .val (.t 4), none⟩,
                    ⟨some 119, .val (.t 5), none⟩,
                    ⟨some 120, .loadN 20 (.t 10), none⟩,
                    ⟨some 121, .loadN 20 (.t 8), none⟩,
                    ⟨some 122, .loadN 20 (.t 9), none⟩,
                    ⟨some 123, .loadN 4 (.t 7), none⟩,
                    ⟨some 124, .call 17 [(.t 118), (.t 119), (.t 120), (.t 121), (.t 122), (.t 123)], none⟩,
                    ⟨some 18, .val (.t 124), none⟩] [])
                   (.seq (.ops 22 false [
                     ⟨some 125, .val (.t 4), none⟩,
                     ⟨some 126, .val (.t 5), none⟩,
                     ⟨some 127, .loadN 20 (.t 8), none⟩,
                     ⟨some 128, .loadN 20 (.t 10), none⟩,
                     ⟨some 129, .loadN 4 (.t 7), none⟩,
                     ⟨some 130, .call 18 [(.t 125), (.t 126), (.t 127), (.t 128), (.t 129)], none⟩,
                     ⟨some 19, .val (.t 130), none⟩] [])
                    (.seq (.ops 23 false [
                      ⟨some 131, .val (.t 4), none⟩,
                      ⟨some 132, .val (.t 5), none⟩,
                      ⟨some 133, .loadN 20 (.t 10), none⟩,
                      ⟨some 134, .loadN 20 (.t 8), none⟩,
                      ⟨some 135, .loadN 20 (.t 9), none⟩,
                      ⟨some 136, .loadN 4 (.t 7), none⟩,
                      ⟨some 137, .call 17 [(.t 131), (.t 132), (.t 133), (.t 134), (.t 135), (.t 136)], none⟩,
                      ⟨some 20, .val (.t 137), none⟩] [])
                     (.seq (.ops 24 false [
                       ⟨some 139, .val (.t 4), none⟩,
                       ⟨some 140, .val (.t 5), none⟩,
                       ⟨some 141, .loadN 20 (.t 8), none⟩,
                       ⟨some 142, .loadN 20 (.t 10), none⟩,
                       ⟨some 143, .call 19 [(.t 139), (.t 140), (.t 141), (.t 142)], none⟩,
                       ⟨some 138, .val (.t 143), none⟩,
                       ⟨some 144, .extract 0 (.t 138), none⟩,
                       ⟨some 145, .extract 1 (.t 138), none⟩,
                       ⟨some 21, .alloc 25 [(.int .u64 0), (.int .u64 0), (.int .u64 0), (.int .u64 0)], none⟩,
                       ⟨none, .store 4 (.t 21) (.t 144), none⟩,
                       ⟨some 22, .val (.t 145), none⟩] [])
                      (.seq (.seq (.ops 25 false [
                         ⟨some 146, .val (.t 15), none⟩,
                         ⟨some 147, .bin .neq (.t 146) (.c (.int .i64 0)), none⟩,
                         ⟨some 148, .val (.t 147), none⟩,
                         ⟨some 149, .val (.t 17), some (148, false)⟩,
                         ⟨some 150, .bin .neq (.t 149) (.c (.int .i64 0)), some (148, false)⟩,
                         ⟨some 151, .pick (.t 148) (.c (.bool true)) (.t 150), none⟩,
                         ⟨some 152, .val (.t 151), none⟩,
                         ⟨some 153, .loadN 4 (.t 16), some (152, false)⟩,
                         ⟨some 154, .loadN 4 (.t 6), some (152, false)⟩,
                         ⟨some 155, .eqn true 25 (.t 153) (.t 154), some (152, false)⟩,
                         ⟨some 156, .pick (.t 152) (.c (.bool true)) (.t 155), none⟩,
                         ⟨some 157, .val (.t 156), none⟩,
                         ⟨some 158, .val (.t 19), some (157, false)⟩,
                         ⟨some 159, .bin .neq (.t 158) (.c (.int .i64 0)), some (157, false)⟩,
                         ⟨some 160, .pick (.t 157) (.c (.bool true)) (.t 159), none⟩,
                         ⟨some 161, .val (.t 160), none⟩,
                         ⟨some 162, .val (.t 20), some (161, false)⟩,
                         ⟨some 163, .bin .neq (.t 162) (.c (.int .i64 0)), some (161, false)⟩,
                         ⟨some 164, .pick (.t 161) (.c (.bool true)) (.t 163), none⟩,
                         ⟨some 165, .val (.t 164), none⟩,
                         ⟨some 166, .val (.t 22), some (165, false)⟩,
                         ⟨some 167, .bin .neq (.t 166) (.c (.int .i64 0)), some (165, false)⟩,
                         ⟨some 168, .pick (.t 165) (.c (.bool true)) (.t 167), none⟩,
                         ⟨some 169, .val (.t 168), none⟩,
                         ⟨some 170, .loadN 4 (.t 21), some (169, false)⟩,
                         ⟨some 171, .build [(.int .u64 0), (.int .u64 0), (.int .u64 0), (.int .u64 0)] [], some (169, false)⟩,
                         ⟨some 172, .eqn true 25 (.t 170) (.t 171), some (169, false)⟩,
                         ⟨some 173, .pick (.t 169) (.c (.bool true)) (.t 172), none⟩] [])
                        (.cond (.t 173) (.seq (.ops 26 false [
                           ⟨some 2, .val (.c (.bool false)), none⟩] [])
                          (.ret))
                         (.skip)))
                       (.seq (.seq (.ops 27 false [
                          ⟨some 174, .val (.t 18), none⟩,
                          ⟨some 175, .bin .eql (.t 174) (.c (.int .i64 0)), none⟩,
                          ⟨some 176, .loadN 4 (.t 7), none⟩,
                          ⟨some 177, .build [(.int .u64 0), (.int .u64 0), (.int .u64 0), (.int .u64 0)] [], none⟩,
                          ⟨some 178, .eqn false 25 (.t 176) (.t 177), none⟩,
                          ⟨some 179, .eqp .bool true (.t 175) (.t 178), none⟩,
                          ⟨some 180, .val (.t 179), none⟩,
                          ⟨some 181, .val (.t 18), some (180, false)⟩,
                          ⟨some 182, .bin .neq (.t 181) (.c (.int .i64 0)), some (180, false)⟩,
                          ⟨some 183, .val (.t 182), some (180, false)⟩,
                          ⟨some 184, .val (.t 18), some (183, true)⟩,
                          ⟨some 185, .bin .neq (.t 184) (.c (.int .i64 86)), some (183, true)⟩,
                          ⟨some 186, .pick (.t 183) (.t 185) (.c (.bool false)), some (180, false)⟩,
                          ⟨some 187, .pick (.t 180) (.c (.bool true)) (.t 186), none⟩] [])
                         (.cond (.t 187) (.seq (.ops 28 false [
                            ⟨some 2, .val (.c (.bool false)), none⟩] [])
                           (.ret))
                          (.skip)))
                        (.seq (.ops 29 false [
                          ⟨some 189, .val (.t 4), none⟩,
                          ⟨some 190, .val (.t 5), none⟩,
                          ⟨some 191, .loadN 20 (.t 8), none⟩,
                          ⟨some 192, .call 16 [(.t 189), (.t 190), (.t 191)], none⟩,
                          ⟨some 188, .val (.t 192), none⟩,
                          ⟨some 193, .extract 0 (.t 188), none⟩,
                          ⟨some 194, .extract 1 (.t 188), none⟩,
                          ⟨some 23, .alloc 25 [(.int .u64 0), (.int .u64 0), (.int .u64 0), (.int .u64 0)], none⟩,
                          ⟨none, .store 4 (.t 23) (.t 193), none⟩,
                          ⟨some 24, .val (.t 194), none⟩] [])
                         (.seq (.ops 30 false [
                           ⟨some 196, .val (.t 4), none⟩,
                           ⟨some 197, .val (.t 5), none⟩,
                           ⟨some 198, .loadN 20 (.t 9), none⟩,
                           ⟨some 199, .call 16 [(.t 196), (.t 197), (.t 198)], none⟩,
                           ⟨some 195, .val (.t 199), none⟩,
                           ⟨some 200, .extract 0 (.t 195), none⟩,
                           ⟨some 201, .extract 1 (.t 195), none⟩,
                           ⟨some 25, .alloc 25 [(.int .u64 0), (.int .u64 0), (.int .u64 0), (.int .u64 0)], none⟩,
                           ⟨none, .store 4 (.t 25) (.t 200), none⟩,
                           ⟨some 26, .val (.t 201), none⟩] [])
                          (.seq (.ops 31 false [
                            ⟨some 202, .val (.t 4), none⟩,
                            ⟨some 203, .val (.t 5), none⟩,
                            ⟨some 204, .loadN 20 (.t 8), none⟩,
                            ⟨some 205, .loadN 4 (.t 23), none⟩,
                            ⟨some 206, .call 20 [(.t 202), (.t 203), (.t 204), (.t 205)], none⟩,
                            ⟨some 27, .val (.t 206), none⟩] [])
                           (.seq (.ops 32 false [
                             ⟨some 28, .val (.c (.int .i64 0)), none⟩] [])
                            (.seq (.seq (.ops 33 false [
                               ⟨some 207, .loadN 20 (.t 8), none⟩,
                               ⟨some 208, .loadN 20 (.t 9), none⟩,
                               ⟨some 209, .eqn true 33 (.t 207) (.t 208), none⟩] [])
                              (.cond (.t 209) (.ops 34 false [
                                ⟨some 210, .val (.t 4), none⟩,
                                ⟨some 211, .val (.t 5), none⟩,
                                ⟨some 212, .loadN 20 (.t 9), none⟩,
                                ⟨some 213, .loadN 4 (.t 25), none⟩,
                                ⟨some 214, .call 20 [(.t 210), (.t 211), (.t 212), (.t 213)], none⟩,
                                ⟨some 28, .val (.t 214), none⟩] [])
                               (.skip)))
                             (.seq (.ops 35 false [
                               ⟨some 216, .val (.t 4), none⟩,
                               ⟨some 217, .val (.t 5), none⟩,
                               ⟨some 218, .call 21 [(.t 216), (.t 217)], none⟩,
                               ⟨some 215, .val (.t 218), none⟩,
                               ⟨some 219, .extract 0 (.t 215), none⟩,
                               ⟨some 220, .extract 1 (.t 215), none⟩,
                               ⟨some 29, .alloc 44 [(.bool false), (.bool false), (.int .u64 0), (.int .u64 0), (.int .u64 0), (.int .u64 0)], none⟩,
                               ⟨none, .store 6 (.t 29) (.t 219), none⟩,
                               ⟨some 30, .val (.t 220), none⟩] [])
                              (.seq (.ops 36 false [
                                ⟨some 221, .val (.t 24), none⟩,
                                ⟨some 222, .bin .eql (.t 221) (.c (.int .i64 0)), none⟩,
                                ⟨some 223, .val (.t 222), none⟩,
                                ⟨some 224, .val (.t 26), some (223, true)⟩,
                                ⟨some 225, .bin .eql (.t 224) (.c (.int .i64 0)), some (223, true)⟩,
                                ⟨some 226, .pick (.t 223) (.t 225) (.c (.bool false)), none⟩,
                                ⟨some 227, .val (.t 226), none⟩,
                                ⟨some 228, .val (.t 27), some (227, true)⟩,
                                ⟨some 229, .bin .eql (.t 228) (.c (.int .i64 0)), some (227, true)⟩,
                                ⟨some 230, .pick (.t 227) (.t 229) (.c (.bool false)), none⟩,
                                ⟨some 231, .val (.t 230), none⟩,
                                ⟨some 232, .val (.t 28), some (231, true)⟩,
                                ⟨some 233, .bin .eql (.t 232) (.c (.int .i64 0)), some (231, true)⟩,
                                ⟨some 234, .pick (.t 231) (.t 233) (.c (.bool false)), none⟩,
                                ⟨some 235, .val (.t 234), none⟩,
                                ⟨some 236, .val (.t 30), some (235, true)⟩,
                                ⟨some 237, .bin .eql (.t 236) (.c (.int .i64 0)), some (235, true)⟩,
                                ⟨some 238, .pick (.t 235) (.t 237) (.c (.bool false)), none⟩,
                                ⟨some 239, .val (.t 238), none⟩,
                                ⟨some 240, .loadN 6 (.t 29), some (239, true)⟩,
                                ⟨some 241, .build [(.bool false), (.bool false), (.int .u64 0), (.int .u64 0), (.int .u64 0), (.int .u64 0)] [(0, 1, (.c (.bool true)))], some (239, true)⟩,
                                ⟨some 242, .eqn false 44 (.t 240) (.t 241), some (239, true)⟩,
                                ⟨some 243, .pick (.t 239) (.t 242) (.c (.bool false)), none⟩,
                                ⟨some 2, .val (.t 243), none⟩] [])
                               (.ret)))))))))))))))))))))))))))))))
def rs3 : List RR := [.tmp 2]
theorem fun3 : FunR Tryd.prog 3 rc3 rs3 244 := ⟨Tryd.f3, Tryd.func3, by kernel_rfl, by kernel_rfl, by kernel_rfl⟩
/-- causeway/causewaylaw08.LedgerNils -/
def rc4 : RC :=
 .seq (.ops 0 false [
  ⟨some 1, .box 49 (.t 0), none⟩,
  ⟨some 2, .val (.c (.bool false)), none⟩] [])
 (.seq (.ops 1 false [
   ⟨some 5, .call 9 [], none⟩,
   ⟨some 3, .val (.t 5), none⟩] [])
  (.seq (.seq (.ops 2 false [
     ⟨some 6, .fieldA 0 (.t 1), none⟩,
     ⟨some 7, .load (.t 6), none⟩,
     ⟨some 8, .call 11 [(.t 7), (.c (.int .i64 13))], none⟩,
     ⟨some 9, .bin .gtr (.t 8) (.c (.int .i64 10)), none⟩] [])
    (.cond (.t 9) (.seq (.ops 3 false [
       ⟨some 10, .val (.t 3), none⟩,
       ⟨some 2, .val (.t 10), none⟩] [])
      (.ret))
     (.skip)))
   (.seq (.ops 4 false [
     ⟨some 11, .loadN 66 (.t 1), none⟩,
     ⟨some 12, .call 22 [(.c (.pointer none)), (.t 11)], none⟩,
     ⟨some 4, .alloc 51 [(.int .i64 0), (.bool false), (.bool false), (.int .u64 0), (.int .u64 0), (.int .u64 0), (.int .u64 0), (.int .u64 0), (.int .u64 0), (.int .u64 0), (.int .u64 0), (.int .i64 0)], none⟩,
     ⟨none, .store 12 (.t 4) (.t 12), none⟩] [])
    (.seq (.ops 5 false [
      ⟨some 13, .val (.t 3), none⟩,
      ⟨some 14, .val (.t 13), none⟩,
      ⟨some 15, .loadN 12 (.t 4), some (14, true)⟩,
      ⟨some 16, .build [(.int .i64 0), (.bool false), (.bool false), (.int .u64 0), (.int .u64 0), (.int .u64 0), (.int .u64 0), (.int .u64 0), (.int .u64 0), (.int .u64 0), (.int .u64 0), (.int .i64 0)] [(0, 1, (.c (.int .i64 1)))], some (14, true)⟩,
      ⟨some 17, .eqn false 51 (.t 15) (.t 16), some (14, true)⟩,
      ⟨some 18, .pick (.t 14) (.t 17) (.c (.bool false)), none⟩,
      ⟨some 2, .val (.t 18), none⟩] [])
     (.ret)))))
def rs4 : List RR := [.tmp 2]
theorem fun4 : FunR Tryd.prog 4 rc4 rs4 19 := ⟨Tryd.f4, Tryd.func4, by kernel_rfl, by kernel_rfl, by kernel_rfl⟩
/-- causeway/causewaylaw08.known -/
def rc9 : RC :=
 .seq (.ops 0 false [
  ⟨some 0, .val (.c (.bool false)), none⟩] [])
 (.seq (.ops 1 false [
   ⟨some 15, .call 10 [(.c (.slice none 0 0))], none⟩,
   ⟨some 1, .val (.t 15), none⟩] [])
  (.seq (.seq (.ops 2 false [
     ⟨some 16, .val (.t 1), none⟩,
     ⟨some 17, .eqp .ptr false (.t 16) (.c (.pointer none)), none⟩] [])
    (.cond (.t 17) (.seq (.ops 3 false [
       ⟨some 0, .val (.c (.bool false)), none⟩] [])
      (.ret))
     (.skip)))
   (.seq (.ops 4 false [
     ⟨some 18, .build (List.replicate 20 (.int .u8 0)) [(0, 1, (.c (.int .u8 1)))], none⟩,
     ⟨some 2, .alloc 33 (List.replicate 20 (.int .u8 0)), none⟩,
     ⟨none, .store 20 (.t 2) (.t 18), none⟩] [])
    (.seq (.ops 5 false [
      ⟨some 19, .build (List.replicate 20 (.int .u8 0)) [(0, 1, (.c (.int .u8 2)))], none⟩,
      ⟨some 3, .alloc 33 (List.replicate 20 (.int .u8 0)), none⟩,
      ⟨none, .store 20 (.t 3) (.t 19), none⟩] [])
     (.seq (.ops 6 false [
       ⟨some 20, .val (.t 1), none⟩,
       ⟨some 21, .call 12 [(.t 20), (.c (.int .i64 5))], none⟩,
       ⟨some 4, .val (.t 21), none⟩] [])
      (.seq (.ops 7 false [
        ⟨some 22, .val (.t 1), none⟩,
        ⟨some 23, .loadN 20 (.t 2), none⟩,
        ⟨some 24, .build [(.int .u64 0), (.int .u64 0), (.int .u64 0), (.int .u64 0)] [(0, 1, (.c (.int .u64 10))), (1, 1, (.c (.int .u64 0))), (2, 1, (.c (.int .u64 0))), (3, 1, (.c (.int .u64 0)))], none⟩,
        ⟨some 25, .call 13 [(.t 22), (.c (.int .i64 5)), (.t 23), (.t 24)], none⟩,
        ⟨some 5, .val (.t 25), none⟩] [])
       (.seq (.ops 8 false [
         ⟨some 26, .val (.t 1), none⟩,
         ⟨some 27, .loadN 20 (.t 2), none⟩,
         ⟨some 28, .loadN 20 (.t 3), none⟩,
         ⟨some 29, .build [(.int .u64 0), (.int .u64 0), (.int .u64 0), (.int .u64 0)] [(0, 1, (.c (.int .u64 4))), (1, 1, (.c (.int .u64 0))), (2, 1, (.c (.int .u64 0))), (3, 1, (.c (.int .u64 0)))], none⟩,
         ⟨some 30, .call 14 [(.t 26), (.c (.int .i64 5)), (.t 27), (.t 28), (.t 29)], none⟩,
         ⟨some 6, .val (.t 30), none⟩] [])
        (.seq (.ops 9 false [
          ⟨some 31, .val (.t 1), none⟩,
          ⟨some 32, .loadN 20 (.t 2), none⟩,
          ⟨some 33, .loadN 20 (.t 3), none⟩,
          ⟨some 34, .build [(.int .u64 0), (.int .u64 0), (.int .u64 0), (.int .u64 0)] [(0, 1, (.c (.int .u64 7))), (1, 1, (.c (.int .u64 0))), (2, 1, (.c (.int .u64 0))), (3, 1, (.c (.int .u64 0)))], none⟩,
          ⟨some 35, .call 14 [(.t 31), (.c (.int .i64 5)), (.t 32), (.t 33), (.t 34)], none⟩,
          ⟨some 7, .val (.t 35), none⟩] [])
         (.seq (.ops 10 false [
           ⟨some 37, .val (.t 1), none⟩,
           ⟨some 38, .loadN 20 (.t 2), none⟩,
           ⟨some 39, .call 16 [(.t 37), (.c (.int .i64 5)), (.t 38)], none⟩,
           ⟨some 36, .val (.t 39), none⟩,
           ⟨some 40, .extract 0 (.t 36), none⟩,
           ⟨some 41, .extract 1 (.t 36), none⟩,
           ⟨some 8, .alloc 25 [(.int .u64 0), (.int .u64 0), (.int .u64 0), (.int .u64 0)], none⟩,
           ⟨none, .store 4 (.t 8) (.t 40), none⟩,
           ⟨some 9, .val (.t 41), none⟩] [])
          (.seq (.ops 11 false [
            ⟨some 43, .val (.t 1), none⟩,
            ⟨some 44, .loadN 20 (.t 3), none⟩,
            ⟨some 45, .call 16 [(.t 43), (.c (.int .i64 5)), (.t 44)], none⟩,
            ⟨some 42, .val (.t 45), none⟩,
            ⟨some 46, .extract 0 (.t 42), none⟩,
            ⟨some 47, .extract 1 (.t 42), none⟩,
            ⟨some 10, .alloc 25 [(.int .u64 0), (.int .u64 0), (.int .u64 0), (.int .u64 0)], none⟩,
            ⟨none, .store 4 (.t 10) (.t 46), none⟩,
            ⟨some 11, .val (.t 47), none⟩] [])
           (.seq (.ops 12 false [
             ⟨some 49, .val (.t 1), none⟩,
             ⟨some 50, .call 21 [(.t 49), (.c (.int .i64 5))], none⟩,
             ⟨some 48, .val (.t 50), none⟩,
             ⟨some 51, .extract 0 (.t 48), none⟩,
             ⟨some 52, .extract 1 (.t 48), none⟩,
             ⟨some 12, .alloc 44 [(.bool false), (.bool false), (.int .u64 0), (.int .u64 0), (.int .u64 0), (.int .u64 0)], none⟩,
             ⟨none, .store 6 (.t 12) (.t 51), none⟩,
             ⟨some 13, .val (.t 52), none⟩] [])
            (.seq (.ops 13 false [
              ⟨some 53, .val (.t 4), none⟩,
              ⟨some 54, .bin .eql (.t 53) (.c (.int .i64 0)), none⟩,
              ⟨some 55, .val (.t 54), none⟩,
              ⟨some 56, .val (.t 5), some (55, true)⟩,
              ⟨some 57, .bin .eql (.t 56) (.c (.int .i64 0)), some (55, true)⟩,
              ⟨some 58, .pick (.t 55) (.t 57) (.c (.bool false)), none⟩,
              ⟨some 59, .val (.t 58), none⟩,
              ⟨some 60, .val (.t 6), some (59, true)⟩,
              ⟨some 61, .bin .eql (.t 60) (.c (.int .i64 0)), some (59, true)⟩,
              ⟨some 62, .pick (.t 59) (.t 61) (.c (.bool false)), none⟩,
              ⟨some 63, .val (.t 62), none⟩,
              ⟨some 64, .val (.t 7), some (63, true)⟩,
              ⟨some 65, .bin .eql (.t 64) (.c (.int .i64 85)), some (63, true)⟩,
              ⟨some 66, .pick (.t 63) (.t 65) (.c (.bool false)), none⟩,
              ⟨some 67, .val (.t 66), none⟩,
              ⟨some 68, .val (.t 9), some (67, true)⟩,
              ⟨some 69, .bin .eql (.t 68) (.c (.int .i64 0)), some (67, true)⟩,
              ⟨some 70, .pick (.t 67) (.t 69) (.c (.bool false)), none⟩,
              ⟨some 71, .val (.t 70), none⟩,
              ⟨some 72, .val (.t 11), some (71, true)⟩,
              ⟨some 73, .bin .eql (.t 72) (.c (.int .i64 0)), some (71, true)⟩,
              ⟨some 74, .pick (.t 71) (.t 73) (.c (.bool false)), none⟩,
              ⟨some 75, .val (.t 74), none⟩,
              ⟨some 76, .val (.t 13), some (75, true)⟩,
              ⟨some 77, .bin .eql (.t 76) (.c (.int .i64 0)), some (75, true)⟩,
              ⟨some 78, .pick (.t 75) (.t 77) (.c (.bool false)), none⟩,
              ⟨some 14, .val (.t 78), none⟩] [])
             (.seq (.ops 14 false [
               ⟨some 79, .val (.t 14), none⟩,
               ⟨some 80, .val (.t 79), none⟩,
               ⟨some 81, .loadN 4 (.t 8), some (80, true)⟩,
               ⟨some 82, .build [(.int .u64 0), (.int .u64 0), (.int .u64 0), (.int .u64 0)] [(0, 1, (.c (.int .u64 6))), (1, 1, (.c (.int .u64 0))), (2, 1, (.c (.int .u64 0))), (3, 1, (.c (.int .u64 0)))], some (80, true)⟩,
               ⟨some 83, .eqn false 25 (.t 81) (.t 82), some (80, true)⟩,
               ⟨some 84, .pick (.t 80) (.t 83) (.c (.bool false)), none⟩,
               ⟨some 85, .val (.t 84), none⟩,
               ⟨some 86, .loadN 4 (.t 10), some (85, true)⟩,
               ⟨some 87, .build [(.int .u64 0), (.int .u64 0), (.int .u64 0), (.int .u64 0)] [(0, 1, (.c (.int .u64 4))), (1, 1, (.c (.int .u64 0))), (2, 1, (.c (.int .u64 0))), (3, 1, (.c (.int .u64 0)))], some (85, true)⟩,
               ⟨some 88, .eqn false 25 (.t 86) (.t 87), some (85, true)⟩,
               ⟨some 89, .pick (.t 85) (.t 88) (.c (.bool false)), none⟩,
               ⟨some 90, .val (.t 89), none⟩,
               ⟨some 91, .fieldA 0 (.t 12), some (90, true)⟩,
               ⟨some 92, .load (.t 91), some (90, true)⟩,
               ⟨some 93, .pick (.t 90) (.t 92) (.c (.bool false)), none⟩,
               ⟨some 94, .val (.t 93), none⟩,
               ⟨some 95, .fieldA 2 (.t 12), some (94, true)⟩,
               ⟨some 96, .loadN 4 (.t 95), some (94, true)⟩,
               ⟨some 97, .build [(.int .u64 0), (.int .u64 0), (.int .u64 0), (.int .u64 0)] [(0, 1, (.c (.int .u64 10))), (1, 1, (.c (.int .u64 0))), (2, 1, (.c (.int .u64 0))), (3, 1, (.c (.int .u64 0)))], some (94, true)⟩,
               ⟨some 98, .eqn false 25 (.t 96) (.t 97), some (94, true)⟩,
               ⟨some 99, .pick (.t 94) (.t 98) (.c (.bool false)), none⟩,
               ⟨some 0, .val (.t 99), none⟩] [])
              (.ret))))))))))))))
def rs9 : List RR := [.tmp 0]
theorem fun9 : FunR Tryd.prog 9 rc9 rs9 100 := ⟨Tryd.f9, Tryd.func9, by kernel_rfl, by kernel_rfl, by kernel_rfl⟩
/-- causeway/causewaylaw08.over -/
def rc10 : RC :=
 .seq (.ops 0 false [
  ⟨some 2, .val (.c (.pointer none)), none⟩] [])
 (.seq (.ops 1 false [
   ⟨some 7, .call 45 [], none⟩,
   ⟨some 3, .val (.t 7), none⟩] [])
  (.seq (.seq (.ops 2 false [
     ⟨some 8, .val (.t 3), none⟩,
     ⟨some 9, .eqp .ptr false (.t 8) (.c (.pointer none)), none⟩] [])
    (.cond (.t 9) (.seq (.ops 3 false [
       ⟨some 2, .val (.c (.pointer none)), none⟩] [])
      (.ret))
     (.skip)))
   (.seq (.seq (.ops 4 false [
      ⟨some 4, .val (.c (.int .i64 0)), none⟩] [])
     (.block 0 (.loop (.seq (.seq (.ops 5 false [
          ⟨some 10, .val (.t 4), none⟩,
          ⟨some 11, .val (.t 0), none⟩,
          ⟨some 12, .len (.t 11), none⟩,
          ⟨some 13, .bin .lss (.t 10) (.t 12), none⟩] [])
         (.cond (.t 13) (.skip)
          (.exit 0)))
        (.seq (.block 1 (.seq (.ops 7 true [
            ⟨some 16, .val (.t 3), none⟩,
            ⟨some 17, .val (.t 0), none⟩,
            ⟨some 18, .val (.t 4), none⟩,
            ⟨some 19, .indexS 2 (.t 17) (.t 18), none⟩,
            ⟨some 20, .fieldA 0 (.t 19), none⟩,
            ⟨some 21, .load (.t 20), none⟩,
            ⟨some 22, .val (.t 0), none⟩,
            ⟨some 23, .val (.t 4), none⟩,
            ⟨some 24, .indexS 2 (.t 22) (.t 23), none⟩,
            ⟨some 25, .fieldA 1 (.t 24), none⟩,
            ⟨some 26, .load (.t 25), none⟩,
            ⟨some 27, .call 46 [(.t 16), (.t 21), (.t 26)], none⟩,
            ⟨some 28, .bin .neq (.t 27) (.c (.int .i64 0)), none⟩] [([], []), ([], []), ([], []), ([1, 2], [1, 2]), ([3], [3]), ([4], [4]), ([], []), ([], []), ([6, 7], [6, 7]), ([8], [8]), ([9], [9]), ([0, 5, 10], [0, 5, 10]), ([11], [11])])
           (.cond (.t 28) (.seq (.ops 8 false [
              ⟨some 2, .val (.c (.pointer none)), none⟩] [])
             (.ret))
            (.skip))))
         (.ops 6 false [
          ⟨some 14, .val (.t 4), none⟩,
          ⟨some 15, .bin .add (.t 14) (.c (.int .i64 1)), none⟩,
          ⟨some 4, .val (.t 15), none⟩] []))))))
    (.seq (.ops 9 false [
      ⟨some 30, .val (.t 3), none⟩,
      ⟨some 31, .iface 87 (.t 30), none⟩,
      ⟨some 32, .call 38 [(.t 31)], none⟩,
      ⟨some 29, .val (.t 32), none⟩,
      ⟨some 33, .extract 0 (.t 29), none⟩,
      ⟨some 34, .extract 1 (.t 29), none⟩,
      ⟨some 5, .val (.t 33), none⟩,
      ⟨some 6, .val (.t 34), none⟩] [])
     (.seq (.seq (.ops 10 false [
        ⟨some 35, .val (.t 6), none⟩,
        ⟨some 36, .bin .neq (.t 35) (.c (.int .i64 0)), none⟩] [])
       (.cond (.t 36) (.seq (.ops 11 false [
          ⟨some 2, .val (.c (.pointer none)), none⟩] [])
         (.ret))
        (.skip)))
      (.seq (.ops 12 false [
        ⟨some 37, .val (.t 5), none⟩,
        ⟨some 2, .val (.t 37), none⟩] [])
       (.ret)))))))
def rs10 : List RR := [.tmp 2]
theorem fun10 : FunR Tryd.prog 10 rc10 rs10 38 := ⟨Tryd.f10, Tryd.func10, by kernel_rfl, by kernel_rfl, by kernel_rfl⟩
/-- causeway/causewaylaw08.pick -/
def rc11 : RC :=
 .seq (.ops 0 false [
  ⟨some 4, .val (.c (.int .i64 0)), none⟩] [])
 (.seq (.seq (.ops 1 false [
    ⟨some 5, .val (.t 0), none⟩,
    ⟨some 6, .bin .lss (.t 5) (.c (.int .i64 0)), none⟩] [])
   (.cond (.t 6) (.ops 2 false [
     ⟨some 7, .val (.t 0), none⟩,
     ⟨some 8, .bin .add (.t 7) (.c (.int .i64 1)), none⟩,
     ⟨some 9, .neg (.t 8), none⟩,
     ⟨some 0, .val (.t 9), none⟩] [])
    (.skip)))
  (.seq (.ops 3 false [
    ⟨some 10, .val (.t 0), none⟩,
    ⟨some 11, .val (.t 1), none⟩,
    ⟨some 12, .bin .rem (.t 10) (.t 11), none⟩,
    ⟨some 4, .val (.t 12), none⟩] [])
   (.ret)))
def rs11 : List RR := [.tmp 4]
theorem fun11 : FunR Tryd.prog 11 rc11 rs11 13 := ⟨Tryd.f11, Tryd.func11, by kernel_rfl, by kernel_rfl, by kernel_rfl⟩
/-- causeway/ledger.Register -/
def rc12 : RC :=
 .seq (.ops 0 false [
  ⟨some 4, .val (.c (.int .i64 0)), none⟩] [])
 (.seq (.ops 1 false [
   ⟨some 8, .val (.t 0), none⟩,
   ⟨some 9, .val (.t 1), none⟩,
   ⟨some 10, .call 21 [(.t 8), (.t 9)], none⟩,
   ⟨some 7, .val (.t 10), none⟩,
   ⟨some 11, .extract 0 (.t 7), none⟩,
   ⟨some 12, .extract 1 (.t 7), none⟩,
   ⟨some 5, .alloc 44 [(.bool false), (.bool false), (.int .u64 0), (.int .u64 0), (.int .u64 0), (.int .u64 0)], none⟩,
   ⟨none, .store 6 (.t 5) (.t 11), none⟩,
   ⟨some 6, .val (.t 12), none⟩] [])
  (.seq (.block 0 (.seq (.ops 2 false [
      ⟨some 14, .val (.t 6), none⟩,
      ⟨some 15, .bin .neq (.t 14) (.c (.int .i64 0)), none⟩,
      ⟨some 13, .val (.t 15), none⟩] [])
     (.cond (.t 13) (.seq (.ops 3 false [
        ⟨some 16, .val (.t 6), none⟩,
        ⟨some 4, .val (.t 16), none⟩] [])
       (.ret))
      (.seq (.ops 4 false [
        ⟨some 18, .fieldA 0 (.t 5), none⟩,
        ⟨some 19, .load (.t 18), none⟩,
        ⟨some 17, .val (.t 19), none⟩] [])
       (.cond (.t 17) (.seq (.ops 5 false [
          ⟨some 4, .val (.c (.int .i64 82)), none⟩] [])
         (.ret))
        (.skip))))))
   (.seq (.ops 6 false [
     ⟨some 20, .val (.t 0), none⟩,
     ⟨some 21, .val (.t 1), none⟩,
     ⟨some 22, .build [(.bool false), (.bool false), (.int .u64 0), (.int .u64 0), (.int .u64 0), (.int .u64 0)] [], none⟩,
     ⟨some 23, .call 47 [(.t 20), (.t 21), (.t 22)], none⟩,
     ⟨some 4, .val (.t 23), none⟩] [])
    (.ret))))
def rs12 : List RR := [.tmp 4]
theorem fun12 : FunR Tryd.prog 12 rc12 rs12 24 := ⟨Tryd.f12, Tryd.func12, by kernel_rfl, by kernel_rfl, by kernel_rfl⟩
/-- causeway/ledger.Mint -/
def rc13 : RC :=
 .seq (.ops 0 false [
  ⟨some 6, .box 33 (.t 2), none⟩,
  ⟨some 7, .box 25 (.t 3), none⟩,
  ⟨some 8, .val (.c (.int .i64 0)), none⟩] [])
 (.seq (.ops 1 false [
   ⟨some 15, .val (.t 0), none⟩,
   ⟨some 16, .val (.t 1), none⟩,
   ⟨some 17, .call 48 [(.t 15), (.t 16)], none⟩,
   ⟨some 14, .val (.t 17), none⟩,
   ⟨some 18, .extract 0 (.t 14), none⟩,
   ⟨some 19, .extract 1 (.t 14), none⟩,
   ⟨some 9, .alloc 44 [(.bool false), (.bool false), (.int .u64 0), (.int .u64 0), (.int .u64 0), (.int .u64 0)], none⟩,
   ⟨none, .store 6 (.t 9) (.t 18), none⟩,
   ⟨some 10, .val (.t 19), none⟩] [])
  (.seq (.seq (.ops 2 false [
     ⟨some 20, .val (.t 10), none⟩,
     ⟨some 21, .bin .neq (.t 20) (.c (.int .i64 0)), none⟩] [])
    (.cond (.t 21) (.seq (.ops 3 false [
       ⟨some 22, .val (.t 10), none⟩,
       ⟨some 8, .val (.t 22), none⟩] [])
      (.ret))
     (.skip)))
   (.seq (.seq (.ops 4 false [
      ⟨some 24, .fieldA 2 (.t 9), none⟩,
      ⟨some 25, .loadN 4 (.t 24), none⟩,
      ⟨some 26, .loadN 4 (.t 7), none⟩,
      ⟨some 27, .call 49 [(.t 25), (.t 26)], none⟩,
      ⟨some 23, .val (.t 27), none⟩,
      ⟨some 28, .extract 0 (.t 23), none⟩,
      ⟨some 29, .extract 1 (.t 23), none⟩,
      ⟨some 30, .fieldA 2 (.t 9), none⟩,
      ⟨none, .store 4 (.t 30) (.t 28), none⟩,
      ⟨some 10, .val (.t 29), none⟩] [])
     (.seq (.ops 5 false [
       ⟨some 31, .val (.t 10), none⟩,
       ⟨some 32, .bin .neq (.t 31) (.c (.int .i64 0)), none⟩] [])
      (.cond (.t 32) (.seq (.ops 6 false [
         ⟨some 8, .val (.c (.int .i64 87)), none⟩] [])
        (.ret))
       (.skip))))
    (.seq (.ops 7 false [
      ⟨some 33, .val (.t 1), none⟩,
      ⟨some 34, .loadN 20 (.t 6), none⟩,
      ⟨some 35, .call 50 [(.t 33), (.t 34)], none⟩,
      ⟨some 11, .val (.t 35), none⟩] [])
     (.seq (.ops 8 false [
       ⟨some 37, .val (.t 0), none⟩,
       ⟨some 38, .val (.t 11), none⟩,
       ⟨some 39, .call 51 [(.t 37), (.t 38)], none⟩,
       ⟨some 36, .val (.t 39), none⟩,
       ⟨some 40, .extract 0 (.t 36), none⟩,
       ⟨some 41, .extract 1 (.t 36), none⟩,
       ⟨some 12, .alloc 25 [(.int .u64 0), (.int .u64 0), (.int .u64 0), (.int .u64 0)], none⟩,
       ⟨none, .store 4 (.t 12) (.t 40), none⟩,
       ⟨some 10, .val (.t 41), none⟩] [])
      (.seq (.seq (.ops 9 false [
         ⟨some 42, .val (.t 10), none⟩,
         ⟨some 43, .bin .neq (.t 42) (.c (.int .i64 0)), none⟩] [])
        (.cond (.t 43) (.seq (.ops 10 false [
           ⟨some 44, .val (.t 10), none⟩,
           ⟨some 8, .val (.t 44), none⟩] [])
          (.ret))
         (.skip)))
       (.seq (.seq (.ops 11 false [
          ⟨some 46, .loadN 4 (.t 12), none⟩,
          ⟨some 47, .loadN 4 (.t 7), none⟩,
          ⟨some 48, .call 49 [(.t 46), (.t 47)], none⟩,
          ⟨some 45, .val (.t 48), none⟩,
          ⟨some 49, .extract 0 (.t 45), none⟩,
          ⟨some 50, .extract 1 (.t 45), none⟩,
          ⟨none, .store 4 (.t 12) (.t 49), none⟩,
          ⟨some 10, .val (.t 50), none⟩] [])
         (.seq (.ops 12 false [
           ⟨some 51, .val (.t 10), none⟩,
           ⟨some 52, .bin .neq (.t 51) (.c (.int .i64 0)), none⟩] [])
          (.cond (.t 52) (.seq (.ops 13 false [
             ⟨some 8, .val (.c (.int .i64 75)), none⟩] [])
            (.ret))
           (.skip))))
        (.seq (.seq (.ops 14 false [
           ⟨some 53, .loadN 4 (.t 7), none⟩,
           ⟨some 54, .call 52 [(.t 53)], none⟩] [])
          (.cond (.t 54) (.seq (.ops 15 false [
             ⟨some 8, .val (.c (.int .i64 0)), none⟩] [])
            (.ret))
           (.skip)))
         (.seq (.seq (.ops 16 false [
            ⟨some 55, .val (.t 0), none⟩,
            ⟨some 56, .val (.t 1), none⟩,
            ⟨some 57, .loadN 6 (.t 9), none⟩,
            ⟨some 58, .call 47 [(.t 55), (.t 56), (.t 57)], none⟩,
            ⟨some 13, .val (.t 58), none⟩] [])
           (.seq (.ops 17 false [
             ⟨some 59, .val (.t 13), none⟩,
             ⟨some 60, .bin .neq (.t 59) (.c (.int .i64 0)), none⟩] [])
            (.cond (.t 60) (.seq (.ops 18 false [
               ⟨some 61, .val (.t 13), none⟩,
               ⟨some 8, .val (.t 61), none⟩] [])
              (.ret))
             (.skip))))
          (.seq (.ops 19 false [
            ⟨some 62, .val (.t 0), none⟩,
            ⟨some 63, .val (.t 11), none⟩,
            ⟨some 64, .loadN 4 (.t 12), none⟩,
            ⟨some 65, .call 53 [(.t 62), (.t 63), (.t 64)], none⟩,
            ⟨some 8, .val (.t 65), none⟩] [])
           (.ret)))))))))))
def rs13 : List RR := [.tmp 8]
theorem fun13 : FunR Tryd.prog 13 rc13 rs13 66 := ⟨Tryd.f13, Tryd.func13, by kernel_rfl, by kernel_rfl, by kernel_rfl⟩
/-- causeway/ledger.Move -/
def rc14 : RC :=
 .seq (.ops 0 false [
  ⟨some 7, .box 33 (.t 2), none⟩,
  ⟨some 8, .box 33 (.t 3), none⟩,
  ⟨some 9, .box 25 (.t 4), none⟩,
  ⟨some 10, .val (.c (.int .i64 0)), none⟩] [])
 (.seq (.seq (.ops 1 false [
    ⟨some 17, .val (.t 0), none⟩,
    ⟨some 18, .val (.t 1), none⟩,
    ⟨some 19, .call 48 [(.t 17), (.t 18)], none⟩,
    ⟨some 16, .val (.t 19), none⟩,
    ⟨some 20, .extract 0 (.t 16), none⟩,
    ⟨some 21, .extract 1 (.t 16), none⟩,
    ⟨some 11, .alloc 44 [(.bool false), (.bool false), (.int .u64 0), (.int .u64 0), (.int .u64 0), (.int .u64 0)], none⟩,
    ⟨none, .store 6 (.t 11) (.t 20), none⟩,
    ⟨some 12, .val (.t 21), none⟩] [])
   (.seq (.ops 2 false [
     ⟨some 22, .val (.t 12), none⟩,
     ⟨some 23, .bin .neq (.t 22) (.c (.int .i64 0)), none⟩] [])
    (.cond (.t 23) (.seq (.ops 3 false [
       ⟨some 24, .val (.t 12), none⟩,
       ⟨some 10, .val (.t 24), none⟩] [])
      (.ret))
     (.skip))))
  (.seq (.ops 4 false [
    ⟨some 26, .val (.t 0), none⟩,
    ⟨some 27, .val (.t 1), none⟩,
    ⟨some 28, .loadN 20 (.t 7), none⟩,
    ⟨some 29, .loadN 20 (.t 8), none⟩,
    ⟨some 30, .loadN 4 (.t 9), none⟩,
    ⟨some 31, .call 54 [(.t 26), (.t 27), (.t 28), (.t 29), (.t 30)], none⟩,
    ⟨some 25, .val (.t 31), none⟩,
    ⟨some 32, .extract 0 (.t 25), none⟩,
    ⟨some 33, .extract 1 (.t 25), none⟩,
    ⟨some 34, .extract 2 (.t 25), none⟩,
    ⟨some 13, .alloc 25 [(.int .u64 0), (.int .u64 0), (.int .u64 0), (.int .u64 0)], none⟩,
    ⟨some 14, .alloc 25 [(.int .u64 0), (.int .u64 0), (.int .u64 0), (.int .u64 0)], none⟩,
    ⟨none, .store 4 (.t 13) (.t 32), none⟩,
    ⟨none, .store 4 (.t 14) (.t 33), none⟩,
    ⟨some 15, .val (.t 34), none⟩] [])
   (.seq (.seq (.ops 5 false [
      ⟨some 35, .val (.t 15), none⟩,
      ⟨some 36, .bin .neq (.t 35) (.c (.int .i64 0)), none⟩] [])
     (.cond (.t 36) (.seq (.ops 6 false [
        ⟨some 37, .val (.t 15), none⟩,
        ⟨some 10, .val (.t 37), none⟩] [])
       (.ret))
      (.skip)))
    (.seq (.ops 7 false [
      ⟨some 38, .val (.t 0), none⟩,
      ⟨some 39, .val (.t 1), none⟩,
      ⟨some 40, .loadN 20 (.t 7), none⟩,
      ⟨some 41, .loadN 20 (.t 8), none⟩,
      ⟨some 42, .loadN 4 (.t 9), none⟩,
      ⟨some 43, .loadN 4 (.t 13), none⟩,
      ⟨some 44, .loadN 4 (.t 14), none⟩,
      ⟨some 45, .call 55 [(.t 38), (.t 39), (.t 40), (.t 41), (.t 42), (.t 43), (.t 44)], none⟩,
      ⟨some 10, .val (.t 45), none⟩] [])
     (.ret)))))
def rs14 : List RR := [.tmp 10]
theorem fun14 : FunR Tryd.prog 14 rc14 rs14 46 := ⟨Tryd.f14, Tryd.func14, by kernel_rfl, by kernel_rfl, by kernel_rfl⟩
/-- causeway/causewayref02.Cmp -/
def rc15 : RC :=
 .seq (.ops 0 false [
  ⟨some 2, .box 25 (.t 0), none⟩,
  ⟨some 3, .box 25 (.t 1), none⟩,
  ⟨some 4, .val (.c (.int .i64 0)), none⟩] [])
 (.seq (.ops 1 true [
   ⟨some 5, .loadN 4 (.t 2), none⟩,
   ⟨some 6, .call 57 [(.t 5)], none⟩,
   ⟨some 7, .loadN 4 (.t 3), none⟩,
   ⟨some 8, .call 57 [(.t 7)], none⟩,
   ⟨some 9, .call 56 [(.t 6), (.t 8)], none⟩,
   ⟨some 4, .val (.t 9), none⟩] [([], []), ([0], [0]), ([], []), ([2, 1], [2]), ([1, 3, 3], [1, 3]), ([4, 4, 0, 1, 2, 3, 4], [4])])
  (.ret))
def rs15 : List RR := [.tmp 4]
theorem fun15 : FunR Tryd.prog 15 rc15 rs15 10 := ⟨Tryd.f15, Tryd.func15, by kernel_rfl, by kernel_rfl, by kernel_rfl⟩
/-- causeway/ledger.Balance -/
def rc16 : RC :=
 .seq (.ops 0 false [
  ⟨some 5, .box 33 (.t 2), none⟩,
  ⟨some 6, .alloc 25 [(.int .u64 0), (.int .u64 0), (.int .u64 0), (.int .u64 0)], none⟩,
  ⟨some 7, .val (.c (.int .i64 0)), none⟩] [])
 (.seq (.seq (.ops 1 false [
    ⟨some 9, .val (.t 0), none⟩,
    ⟨some 10, .val (.t 1), none⟩,
    ⟨some 11, .call 58 [(.t 9), (.t 10)], none⟩,
    ⟨some 8, .val (.t 11), none⟩] [])
   (.seq (.ops 2 false [
     ⟨some 12, .val (.t 8), none⟩,
     ⟨some 13, .bin .neq (.t 12) (.c (.int .i64 0)), none⟩] [])
    (.cond (.t 13) (.seq (.ops 3 false [
       ⟨some 14, .build [(.int .u64 0), (.int .u64 0), (.int .u64 0), (.int .u64 0)] [], none⟩,
       ⟨some 15, .val (.t 8), none⟩,
       ⟨none, .store 4 (.t 6) (.t 14), none⟩,
       ⟨some 7, .val (.t 15), none⟩] [])
      (.ret))
     (.skip))))
  (.seq (.ops 4 false [
    ⟨some 16, .val (.t 0), none⟩,
    ⟨some 17, .val (.t 1), none⟩,
    ⟨some 18, .loadN 20 (.t 5), none⟩,
    ⟨some 19, .call 50 [(.t 17), (.t 18)], none⟩,
    ⟨some 20, .call 51 [(.t 16), (.t 19)], none⟩,
    ⟨some 21, .extract 0 (.t 20), none⟩,
    ⟨some 22, .extract 1 (.t 20), none⟩,
    ⟨none, .store 4 (.t 6) (.t 21), none⟩,
    ⟨some 7, .val (.t 22), none⟩] [])
   (.ret)))
def rs16 : List RR := [.cell 6 (some 4), .tmp 7]
theorem fun16 : FunR Tryd.prog 16 rc16 rs16 23 := ⟨Tryd.f16, Tryd.func16, by kernel_rfl, by kernel_rfl, by kernel_rfl⟩
/-- causeway/ledger.Pull -/
def rc17 : RC :=
 .seq (.ops 0 false [
  ⟨some 8, .box 33 (.t 2), none⟩,
  ⟨some 9, .box 33 (.t 3), none⟩,
  ⟨some 10, .box 33 (.t 4), none⟩,
  ⟨some 11, .box 25 (.t 5), none⟩,
  ⟨some 12, .val (.c (.int .i64 0)), none⟩] [])
 (.seq (.seq (.ops 1 false [
    ⟨some 22, .val (.t 0), none⟩,
    ⟨some 23, .val (.t 1), none⟩,
    ⟨some 24, .call 48 [(.t 22), (.t 23)], none⟩,
    ⟨some 21, .val (.t 24), none⟩,
    ⟨some 25, .extract 0 (.t 21), none⟩,
    ⟨some 26, .extract 1 (.t 21), none⟩,
    ⟨some 13, .alloc 44 [(.bool false), (.bool false), (.int .u64 0), (.int .u64 0), (.int .u64 0), (.int .u64 0)], none⟩,
    ⟨none, .store 6 (.t 13) (.t 25), none⟩,
    ⟨some 14, .val (.t 26), none⟩] [])
   (.seq (.ops 2 false [
     ⟨some 27, .val (.t 14), none⟩,
     ⟨some 28, .bin .neq (.t 27) (.c (.int .i64 0)), none⟩] [])
    (.cond (.t 28) (.seq (.ops 3 false [
       ⟨some 29, .val (.t 14), none⟩,
       ⟨some 12, .val (.t 29), none⟩] [])
      (.ret))
     (.skip))))
  (.seq (.ops 4 false [
    ⟨some 30, .val (.t 1), none⟩,
    ⟨some 31, .loadN 20 (.t 9), none⟩,
    ⟨some 32, .loadN 20 (.t 8), none⟩,
    ⟨some 33, .call 59 [(.t 30), (.t 31), (.t 32)], none⟩,
    ⟨some 15, .val (.t 33), none⟩] [])
   (.seq (.ops 5 false [
     ⟨some 35, .val (.t 0), none⟩,
     ⟨some 36, .val (.t 15), none⟩,
     ⟨some 37, .call 51 [(.t 35), (.t 36)], none⟩,
     ⟨some 34, .val (.t 37), none⟩,
     ⟨some 38, .extract 0 (.t 34), none⟩,
     ⟨some 39, .extract 1 (.t 34), none⟩,
     ⟨some 16, .alloc 25 [(.int .u64 0), (.int .u64 0), (.int .u64 0), (.int .u64 0)], none⟩,
     ⟨none, .store 4 (.t 16) (.t 38), none⟩,
     ⟨some 17, .val (.t 39), none⟩] [])
    (.seq (.seq (.ops 6 false [
       ⟨some 40, .val (.t 17), none⟩,
       ⟨some 41, .bin .neq (.t 40) (.c (.int .i64 0)), none⟩] [])
      (.cond (.t 41) (.seq (.ops 7 false [
         ⟨some 42, .val (.t 17), none⟩,
         ⟨some 12, .val (.t 42), none⟩] [])
        (.ret))
       (.skip)))
     (.seq (.seq (.ops 8 false [
        ⟨some 44, .loadN 4 (.t 16), none⟩,
        ⟨some 45, .loadN 4 (.t 11), none⟩,
        ⟨some 46, .call 60 [(.t 44), (.t 45)], none⟩,
        ⟨some 43, .val (.t 46), none⟩,
        ⟨some 47, .extract 0 (.t 43), none⟩,
        ⟨some 48, .extract 1 (.t 43), none⟩,
        ⟨none, .store 4 (.t 16) (.t 47), none⟩,
        ⟨some 17, .val (.t 48), none⟩] [])
       (.seq (.ops 9 false [
         ⟨some 49, .val (.t 17), none⟩,
         ⟨some 50, .bin .neq (.t 49) (.c (.int .i64 0)), none⟩] [])
        (.cond (.t 50) (.seq (.ops 10 false [
           ⟨some 12, .val (.c (.int .i64 86)), none⟩] [])
          (.ret))
         (.skip))))
      (.seq (.ops 11 false [
        ⟨some 52, .val (.t 0), none⟩,
        ⟨some 53, .val (.t 1), none⟩,
        ⟨some 54, .loadN 20 (.t 9), none⟩,
        ⟨some 55, .loadN 20 (.t 10), none⟩,
        ⟨some 56, .loadN 4 (.t 11), none⟩,
        ⟨some 57, .call 54 [(.t 52), (.t 53), (.t 54), (.t 55), (.t 56)], none⟩,
        ⟨some 51, .val (.t 57), none⟩,
        ⟨some 58, .extract 0 (.t 51), none⟩,
        ⟨some 59, .extract 1 (.t 51), none⟩,
        ⟨some 60, .extract 2 (.t 51), none⟩,
        ⟨some 18, .alloc 25 [(.int .u64 0), (.int .u64 0), (.int .u64 0), (.int .u64 0)], none⟩,
        ⟨some 19, .alloc 25 [(.int .u64 0), (.int .u64 0), (.int .u64 0), (.int .u64 0)], none⟩,
        ⟨none, .store 4 (.t 18) (.t 58), none⟩,
        ⟨none, .store 4 (.t 19) (.t 59), none⟩,
        ⟨some 17, .val (.t 60), none⟩] [])
       (.seq (.seq (.ops 12 false [
          ⟨some 61, .val (.t 17), none⟩,
          ⟨some 62, .bin .neq (.t 61) (.c (.int .i64 0)), none⟩] [])
         (.cond (.t 62) (.seq (.ops 13 false [
            ⟨some 63, .val (.t 17), none⟩,
            ⟨some 12, .val (.t 63), none⟩] [])
           (.ret))
          (.skip)))
        (.seq (.seq (.ops 14 false [
           ⟨some 64, .loadN 4 (.t 11), none⟩,
           ⟨some 65, .call 52 [(.t 64)], none⟩,
           ⟨some 66, .not (.t 65), none⟩] [])
          (.cond (.t 66) (.seq (.ops 15 false [
             ⟨some 67, .val (.t 0), none⟩,
             ⟨some 68, .val (.t 15), none⟩,
             ⟨some 69, .loadN 4 (.t 16), none⟩,
             ⟨some 70, .call 53 [(.t 67), (.t 68), (.t 69)], none⟩,
             ⟨some 20, .val (.t 70), none⟩] [])
            (.seq (.ops 16 false [
              ⟨some 71, .val (.t 20), none⟩,
              ⟨some 72, .bin .neq (.t 71) (.c (.int .i64 0)), none⟩] [])
             (.cond (.t 72) (.seq (.ops 17 false [
                ⟨some 73, .val (.t 20), none⟩,
                ⟨some 12, .val (.t 73), none⟩] [])
               (.ret))
              (.skip))))
           (.skip)))
         (.seq (.ops 18 false [
           ⟨some 74, .val (.t 0), none⟩,
           ⟨some 75, .val (.t 1), none⟩,
           ⟨some 76, .loadN 20 (.t 9), none⟩,
           ⟨some 77, .loadN 20 (.t 10), none⟩,
           ⟨some 78, .loadN 4 (.t 11), none⟩,
           ⟨some 79, .loadN 4 (.t 18), none⟩,
           ⟨some 80, .loadN 4 (.t 19), none⟩,
           ⟨some 81, .call 55 [(.t 74), (.t 75), (.t 76), (.t 77), (.t 78), (.t 79), (.t 80)], none⟩,
           ⟨some 12, .val (.t 81), none⟩] [])
          (.ret))))))))))
def rs17 : List RR := [.tmp 12]
theorem fun17 : FunR Tryd.prog 17 rc17 rs17 82 := ⟨Tryd.f17, Tryd.func17, by kernel_rfl, by kernel_rfl, by kernel_rfl⟩
/-- causeway/ledger.Allow -/
def rc18 : RC :=
 .seq (.ops 0 false [
  ⟨some 7, .box 33 (.t 2), none⟩,
  ⟨some 8, .box 33 (.t 3), none⟩,
  ⟨some 9, .box 25 (.t 4), none⟩,
  ⟨some 10, .val (.c (.int .i64 0)), none⟩] [])
 (.seq (.seq (.ops 1 false [
    ⟨some 14, .val (.t 0), none⟩,
    ⟨some 15, .val (.t 1), none⟩,
    ⟨some 16, .call 61 [(.t 14), (.t 15)], none⟩,
    ⟨some 13, .val (.t 16), none⟩,
    ⟨some 17, .extract 0 (.t 13), none⟩,
    ⟨some 18, .extract 1 (.t 13), none⟩,
    ⟨some 11, .alloc 44 [(.bool false), (.bool false), (.int .u64 0), (.int .u64 0), (.int .u64 0), (.int .u64 0)], none⟩,
    ⟨none, .store 6 (.t 11) (.t 17), none⟩,
    ⟨some 12, .val (.t 18), none⟩] [])
   (.seq (.ops 2 false [
     ⟨some 19, .val (.t 12), none⟩,
     ⟨some 20, .bin .neq (.t 19) (.c (.int .i64 0)), none⟩] [])
    (.cond (.t 20) (.seq (.ops 3 false [
       ⟨some 21, .val (.t 12), none⟩,
       ⟨some 10, .val (.t 21), none⟩] [])
      (.ret))
     (.skip))))
  (.seq (.ops 4 true [
    ⟨some 22, .val (.t 0), none⟩,
    ⟨some 23, .val (.t 1), none⟩,
    ⟨some 24, .loadN 20 (.t 7), none⟩,
    ⟨some 25, .loadN 20 (.t 8), none⟩,
    ⟨some 26, .call 59 [(.t 23), (.t 24), (.t 25)], none⟩,
    ⟨some 27, .loadN 4 (.t 9), none⟩,
    ⟨some 28, .call 53 [(.t 22), (.t 26), (.t 27)], none⟩,
    ⟨some 10, .val (.t 28), none⟩] [([], []), ([], []), ([], []), ([], []), ([1, 2, 3], [1, 2, 3]), ([], []), ([0, 4, 5, 4], [0, 4, 5]), ([6, 6, 0, 1, 2, 3, 4, 5, 6], [6])])
   (.ret)))
def rs18 : List RR := [.tmp 10]
theorem fun18 : FunR Tryd.prog 18 rc18 rs18 29 := ⟨Tryd.f18, Tryd.func18, by kernel_rfl, by kernel_rfl, by kernel_rfl⟩
/-- causeway/ledger.Allowed -/
def rc19 : RC :=
 .seq (.ops 0 false [
  ⟨some 6, .box 33 (.t 2), none⟩,
  ⟨some 7, .box 33 (.t 3), none⟩,
  ⟨some 8, .alloc 25 [(.int .u64 0), (.int .u64 0), (.int .u64 0), (.int .u64 0)], none⟩,
  ⟨some 9, .val (.c (.int .i64 0)), none⟩] [])
 (.seq (.seq (.ops 1 false [
    ⟨some 11, .val (.t 0), none⟩,
    ⟨some 12, .val (.t 1), none⟩,
    ⟨some 13, .call 58 [(.t 11), (.t 12)], none⟩,
    ⟨some 10, .val (.t 13), none⟩] [])
   (.seq (.ops 2 false [
     ⟨some 14, .val (.t 10), none⟩,
     ⟨some 15, .bin .neq (.t 14) (.c (.int .i64 0)), none⟩] [])
    (.cond (.t 15) (.seq (.ops 3 false [
       ⟨some 16, .build [(.int .u64 0), (.int .u64 0), (.int .u64 0), (.int .u64 0)] [], none⟩,
       ⟨some 17, .val (.t 10), none⟩,
       ⟨none, .store 4 (.t 8) (.t 16), none⟩,
       ⟨some 9, .val (.t 17), none⟩] [])
      (.ret))
     (.skip))))
  (.seq (.ops 4 false [
    ⟨some 18, .val (.t 0), none⟩,
    ⟨some 19, .val (.t 1), none⟩,
    ⟨some 20, .loadN 20 (.t 6), none⟩,
    ⟨some 21, .loadN 20 (.t 7), none⟩,
    ⟨some 22, .call 59 [(.t 19), (.t 20), (.t 21)], none⟩,
    ⟨some 23, .call 51 [(.t 18), (.t 22)], none⟩,
    ⟨some 24, .extract 0 (.t 23), none⟩,
    ⟨some 25, .extract 1 (.t 23), none⟩,
    ⟨none, .store 4 (.t 8) (.t 24), none⟩,
    ⟨some 9, .val (.t 25), none⟩] [])
   (.ret)))
def rs19 : List RR := [.cell 8 (some 4), .tmp 9]
theorem fun19 : FunR Tryd.prog 19 rc19 rs19 26 := ⟨Tryd.f19, Tryd.func19, by kernel_rfl, by kernel_rfl, by kernel_rfl⟩
/-- causeway/ledger.Burn -/
def rc20 : RC :=
 .seq (.ops 0 false [
  ⟨some 6, .box 33 (.t 2), none⟩,
  ⟨some 7, .box 25 (.t 3), none⟩,
  ⟨some 8, .val (.c (.int .i64 0)), none⟩] [])
 (.seq (.ops 1 false [
   ⟨some 15, .val (.t 0), none⟩,
   ⟨some 16, .val (.t 1), none⟩,
   ⟨some 17, .call 48 [(.t 15), (.t 16)], none⟩,
   ⟨some 14, .val (.t 17), none⟩,
   ⟨some 18, .extract 0 (.t 14), none⟩,
   ⟨some 19, .extract 1 (.t 14), none⟩,
   ⟨some 9, .alloc 44 [(.bool false), (.bool false), (.int .u64 0), (.int .u64 0), (.int .u64 0), (.int .u64 0)], none⟩,
   ⟨none, .store 6 (.t 9) (.t 18), none⟩,
   ⟨some 10, .val (.t 19), none⟩] [])
  (.seq (.seq (.ops 2 false [
     ⟨some 20, .val (.t 10), none⟩,
     ⟨some 21, .bin .neq (.t 20) (.c (.int .i64 0)), none⟩] [])
    (.cond (.t 21) (.seq (.ops 3 false [
       ⟨some 22, .val (.t 10), none⟩,
       ⟨some 8, .val (.t 22), none⟩] [])
      (.ret))
     (.skip)))
   (.seq (.ops 4 false [
     ⟨some 23, .val (.t 1), none⟩,
     ⟨some 24, .loadN 20 (.t 6), none⟩,
     ⟨some 25, .call 50 [(.t 23), (.t 24)], none⟩,
     ⟨some 11, .val (.t 25), none⟩] [])
    (.seq (.ops 5 false [
      ⟨some 27, .val (.t 0), none⟩,
      ⟨some 28, .val (.t 11), none⟩,
      ⟨some 29, .call 51 [(.t 27), (.t 28)], none⟩,
      ⟨some 26, .val (.t 29), none⟩,
      ⟨some 30, .extract 0 (.t 26), none⟩,
      ⟨some 31, .extract 1 (.t 26), none⟩,
      ⟨some 12, .alloc 25 [(.int .u64 0), (.int .u64 0), (.int .u64 0), (.int .u64 0)], none⟩,
      ⟨none, .store 4 (.t 12) (.t 30), none⟩,
      ⟨some 10, .val (.t 31), none⟩] [])
     (.seq (.seq (.ops 6 false [
        ⟨some 32, .val (.t 10), none⟩,
        ⟨some 33, .bin .neq (.t 32) (.c (.int .i64 0)), none⟩] [])
       (.cond (.t 33) (.seq (.ops 7 false [
          ⟨some 34, .val (.t 10), none⟩,
          ⟨some 8, .val (.t 34), none⟩] [])
         (.ret))
        (.skip)))
      (.seq (.seq (.ops 8 false [
         ⟨some 36, .loadN 4 (.t 12), none⟩,
         ⟨some 37, .loadN 4 (.t 7), none⟩,
         ⟨some 38, .call 60 [(.t 36), (.t 37)], none⟩,
         ⟨some 35, .val (.t 38), none⟩,
         ⟨some 39, .extract 0 (.t 35), none⟩,
         ⟨some 40, .extract 1 (.t 35), none⟩,
         ⟨none, .store 4 (.t 12) (.t 39), none⟩,
         ⟨some 10, .val (.t 40), none⟩] [])
        (.seq (.ops 9 false [
          ⟨some 41, .val (.t 10), none⟩,
          ⟨some 42, .bin .neq (.t 41) (.c (.int .i64 0)), none⟩] [])
         (.cond (.t 42) (.seq (.ops 10 false [
            ⟨some 8, .val (.c (.int .i64 85)), none⟩] [])
           (.ret))
          (.skip))))
       (.seq (.seq (.ops 11 false [
          ⟨some 44, .fieldA 2 (.t 9), none⟩,
          ⟨some 45, .loadN 4 (.t 44), none⟩,
          ⟨some 46, .loadN 4 (.t 7), none⟩,
          ⟨some 47, .call 60 [(.t 45), (.t 46)], none⟩,
          ⟨some 43, .val (.t 47), none⟩,
          ⟨some 48, .extract 0 (.t 43), none⟩,
          ⟨some 49, .extract 1 (.t 43), none⟩,
          ⟨some 50, .fieldA 2 (.t 9), none⟩,
          ⟨none, .store 4 (.t 50) (.t 48), none⟩,
          ⟨some 10, .val (.t 49), none⟩] [])
         (.seq (.ops 12 false [
           ⟨some 51, .val (.t 10), none⟩,
           ⟨some 52, .bin .neq (.t 51) (.c (.int .i64 0)), none⟩] [])
          (.cond (.t 52) (.seq (.ops 13 false [
             ⟨some 8, .val (.c (.int .i64 75)), none⟩] [])
            (.ret))
           (.skip))))
        (.seq (.seq (.ops 14 false [
           ⟨some 53, .loadN 4 (.t 7), none⟩,
           ⟨some 54, .call 52 [(.t 53)], none⟩] [])
          (.cond (.t 54) (.seq (.ops 15 false [
             ⟨some 8, .val (.c (.int .i64 0)), none⟩] [])
            (.ret))
           (.skip)))
         (.seq (.seq (.ops 16 false [
            ⟨some 55, .val (.t 0), none⟩,
            ⟨some 56, .val (.t 1), none⟩,
            ⟨some 57, .loadN 6 (.t 9), none⟩,
            ⟨some 58, .call 47 [(.t 55), (.t 56), (.t 57)], none⟩,
            ⟨some 13, .val (.t 58), none⟩] [])
           (.seq (.ops 17 false [
             ⟨some 59, .val (.t 13), none⟩,
             ⟨some 60, .bin .neq (.t 59) (.c (.int .i64 0)), none⟩] [])
            (.cond (.t 60) (.seq (.ops 18 false [
               ⟨some 61, .val (.t 13), none⟩,
               ⟨some 8, .val (.t 61), none⟩] [])
              (.ret))
             (.skip))))
          (.seq (.ops 19 false [
            ⟨some 62, .val (.t 0), none⟩,
            ⟨some 63, .val (.t 11), none⟩,
            ⟨some 64, .loadN 4 (.t 12), none⟩,
            ⟨some 65, .call 53 [(.t 62), (.t 63), (.t 64)], none⟩,
            ⟨some 8, .val (.t 65), none⟩] [])
           (.ret)))))))))))
def rs20 : List RR := [.tmp 8]
theorem fun20 : FunR Tryd.prog 20 rc20 rs20 66 := ⟨Tryd.f20, Tryd.func20, by kernel_rfl, by kernel_rfl, by kernel_rfl⟩
/-- causeway/ledger.Token -/
def rc21 : RC :=
 .seq (.ops 0 false [
  ⟨some 4, .alloc 44 [(.bool false), (.bool false), (.int .u64 0), (.int .u64 0), (.int .u64 0), (.int .u64 0)], none⟩,
  ⟨some 5, .val (.c (.int .i64 0)), none⟩] [])
 (.seq (.seq (.ops 1 false [
    ⟨some 10, .val (.t 0), none⟩,
    ⟨some 11, .val (.t 1), none⟩,
    ⟨some 12, .call 58 [(.t 10), (.t 11)], none⟩,
    ⟨some 6, .val (.t 12), none⟩] [])
   (.seq (.ops 2 false [
     ⟨some 13, .val (.t 6), none⟩,
     ⟨some 14, .bin .neq (.t 13) (.c (.int .i64 0)), none⟩] [])
    (.cond (.t 14) (.seq (.ops 3 false [
       ⟨some 15, .build [(.bool false), (.bool false), (.int .u64 0), (.int .u64 0), (.int .u64 0), (.int .u64 0)] [], none⟩,
       ⟨some 16, .val (.t 6), none⟩,
       ⟨none, .store 6 (.t 4) (.t 15), none⟩,
       ⟨some 5, .val (.t 16), none⟩] [])
      (.ret))
     (.skip))))
  (.seq (.ops 4 false [
    ⟨some 18, .val (.t 0), none⟩,
    ⟨some 19, .val (.t 1), none⟩,
    ⟨some 20, .call 62 [(.t 19)], none⟩,
    ⟨some 21, .call 40 [(.t 18), (.t 20)], none⟩,
    ⟨some 17, .val (.t 21), none⟩,
    ⟨some 22, .extract 0 (.t 17), none⟩,
    ⟨some 23, .extract 1 (.t 17), none⟩,
    ⟨some 7, .val (.t 22), none⟩,
    ⟨some 8, .val (.t 23), none⟩] [])
   (.seq (.seq (.ops 5 false [
      ⟨some 24, .val (.t 8), none⟩,
      ⟨some 25, .bin .neq (.t 24) (.c (.int .i64 0)), none⟩,
      ⟨some 26, .val (.t 25), none⟩,
      ⟨some 27, .val (.t 7), some (26, false)⟩,
      ⟨some 28, .len (.t 27), some (26, false)⟩,
      ⟨some 29, .bin .eql (.t 28) (.c (.int .i64 0)), some (26, false)⟩,
      ⟨some 30, .pick (.t 26) (.c (.bool true)) (.t 29), none⟩] [])
     (.cond (.t 30) (.seq (.ops 6 false [
        ⟨some 31, .build [(.bool false), (.bool false), (.int .u64 0), (.int .u64 0), (.int .u64 0), (.int .u64 0)] [], none⟩,
        ⟨some 32, .val (.t 8), none⟩,
        ⟨none, .store 6 (.t 4) (.t 31), none⟩,
        ⟨some 5, .val (.t 32), none⟩] [])
       (.ret))
      (.skip)))
    (.seq (.ops 7 false [
      ⟨some 34, .val (.t 7), none⟩,
      ⟨some 35, .slice 1 (.t 34) (some (.c (.int .i64 1))) none none, none⟩,
      ⟨some 36, .call 63 [(.t 35)], none⟩,
      ⟨some 33, .val (.t 36), none⟩,
      ⟨some 37, .extract 0 (.t 33), none⟩,
      ⟨some 38, .extract 1 (.t 33), none⟩,
      ⟨some 9, .alloc 25 [(.int .u64 0), (.int .u64 0), (.int .u64 0), (.int .u64 0)], none⟩,
      ⟨none, .store 4 (.t 9) (.t 37), none⟩,
      ⟨some 8, .val (.t 38), none⟩] [])
     (.seq (.seq (.ops 8 false [
        ⟨some 39, .val (.t 8), none⟩,
        ⟨some 40, .bin .neq (.t 39) (.c (.int .i64 0)), none⟩,
        ⟨some 41, .val (.t 40), none⟩,
        ⟨some 42, .val (.t 7), some (41, false)⟩,
        ⟨some 43, .indexS 1 (.t 42) (.c (.int .i64 0)), some (41, false)⟩,
        ⟨some 44, .load (.t 43), some (41, false)⟩,
        ⟨some 45, .bin .neq (.t 44) (.c (.int .u8 1)), some (41, false)⟩,
        ⟨some 46, .val (.t 45), some (41, false)⟩,
        ⟨some 47, .val (.t 7), some (46, true)⟩,
        ⟨some 48, .indexS 1 (.t 47) (.c (.int .i64 0)), some (46, true)⟩,
        ⟨some 49, .load (.t 48), some (46, true)⟩,
        ⟨some 50, .bin .neq (.t 49) (.c (.int .u8 3)), some (46, true)⟩,
        ⟨some 51, .pick (.t 46) (.t 50) (.c (.bool false)), some (41, false)⟩,
        ⟨some 52, .pick (.t 41) (.c (.bool true)) (.t 51), none⟩] [])
       (.cond (.t 52) (.seq (.ops 9 false [
          ⟨some 53, .build [(.bool false), (.bool false), (.int .u64 0), (.int .u64 0), (.int .u64 0), (.int .u64 0)] [], none⟩,
          ⟨none, .store 6 (.t 4) (.t 53), none⟩,
          ⟨some 5, .val (.c (.int .i64 75)), none⟩] [])
         (.ret))
        (.skip)))
      (.seq (.ops 10 true [
        ⟨some 54, .val (.t 7), none⟩,
        ⟨some 55, .indexS 1 (.t 54) (.c (.int .i64 0)), none⟩,
        ⟨some 56, .load (.t 55), none⟩,
        ⟨some 57, .bin .eql (.t 56) (.c (.int .u8 3)), none⟩,
        ⟨some 58, .loadN 4 (.t 9), none⟩,
        ⟨some 59, .build [(.bool false), (.bool false), (.int .u64 0), (.int .u64 0), (.int .u64 0), (.int .u64 0)] [(0, 1, (.c (.bool true))), (1, 1, (.t 57)), (2, 4, (.t 58))], none⟩,
        ⟨none, .store 6 (.t 4) (.t 59), none⟩,
        ⟨some 5, .val (.c (.int .i64 0)), none⟩] [([], []), ([0], [0]), ([1], [1]), ([2], [2]), ([], []), ([3, 4], [3, 4]), ([5, 0, 1, 2, 3, 4, 5], [5]), ([6, 0, 1, 2, 3, 4, 5, 6], [])])
       (.ret)))))))
def rs21 : List RR := [.cell 4 (some 6), .tmp 5]
theorem fun21 : FunR Tryd.prog 21 rc21 rs21 60 := ⟨Tryd.f21, Tryd.func21, by kernel_rfl, by kernel_rfl, by kernel_rfl⟩
/-- causeway/causewaylaw08.stepped -/
def rc22 : RC :=
 .seq (.ops 0 false [
  ⟨some 3, .box 49 (.t 1), none⟩,
  ⟨some 4, .alloc 51 [(.int .i64 0), (.bool false), (.bool false), (.int .u64 0), (.int .u64 0), (.int .u64 0), (.int .u64 0), (.int .u64 0), (.int .u64 0), (.int .u64 0), (.int .u64 0), (.int .i64 0)], none⟩] [])
 (.seq (.seq (.ops 1 false [
    ⟨some 11, .fieldA 0 (.t 3), none⟩,
    ⟨some 12, .load (.t 11), none⟩,
    ⟨some 13, .call 11 [(.t 12), (.c (.int .i64 13))], none⟩] [])
   (.block 0 (.seq (.ops 2 false [
      ⟨some 15, .bin .eql (.t 13) (.c (.int .i64 0)), none⟩,
      ⟨some 14, .val (.t 15), none⟩] [])
     (.cond (.t 14) (.seq (.ops 3 false [
        ⟨some 16, .val (.t 0), none⟩,
        ⟨some 17, .fieldA 1 (.t 3), none⟩,
        ⟨some 18, .load (.t 17), none⟩,
        ⟨some 19, .call 12 [(.t 16), (.t 18)], none⟩,
        ⟨some 20, .build [(.int .i64 0), (.bool false), (.bool false), (.int .u64 0), (.int .u64 0), (.int .u64 0), (.int .u64 0), (.int .u64 0), (.int .u64 0), (.int .u64 0), (.int .u64 0), (.int .i64 0)] [(0, 1, (.t 19))], none⟩,
        ⟨none, .store 12 (.t 4) (.t 20), none⟩] [])
       (.ret))
      (.seq (.ops 4 false [
        ⟨some 22, .bin .eql (.t 13) (.c (.int .i64 1)), none⟩,
        ⟨some 21, .val (.t 22), none⟩] [])
       (.cond (.t 21) (.seq (.ops 5 false [
          ⟨some 23, .val (.t 0), none⟩,
          ⟨some 24, .fieldA 1 (.t 3), none⟩,
          ⟨some 25, .load (.t 24), none⟩,
          ⟨some 26, .call 64 [(.t 23), (.t 25)], none⟩,
          ⟨some 27, .build [(.int .i64 0), (.bool false), (.bool false), (.int .u64 0), (.int .u64 0), (.int .u64 0), (.int .u64 0), (.int .u64 0), (.int .u64 0), (.int .u64 0), (.int .u64 0), (.int .i64 0)] [(0, 1, (.t 26))], none⟩,
          ⟨none, .store 12 (.t 4) (.t 27), none⟩] [])
         (.ret))
        (.seq (.ops 6 false [
          ⟨some 29, .bin .eql (.t 13) (.c (.int .i64 2)), none⟩,
          ⟨some 28, .val (.t 29), none⟩] [])
         (.cond (.t 28) (.seq (.ops 7 false [
            ⟨some 30, .val (.t 0), none⟩,
            ⟨some 31, .fieldA 1 (.t 3), none⟩,
            ⟨some 32, .load (.t 31), none⟩,
            ⟨some 33, .call 65 [(.t 30), (.t 32)], none⟩,
            ⟨some 34, .build [(.int .i64 0), (.bool false), (.bool false), (.int .u64 0), (.int .u64 0), (.int .u64 0), (.int .u64 0), (.int .u64 0), (.int .u64 0), (.int .u64 0), (.int .u64 0), (.int .i64 0)] [(0, 1, (.t 33))], none⟩,
            ⟨none, .store 12 (.t 4) (.t 34), none⟩] [])
           (.ret))
          (.seq (.ops 8 false [
            ⟨some 36, .bin .eql (.t 13) (.c (.int .i64 3)), none⟩,
            ⟨some 35, .val (.t 36), none⟩] [])
           (.cond (.t 35) (.seq (.ops 9 false [
              ⟨some 37, .val (.t 0), none⟩,
              ⟨some 38, .fieldA 1 (.t 3), none⟩,
              ⟨some 39, .load (.t 38), none⟩,
              ⟨some 40, .fieldA 2 (.t 3), none⟩,
              ⟨some 41, .loadN 20 (.t 40), none⟩,
              ⟨some 42, .fieldA 62 (.t 3), none⟩,
              ⟨some 43, .loadN 4 (.t 42), none⟩,
              ⟨some 44, .call 13 [(.t 37), (.t 39), (.t 41), (.t 43)], none⟩,
              ⟨some 45, .build [(.int .i64 0), (.bool false), (.bool false), (.int .u64 0), (.int .u64 0), (.int .u64 0), (.int .u64 0), (.int .u64 0), (.int .u64 0), (.int .u64 0), (.int .u64 0), (.int .i64 0)] [(0, 1, (.t 44))], none⟩,
              ⟨none, .store 12 (.t 4) (.t 45), none⟩] [])
             (.ret))
            (.seq (.ops 10 false [
              ⟨some 47, .bin .eql (.t 13) (.c (.int .i64 4)), none⟩,
              ⟨some 46, .val (.t 47), none⟩] [])
             (.cond (.t 46) (.seq (.ops 11 false [
                ⟨some 48, .val (.t 0), none⟩,
                ⟨some 49, .fieldA 1 (.t 3), none⟩,
                ⟨some 50, .load (.t 49), none⟩,
                ⟨some 51, .fieldA 2 (.t 3), none⟩,
                ⟨some 52, .loadN 20 (.t 51), none⟩,
                ⟨some 53, .fieldA 62 (.t 3), none⟩,
                ⟨some 54, .loadN 4 (.t 53), none⟩,
                ⟨some 55, .call 20 [(.t 48), (.t 50), (.t 52), (.t 54)], none⟩,
                ⟨some 56, .build [(.int .i64 0), (.bool false), (.bool false), (.int .u64 0), (.int .u64 0), (.int .u64 0), (.int .u64 0), (.int .u64 0), (.int .u64 0), (.int .u64 0), (.int .u64 0), (.int .i64 0)] [(0, 1, (.t 55))], none⟩,
                ⟨none, .store 12 (.t 4) (.t 56), none⟩] [])
               (.ret))
              (.seq (.ops 12 false [
                ⟨some 58, .bin .eql (.t 13) (.c (.int .i64 5)), none⟩,
                ⟨some 57, .val (.t 58), none⟩] [])
               (.cond (.t 57) (.seq (.ops 13 false [
                  ⟨some 59, .val (.t 0), none⟩,
                  ⟨some 60, .fieldA 1 (.t 3), none⟩,
                  ⟨some 61, .load (.t 60), none⟩,
                  ⟨some 62, .fieldA 2 (.t 3), none⟩,
                  ⟨some 63, .loadN 20 (.t 62), none⟩,
                  ⟨some 64, .fieldA 22 (.t 3), none⟩,
                  ⟨some 65, .loadN 20 (.t 64), none⟩,
                  ⟨some 66, .fieldA 62 (.t 3), none⟩,
                  ⟨some 67, .loadN 4 (.t 66), none⟩,
                  ⟨some 68, .call 14 [(.t 59), (.t 61), (.t 63), (.t 65), (.t 67)], none⟩,
                  ⟨some 69, .build [(.int .i64 0), (.bool false), (.bool false), (.int .u64 0), (.int .u64 0), (.int .u64 0), (.int .u64 0), (.int .u64 0), (.int .u64 0), (.int .u64 0), (.int .u64 0), (.int .i64 0)] [(0, 1, (.t 68))], none⟩,
                  ⟨none, .store 12 (.t 4) (.t 69), none⟩] [])
                 (.ret))
                (.seq (.ops 14 false [
                  ⟨some 71, .bin .eql (.t 13) (.c (.int .i64 6)), none⟩,
                  ⟨some 70, .val (.t 71), none⟩] [])
                 (.cond (.t 70) (.seq (.ops 15 false [
                    ⟨some 72, .val (.t 0), none⟩,
                    ⟨some 73, .fieldA 1 (.t 3), none⟩,
                    ⟨some 74, .load (.t 73), none⟩,
                    ⟨some 75, .fieldA 2 (.t 3), none⟩,
                    ⟨some 76, .loadN 20 (.t 75), none⟩,
                    ⟨some 77, .fieldA 22 (.t 3), none⟩,
                    ⟨some 78, .loadN 20 (.t 77), none⟩,
                    ⟨some 79, .fieldA 62 (.t 3), none⟩,
                    ⟨some 80, .loadN 4 (.t 79), none⟩,
                    ⟨some 81, .call 18 [(.t 72), (.t 74), (.t 76), (.t 78), (.t 80)], none⟩,
                    ⟨some 82, .build [(.int .i64 0), (.bool false), (.bool false), (.int .u64 0), (.int .u64 0), (.int .u64 0), (.int .u64 0), (.int .u64 0), (.int .u64 0), (.int .u64 0), (.int .u64 0), (.int .i64 0)] [(0, 1, (.t 81))], none⟩,
                    ⟨none, .store 12 (.t 4) (.t 82), none⟩] [])
                   (.ret))
                  (.seq (.ops 16 false [
                    ⟨some 84, .bin .eql (.t 13) (.c (.int .i64 7)), none⟩,
                    ⟨some 83, .val (.t 84), none⟩] [])
                   (.cond (.t 83) (.seq (.ops 17 false [
                      ⟨some 85, .val (.t 0), none⟩,
                      ⟨some 86, .fieldA 1 (.t 3), none⟩,
                      ⟨some 87, .load (.t 86), none⟩,
                      ⟨some 88, .fieldA 2 (.t 3), none⟩,
                      ⟨some 89, .loadN 20 (.t 88), none⟩,
                      ⟨some 90, .fieldA 22 (.t 3), none⟩,
                      ⟨some 91, .loadN 20 (.t 90), none⟩,
                      ⟨some 92, .fieldA 42 (.t 3), none⟩,
                      ⟨some 93, .loadN 20 (.t 92), none⟩,
                      ⟨some 94, .fieldA 62 (.t 3), none⟩,
                      ⟨some 95, .loadN 4 (.t 94), none⟩,
                      ⟨some 96, .call 17 [(.t 85), (.t 87), (.t 89), (.t 91), (.t 93), (.t 95)], none⟩,
                      ⟨some 97, .build [(.int .i64 0), (.bool false), (.bool false), (.int .u64 0), (.int .u64 0), (.int .u64 0), (.int .u64 0), (.int .u64 0), (.int .u64 0), (.int .u64 0), (.int .u64 0), (.int .i64 0)] [(0, 1, (.t 96))], none⟩,
                      ⟨none, .store 12 (.t 4) (.t 97), none⟩] [])
                     (.ret))
                    (.seq (.ops 18 false [
                      ⟨some 99, .bin .eql (.t 13) (.c (.int .i64 8)), none⟩,
                      ⟨some 98, .val (.t 99), none⟩] [])
                     (.cond (.t 98) (.seq (.ops 19 false [
                        ⟨some 101, .val (.t 0), none⟩,
                        ⟨some 102, .fieldA 1 (.t 3), none⟩,
                        ⟨some 103, .load (.t 102), none⟩,
                        ⟨some 104, .call 21 [(.t 101), (.t 103)], none⟩,
                        ⟨some 100, .val (.t 104), none⟩,
                        ⟨some 105, .extract 0 (.t 100), none⟩,
                        ⟨some 106, .extract 1 (.t 100), none⟩,
                        ⟨some 5, .alloc 44 [(.bool false), (.bool false), (.int .u64 0), (.int .u64 0), (.int .u64 0), (.int .u64 0)], none⟩,
                        ⟨none, .store 6 (.t 5) (.t 105), none⟩,
                        ⟨some 6, .val (.t 106), none⟩] [])
                       (.seq (.ops 20 false [
                         ⟨some 107, .val (.t 6), none⟩,
                         ⟨some 108, .loadN 6 (.t 5), none⟩,
                         ⟨some 109, .build [(.int .i64 0), (.bool false), (.bool false), (.int .u64 0), (.int .u64 0), (.int .u64 0), (.int .u64 0), (.int .u64 0), (.int .u64 0), (.int .u64 0), (.int .u64 0), (.int .i64 0)] [(0, 1, (.t 107)), (1, 6, (.t 108))], none⟩,
                         ⟨none, .store 12 (.t 4) (.t 109), none⟩] [])
                        (.ret)))
                      (.seq (.ops 21 false [
                        ⟨some 111, .bin .eql (.t 13) (.c (.int .i64 9)), none⟩,
                        ⟨some 110, .val (.t 111), none⟩] [])
                       (.cond (.t 110) (.seq (.ops 22 false [
                          ⟨some 113, .val (.t 0), none⟩,
                          ⟨some 114, .fieldA 1 (.t 3), none⟩,
                          ⟨some 115, .load (.t 114), none⟩,
                          ⟨some 116, .fieldA 2 (.t 3), none⟩,
                          ⟨some 117, .loadN 20 (.t 116), none⟩,
                          ⟨some 118, .call 16 [(.t 113), (.t 115), (.t 117)], none⟩,
                          ⟨some 112, .val (.t 118), none⟩,
                          ⟨some 119, .extract 0 (.t 112), none⟩,
                          ⟨some 120, .extract 1 (.t 112), none⟩,
                          ⟨some 7, .alloc 25 [(.int .u64 0), (.int .u64 0), (.int .u64 0), (.int .u64 0)], none⟩,
                          ⟨none, .store 4 (.t 7) (.t 119), none⟩,
                          ⟨some 8, .val (.t 120), none⟩] [])
                         (.seq (.ops 23 false [
                           ⟨some 121, .val (.t 8), none⟩,
                           ⟨some 122, .loadN 4 (.t 7), none⟩,
                           ⟨some 123, .build [(.int .i64 0), (.bool false), (.bool false), (.int .u64 0), (.int .u64 0), (.int .u64 0), (.int .u64 0), (.int .u64 0), (.int .u64 0), (.int .u64 0), (.int .u64 0), (.int .i64 0)] [(0, 1, (.t 121)), (7, 4, (.t 122))], none⟩,
                           ⟨none, .store 12 (.t 4) (.t 123), none⟩] [])
                          (.ret)))
                        (.seq (.ops 24 false [
                          ⟨some 125, .bin .eql (.t 13) (.c (.int .i64 10)), none⟩,
                          ⟨some 124, .val (.t 125), none⟩] [])
                         (.cond (.t 124) (.seq (.ops 25 false [
                            ⟨some 127, .val (.t 0), none⟩,
                            ⟨some 128, .fieldA 1 (.t 3), none⟩,
                            ⟨some 129, .load (.t 128), none⟩,
                            ⟨some 130, .fieldA 2 (.t 3), none⟩,
                            ⟨some 131, .loadN 20 (.t 130), none⟩,
                            ⟨some 132, .fieldA 22 (.t 3), none⟩,
                            ⟨some 133, .loadN 20 (.t 132), none⟩,
                            ⟨some 134, .call 19 [(.t 127), (.t 129), (.t 131), (.t 133)], none⟩,
                            ⟨some 126, .val (.t 134), none⟩,
                            ⟨some 135, .extract 0 (.t 126), none⟩,
                            ⟨some 136, .extract 1 (.t 126), none⟩,
                            ⟨some 9, .alloc 25 [(.int .u64 0), (.int .u64 0), (.int .u64 0), (.int .u64 0)], none⟩,
                            ⟨none, .store 4 (.t 9) (.t 135), none⟩,
                            ⟨some 10, .val (.t 136), none⟩] [])
                           (.seq (.ops 26 false [
                             ⟨some 137, .val (.t 10), none⟩,
                             ⟨some 138, .loadN 4 (.t 9), none⟩,
                             ⟨some 139, .build [(.int .i64 0), (.bool false), (.bool false), (.int .u64 0), (.int .u64 0), (.int .u64 0), (.int .u64 0), (.int .u64 0), (.int .u64 0), (.int .u64 0), (.int .u64 0), (.int .i64 0)] [(0, 1, (.t 137)), (7, 4, (.t 138))], none⟩,
                             ⟨none, .store 12 (.t 4) (.t 139), none⟩] [])
                            (.ret)))
                          (.seq (.ops 27 false [
                            ⟨some 141, .bin .eql (.t 13) (.c (.int .i64 11)), none⟩,
                            ⟨some 140, .val (.t 141), none⟩] [])
                           (.cond (.t 140) (.seq (.ops 28 false [
                              ⟨some 142, .val (.t 0), none⟩,
                              ⟨some 143, .call 29 [(.t 142)], none⟩,
                              ⟨some 144, .build [(.int .i64 0), (.bool false), (.bool false), (.int .u64 0), (.int .u64 0), (.int .u64 0), (.int .u64 0), (.int .u64 0), (.int .u64 0), (.int .u64 0), (.int .u64 0), (.int .i64 0)] [(11, 1, (.t 143))], none⟩,
                              ⟨none, .store 12 (.t 4) (.t 144), none⟩] [])
                             (.ret))
                            (.skip)))))))))))))))))))))))))))
  (.seq (.ops 29 false [
    ⟨some 145, .val (.t 0), none⟩,
    ⟨some 146, .fieldA 1 (.t 3), none⟩,
    ⟨some 147, .load (.t 146), none⟩,
    ⟨some 148, .call 30 [(.t 145), (.t 147)], none⟩,
    ⟨some 149, .build [(.int .i64 0), (.bool false), (.bool false), (.int .u64 0), (.int .u64 0), (.int .u64 0), (.int .u64 0), (.int .u64 0), (.int .u64 0), (.int .u64 0), (.int .u64 0), (.int .i64 0)] [(0, 1, (.t 148))], none⟩,
    ⟨none, .store 12 (.t 4) (.t 149), none⟩] [])
   (.ret)))
def rs22 : List RR := [.cell 4 (some 12)]
theorem fun22 : FunR Tryd.prog 22 rc22 rs22 150 := ⟨Tryd.f22, Tryd.func22, by kernel_rfl, by kernel_rfl, by kernel_rfl⟩
/-- causeway/causewaylaw09.fresh -/
def rc32 : RC :=
 .seq (.ops 0 false [
  ⟨some 2, .val (.c (.pointer none)), none⟩] [])
 (.seq (.ops 1 false [
   ⟨some 8, .call 45 [], none⟩,
   ⟨some 3, .val (.t 8), none⟩] [])
  (.seq (.seq (.ops 2 false [
     ⟨some 9, .val (.t 3), none⟩,
     ⟨some 10, .eqp .ptr false (.t 9) (.c (.pointer none)), none⟩] [])
    (.cond (.t 10) (.seq (.ops 3 false [
       ⟨some 2, .val (.c (.pointer none)), none⟩] [])
      (.ret))
     (.skip)))
   (.seq (.seq (.ops 4 false [
      ⟨some 4, .val (.c (.int .i64 0)), none⟩] [])
     (.block 0 (.loop (.seq (.seq (.ops 5 false [
          ⟨some 11, .val (.t 4), none⟩,
          ⟨some 12, .val (.t 0), none⟩,
          ⟨some 13, .len (.t 12), none⟩,
          ⟨some 14, .bin .lss (.t 11) (.t 13), none⟩] [])
         (.cond (.t 14) (.skip)
          (.exit 0)))
        (.seq (.block 1 (.seq (.ops 7 true [
            ⟨some 17, .val (.t 3), none⟩,
            ⟨some 18, .val (.t 0), none⟩,
            ⟨some 19, .val (.t 4), none⟩,
            ⟨some 20, .indexS 2 (.t 18) (.t 19), none⟩,
            ⟨some 21, .fieldA 0 (.t 20), none⟩,
            ⟨some 22, .load (.t 21), none⟩,
            ⟨some 23, .val (.t 0), none⟩,
            ⟨some 24, .val (.t 4), none⟩,
            ⟨some 25, .indexS 2 (.t 23) (.t 24), none⟩,
            ⟨some 26, .fieldA 1 (.t 25), none⟩,
            ⟨some 27, .load (.t 26), none⟩,
            ⟨some 28, .call 46 [(.t 17), (.t 22), (.t 27)], none⟩,
            ⟨some 5, .val (.t 28), none⟩] [([], []), ([], []), ([], []), ([1, 2], [1, 2]), ([3], [3]), ([4], [4]), ([], []), ([], []), ([6, 7], [6, 7]), ([8], [8]), ([9], [9]), ([0, 5, 10], [0, 5, 10]), ([11, 11, 0, 1, 2, 3, 4, 5, 6, 7, 8, 9, 10, 11], [11])])
           (.seq (.ops 8 false [
             ⟨some 29, .val (.t 5), none⟩,
             ⟨some 30, .bin .neq (.t 29) (.c (.int .i64 0)), none⟩] [])
            (.cond (.t 30) (.seq (.ops 9 false [
               ⟨some 2, .val (.c (.pointer none)), none⟩] [])
              (.ret))
             (.skip)))))
         (.ops 6 false [
          ⟨some 15, .val (.t 4), none⟩,
          ⟨some 16, .bin .add (.t 15) (.c (.int .i64 1)), none⟩,
          ⟨some 4, .val (.t 16), none⟩] []))))))
    (.seq (.ops 10 false [
      ⟨some 32, .val (.t 3), none⟩,
      ⟨some 33, .iface 87 (.t 32), none⟩,
      ⟨some 34, .call 38 [(.t 33)], none⟩,
      ⟨some 31, .val (.t 34), none⟩,
      ⟨some 35, .extract 0 (.t 31), none⟩,
      ⟨some 36, .extract 1 (.t 31), none⟩,
      ⟨some 6, .val (.t 35), none⟩,
      ⟨some 7, .val (.t 36), none⟩] [])
     (.seq (.seq (.ops 11 false [
        ⟨some 37, .val (.t 7), none⟩,
        ⟨some 38, .bin .neq (.t 37) (.c (.int .i64 0)), none⟩] [])
       (.cond (.t 38) (.seq (.ops 12 false [
          ⟨some 2, .val (.c (.pointer none)), none⟩] [])
         (.ret))
        (.skip)))
      (.seq (.ops 13 false [
        ⟨some 39, .val (.t 6), none⟩,
        ⟨some 2, .val (.t 39), none⟩] [])
       (.ret)))))))
def rs32 : List RR := [.tmp 2]
theorem fun32 : FunR Tryd.prog 32 rc32 rs32 40 := ⟨Tryd.f32, Tryd.func32, by kernel_rfl, by kernel_rfl, by kernel_rfl⟩
/-- causeway/store.Over -/
def rc38 : RC :=
 .seq (.ops 0 false [
  ⟨some 2, .val (.c (.pointer none)), none⟩,
  ⟨some 3, .val (.c (.int .i64 0)), none⟩] [])
 (.seq (.seq (.ops 1 false [
    ⟨some 4, .val (.t 0), none⟩,
    ⟨some 5, .eqp .ifc false (.t 4) (.c .nilIface), none⟩] [])
   (.cond (.t 5) (.seq (.ops 2 false [
      ⟨some 2, .val (.c (.pointer none)), none⟩,
      ⟨some 3, .val (.c (.int .i64 1)), none⟩] [])
     (.ret))
    (.skip)))
  (.seq (.ops 3 false [
    ⟨some 6, .val (.t 0), none⟩,
    ⟨some 7, .mkMap 124, none⟩,
    ⟨some 8, .mkMap 124, none⟩,
    ⟨some 9, .build [.nilIface, (.map none), (.map none), (.slice none 0 0), (.slice none 0 0)] [(0, 1, (.t 6)), (1, 1, (.t 7)), (2, 1, (.t 8))], none⟩,
    ⟨some 10, .box 127 (.t 9), none⟩,
    ⟨some 2, .val (.t 10), none⟩,
    ⟨some 3, .val (.c (.int .i64 0)), none⟩] [])
   (.ret)))
def rs38 : List RR := [.tmp 2, .tmp 3]
theorem fun38 : FunR Tryd.prog 38 rc38 rs38 11 := ⟨Tryd.f38, Tryd.func38, by kernel_rfl, by kernel_rfl, by kernel_rfl⟩
/-- (*causeway/store.State).Put -/
def rc39 : RC :=
 .seq (.ops 0 false [
  ⟨some 6, .val (.c (.int .i64 0)), none⟩] [])
 (.seq (.seq (.ops 1 false [
    ⟨some 11, .val (.t 1), none⟩,
    ⟨some 12, .val (.t 2), none⟩,
    ⟨some 13, .call 85 [(.t 11), (.t 12)], none⟩,
    ⟨some 7, .val (.t 13), none⟩] [])
   (.seq (.ops 2 false [
     ⟨some 14, .val (.t 7), none⟩,
     ⟨some 15, .bin .neq (.t 14) (.c (.int .i64 0)), none⟩] [])
    (.cond (.t 15) (.seq (.ops 3 false [
       ⟨some 16, .val (.t 7), none⟩,
       ⟨some 6, .val (.t 16), none⟩] [])
      (.ret))
     (.skip))))
  (.seq (.seq (.ops 4 false [
     ⟨some 17, .val (.t 0), none⟩,
     ⟨some 18, .val (.t 1), none⟩,
     ⟨some 19, .call 86 [(.t 17), (.t 18)], none⟩,
     ⟨some 8, .val (.t 19), none⟩] [])
    (.seq (.ops 5 false [
      ⟨some 20, .val (.t 8), none⟩,
      ⟨some 21, .bin .neq (.t 20) (.c (.int .i64 0)), none⟩] [])
     (.cond (.t 21) (.seq (.ops 6 false [
        ⟨some 22, .val (.t 8), none⟩,
        ⟨some 6, .val (.t 22), none⟩] [])
       (.ret))
      (.skip))))
   (.seq (.ops 7 false [
     ⟨some 24, .val (.t 0), none⟩,
     ⟨some 25, .nilCheck (.t 24), none⟩,
     ⟨some 26, .fieldA 2 (.t 25), none⟩,
     ⟨some 27, .load (.t 26), none⟩,
     ⟨some 28, .val (.t 1), none⟩,
     ⟨some 29, .look 124 (.t 27) (.t 28) true, none⟩,
     ⟨some 23, .val (.t 29), none⟩,
     ⟨some 30, .extract 0 (.t 23), none⟩,
     ⟨some 31, .extract 1 (.t 23), none⟩,
     ⟨some 9, .val (.t 30), none⟩,
     ⟨some 10, .val (.t 31), none⟩] [])
    (.seq (.ops 8 false [
      ⟨some 32, .val (.t 0), none⟩,
      ⟨some 33, .val (.t 0), none⟩,
      ⟨some 34, .nilCheck (.t 33), none⟩,
      ⟨some 35, .fieldA 3 (.t 34), none⟩,
      ⟨some 36, .load (.t 35), none⟩,
      ⟨some 37, .val (.t 1), none⟩,
      ⟨some 38, .val (.t 9), none⟩,
      ⟨some 39, .val (.t 10), none⟩,
      ⟨some 40, .build [(.string ⟨#[]⟩), (.slice none 0 0), (.bool false)] [(0, 1, (.t 37)), (1, 1, (.t 38)), (2, 1, (.t 39))], none⟩,
      ⟨some 41, .buildS 129 1 [(.string ⟨#[]⟩), (.slice none 0 0), (.bool false)] [(0, 3, (.t 40))], none⟩,
      ⟨some 42, .blt .append #[125, 125] 125 [(.t 36), (.t 41)], none⟩,
      ⟨some 43, .nilCheck (.t 32), none⟩,
      ⟨some 44, .fieldA 3 (.t 43), none⟩,
      ⟨none, .store 1 (.t 44) (.t 42), none⟩] [])
     (.seq (.ops 9 true [
       ⟨some 45, .val (.t 0), none⟩,
       ⟨some 46, .nilCheck (.t 45), none⟩,
       ⟨some 47, .fieldA 2 (.t 46), none⟩,
       ⟨some 48, .load (.t 47), none⟩,
       ⟨some 49, .val (.t 1), none⟩,
       ⟨some 50, .val (.t 2), none⟩,
       ⟨some 51, .call 87 [(.t 50)], none⟩,
       ⟨none, .upd 124 (.t 48) (.t 49) (.t 51), none⟩] [([], []), ([0], [0]), ([1], [1]), ([2], [2]), ([], []), ([], []), ([5], [5]), ([3, 4, 6, 6, 0, 1, 2, 3, 4, 5, 6], [3, 4, 6])])
      (.seq (.ops 10 false [
        ⟨some 6, .val (.c (.int .i64 0)), none⟩] [])
       (.ret)))))))
def rs39 : List RR := [.tmp 6]
theorem fun39 : FunR Tryd.prog 39 rc39 rs39 52 := ⟨Tryd.f39, Tryd.func39, by kernel_rfl, by kernel_rfl, by kernel_rfl⟩
/-- (*causeway/store.State).Get -/
def rc40 : RC :=
 .seq (.ops 0 false [
  ⟨some 4, .val (.c (.slice none 0 0)), none⟩,
  ⟨some 5, .val (.c (.int .i64 0)), none⟩] [])
 (.seq (.seq (.ops 1 false [
    ⟨some 8, .val (.t 1), none⟩,
    ⟨some 9, .call 85 [(.t 8), (.c (.slice none 0 0))], none⟩,
    ⟨some 6, .val (.t 9), none⟩] [])
   (.seq (.ops 2 false [
     ⟨some 10, .val (.t 6), none⟩,
     ⟨some 11, .bin .neq (.t 10) (.c (.int .i64 0)), none⟩] [])
    (.cond (.t 11) (.seq (.ops 3 false [
       ⟨some 12, .val (.t 6), none⟩,
       ⟨some 4, .val (.c (.slice none 0 0)), none⟩,
       ⟨some 5, .val (.t 12), none⟩] [])
      (.ret))
     (.skip))))
  (.seq (.seq (.ops 4 false [
     ⟨some 13, .val (.t 0), none⟩,
     ⟨some 14, .val (.t 1), none⟩,
     ⟨some 15, .call 86 [(.t 13), (.t 14)], none⟩,
     ⟨some 7, .val (.t 15), none⟩] [])
    (.seq (.ops 5 false [
      ⟨some 16, .val (.t 7), none⟩,
      ⟨some 17, .bin .neq (.t 16) (.c (.int .i64 0)), none⟩] [])
     (.cond (.t 17) (.seq (.ops 6 false [
        ⟨some 18, .val (.t 7), none⟩,
        ⟨some 4, .val (.c (.slice none 0 0)), none⟩,
        ⟨some 5, .val (.t 18), none⟩] [])
       (.ret))
      (.skip))))
   (.seq (.ops 7 false [
     ⟨some 19, .val (.t 0), none⟩,
     ⟨some 20, .val (.t 1), none⟩,
     ⟨some 21, .call 88 [(.t 19), (.t 20)], none⟩,
     ⟨some 22, .call 87 [(.t 21)], none⟩,
     ⟨some 4, .val (.t 22), none⟩,
     ⟨some 5, .val (.c (.int .i64 0)), none⟩] [])
    (.ret))))
def rs40 : List RR := [.tmp 4, .tmp 5]
theorem fun40 : FunR Tryd.prog 40 rc40 rs40 23 := ⟨Tryd.f40, Tryd.func40, by kernel_rfl, by kernel_rfl, by kernel_rfl⟩
/-- (*causeway/store.Table).Find -/
def rc42 : RC :=
 .seq (.ops 0 false [
  ⟨some 4, .val (.c (.slice none 0 0)), none⟩,
  ⟨some 5, .val (.c (.int .i64 0)), none⟩] [])
 (.seq (.seq (.ops 1 false [
    ⟨some 7, .val (.t 1), none⟩,
    ⟨some 8, .call 85 [(.t 7), (.c (.slice none 0 0))], none⟩,
    ⟨some 6, .val (.t 8), none⟩] [])
   (.seq (.ops 2 false [
     ⟨some 9, .val (.t 6), none⟩,
     ⟨some 10, .bin .neq (.t 9) (.c (.int .i64 0)), none⟩] [])
    (.cond (.t 10) (.seq (.ops 3 false [
       ⟨some 11, .val (.t 6), none⟩,
       ⟨some 4, .val (.c (.slice none 0 0)), none⟩,
       ⟨some 5, .val (.t 11), none⟩] [])
      (.ret))
     (.skip))))
  (.seq (.ops 4 false [
    ⟨some 12, .val (.t 0), none⟩,
    ⟨some 13, .nilCheck (.t 12), none⟩,
    ⟨some 14, .fieldA 0 (.t 13), none⟩,
    ⟨some 15, .load (.t 14), none⟩,
    ⟨some 16, .val (.t 1), none⟩,
    ⟨some 17, .look 124 (.t 15) (.t 16) false, none⟩,
    ⟨some 18, .call 87 [(.t 17)], none⟩,
    ⟨some 4, .val (.t 18), none⟩,
    ⟨some 5, .val (.c (.int .i64 0)), none⟩] [])
   (.ret)))
def rs42 : List RR := [.tmp 4, .tmp 5]
theorem fun42 : FunR Tryd.prog 42 rc42 rs42 19 := ⟨Tryd.f42, Tryd.func42, by kernel_rfl, by kernel_rfl, by kernel_rfl⟩
/-- causeway/store.NewTable -/
def rc45 : RC :=
 .seq (.ops 0 false [
  ⟨some 0, .val (.c (.pointer none)), none⟩] [])
 (.seq (.ops 1 false [
   ⟨some 1, .mkMap 124, none⟩,
   ⟨some 2, .call 91 [], none⟩,
   ⟨some 3, .mkMap 152, none⟩,
   ⟨some 4, .build [(.map none), (.pointer none), (.map none)] [(0, 1, (.t 1)), (1, 1, (.t 2)), (2, 1, (.t 3))], none⟩,
   ⟨some 5, .box 154 (.t 4), none⟩,
   ⟨some 0, .val (.t 5), none⟩] [])
  (.ret))
def rs45 : List RR := [.tmp 0]
theorem fun45 : FunR Tryd.prog 45 rc45 rs45 6 := ⟨Tryd.f45, Tryd.func45, by kernel_rfl, by kernel_rfl, by kernel_rfl⟩
/-- causeway/ledger.layToken -/
def rc47 : RC :=
 .seq (.ops 0 false [
  ⟨some 5, .box 44 (.t 2), none⟩,
  ⟨some 6, .val (.c (.int .i64 0)), none⟩] [])
 (.seq (.ops 1 false [
   ⟨some 7, .val (.c (.int .u8 1)), none⟩] [])
  (.seq (.seq (.ops 2 false [
     ⟨some 8, .fieldA 1 (.t 5), none⟩,
     ⟨some 9, .load (.t 8), none⟩] [])
    (.cond (.t 9) (.ops 3 false [
      ⟨some 7, .val (.c (.int .u8 3)), none⟩] [])
     (.skip)))
   (.seq (.ops 4 true [
     ⟨some 10, .val (.t 0), none⟩,
     ⟨some 11, .val (.t 1), none⟩,
     ⟨some 12, .call 62 [(.t 11)], none⟩,
     ⟨some 13, .val (.t 7), none⟩,
     ⟨some 14, .buildS 5 1 [(.int .u8 0)] [(0, 1, (.t 13))], none⟩,
     ⟨some 15, .fieldA 2 (.t 5), none⟩,
     ⟨some 16, .loadN 4 (.t 15), none⟩,
     ⟨some 17, .call 93 [(.t 16)], none⟩,
     ⟨some 18, .blt .append #[91, 91] 91 [(.t 14), (.t 17)], none⟩,
     ⟨some 19, .call 39 [(.t 10), (.t 12), (.t 18)], none⟩,
     ⟨some 6, .val (.t 19), none⟩] [([], []), ([], []), ([1], [1]), ([], []), ([3], [3]), ([], []), ([5], [5]), ([6, 2], [6]), ([4, 7, 7], [4, 7]), ([0, 2, 8, 8], [0, 2, 8]), ([9, 9, 0, 1, 2, 3, 4, 5, 6, 7, 8, 9], [9])])
    (.ret))))
def rs47 : List RR := [.tmp 6]
theorem fun47 : FunR Tryd.prog 47 rc47 rs47 20 := ⟨Tryd.f47, Tryd.func47, by kernel_rfl, by kernel_rfl, by kernel_rfl⟩
/-- causeway/ledger.running -/
def rc48 : RC :=
 .seq (.ops 0 false [
  ⟨some 4, .alloc 44 [(.bool false), (.bool false), (.int .u64 0), (.int .u64 0), (.int .u64 0), (.int .u64 0)], none⟩,
  ⟨some 5, .val (.c (.int .i64 0)), none⟩] [])
 (.seq (.ops 1 false [
   ⟨some 9, .val (.t 0), none⟩,
   ⟨some 10, .val (.t 1), none⟩,
   ⟨some 11, .call 61 [(.t 9), (.t 10)], none⟩,
   ⟨some 8, .val (.t 11), none⟩,
   ⟨some 12, .extract 0 (.t 8), none⟩,
   ⟨some 13, .extract 1 (.t 8), none⟩,
   ⟨some 6, .alloc 44 [(.bool false), (.bool false), (.int .u64 0), (.int .u64 0), (.int .u64 0), (.int .u64 0)], none⟩,
   ⟨none, .store 6 (.t 6) (.t 12), none⟩,
   ⟨some 7, .val (.t 13), none⟩] [])
  (.seq (.seq (.ops 2 false [
     ⟨some 14, .val (.t 7), none⟩,
     ⟨some 15, .bin .eql (.t 14) (.c (.int .i64 0)), none⟩,
     ⟨some 16, .val (.t 15), none⟩,
     ⟨some 17, .fieldA 1 (.t 6), some (16, true)⟩,
     ⟨some 18, .load (.t 17), some (16, true)⟩,
     ⟨some 19, .pick (.t 16) (.t 18) (.c (.bool false)), none⟩] [])
    (.cond (.t 19) (.seq (.ops 3 false [
       ⟨some 20, .build [(.bool false), (.bool false), (.int .u64 0), (.int .u64 0), (.int .u64 0), (.int .u64 0)] [], none⟩,
       ⟨none, .store 6 (.t 4) (.t 20), none⟩,
       ⟨some 5, .val (.c (.int .i64 83)), none⟩] [])
      (.ret))
     (.skip)))
   (.seq (.ops 4 false [
     ⟨some 21, .loadN 6 (.t 6), none⟩,
     ⟨some 22, .val (.t 7), none⟩,
     ⟨none, .store 6 (.t 4) (.t 21), none⟩,
     ⟨some 5, .val (.t 22), none⟩] [])
    (.ret))))
def rs48 : List RR := [.cell 4 (some 6), .tmp 5]
theorem fun48 : FunR Tryd.prog 48 rc48 rs48 23 := ⟨Tryd.f48, Tryd.func48, by kernel_rfl, by kernel_rfl, by kernel_rfl⟩
/-- causeway/wide.Add -/
def rc49 : RC :=
 .seq (.ops 0 false [
  ⟨some 2, .box 25 (.t 0), none⟩,
  ⟨some 3, .box 25 (.t 1), none⟩,
  ⟨some 4, .alloc 25 [(.int .u64 0), (.int .u64 0), (.int .u64 0), (.int .u64 0)], none⟩,
  ⟨some 5, .val (.c (.int .i64 0)), none⟩] [])
 (.seq (.ops 1 false [
   ⟨some 6, .alloc 25 [(.int .u64 0), (.int .u64 0), (.int .u64 0), (.int .u64 0)], none⟩] [])
  (.seq (.ops 2 false [
    ⟨some 7, .val (.c (.int .u64 0)), none⟩] [])
   (.seq (.seq (.ops 3 false [
      ⟨some 9, .val (.c (.int .i64 0)), none⟩] [])
     (.block 0 (.loop (.seq (.ops 4 false [
         ⟨some 10, .bin .lss (.t 9) (.c (.int .i64 4)), none⟩] [])
        (.seq (.cond (.t 10) (.skip)
          (.exit 0))
         (.seq (.block 1 (.seq (.ops 5 false [
             ⟨some 11, .val (.t 9), none⟩,
             ⟨some 8, .val (.t 11), none⟩] [])
            (.ops 6 true [
             ⟨some 13, .val (.t 8), none⟩,
             ⟨some 14, .val (.t 8), none⟩,
             ⟨some 15, .indexA 4 1 (.t 2) (.t 14), none⟩,
             ⟨some 16, .load (.t 15), none⟩,
             ⟨some 17, .val (.t 8), none⟩,
             ⟨some 18, .indexA 4 1 (.t 3) (.t 17), none⟩,
             ⟨some 19, .load (.t 18), none⟩,
             ⟨some 20, .val (.t 7), none⟩,
             ⟨some 21, .ext 94 [(.t 16), (.t 19), (.t 20)], none⟩,
             ⟨some 12, .val (.t 21), none⟩,
             ⟨some 22, .extract 0 (.t 12), none⟩,
             ⟨some 23, .extract 1 (.t 12), none⟩,
             ⟨some 24, .indexA 4 1 (.t 6) (.t 13), none⟩,
             ⟨none, .store 1 (.t 24) (.t 22), none⟩,
             ⟨some 7, .val (.t 23), none⟩] [([], []), ([], []), ([1], [1]), ([2], [2]), ([], []), ([4], [4]), ([5], [5]), ([], []), ([3, 6, 7], [3, 6, 7]), ([8], [8]), ([9], [9]), ([9], [9]), ([0, 0, 1, 2, 3, 4, 5, 6, 7, 8, 9, 10], [0]), ([12, 10, 8, 0, 1, 2, 3, 4, 5, 6, 7, 8, 9, 10], [10, 12]), ([11, 13, 0, 1, 2, 3, 4, 5, 6, 7, 8, 9, 10, 11, 12, 13], [7, 11])])))
          (.ops 7 false [
           ⟨some 25, .bin .add (.t 9) (.c (.int .i64 1)), none⟩,
           ⟨some 9, .val (.t 25), none⟩] [])))))))
    (.seq (.seq (.ops 8 false [
       ⟨some 26, .val (.t 7), none⟩,
       ⟨some 27, .bin .gtr (.t 26) (.c (.int .u64 0)), none⟩] [])
      (.cond (.t 27) (.seq (.ops 9 false [
         ⟨some 28, .build [(.int .u64 0), (.int .u64 0), (.int .u64 0), (.int .u64 0)] [], none⟩,
         ⟨none, .store 4 (.t 4) (.t 28), none⟩,
         ⟨some 5, .val (.c (.int .i64 22)), none⟩] [])
        (.ret))
       (.skip)))
     (.seq (.ops 10 false [
       ⟨some 29, .loadN 4 (.t 6), none⟩,
       ⟨none, .store 4 (.t 4) (.t 29), none⟩,
       ⟨some 5, .val (.c (.int .i64 0)), none⟩] [])
      (.ret))))))
def rs49 : List RR := [.cell 4 (some 4), .tmp 5]
theorem fun49 : FunR Tryd.prog 49 rc49 rs49 30 := ⟨Tryd.f49, Tryd.func49, by kernel_rfl, by kernel_rfl, by kernel_rfl⟩
/-- causeway/ledger.balanceKey -/
def rc50 : RC :=
 .seq (.ops 0 false [
  ⟨some 3, .box 33 (.t 1), none⟩,
  ⟨some 4, .val (.c (.string ⟨#[]⟩)), none⟩] [])
 (.seq (.ops 1 false [
   ⟨some 5, .val (.t 0), none⟩,
   ⟨some 6, .conv .u8 (.t 5), none⟩,
   ⟨some 7, .buildS 5 2 [(.int .u8 0), (.int .u8 0)] [(0, 1, (.c (.int .u8 98))), (1, 1, (.t 6))], none⟩,
   ⟨some 8, .sliceA 20 1 (.t 3) none none, none⟩,
   ⟨some 9, .blt .append #[91, 91] 91 [(.t 7), (.t 8)], none⟩,
   ⟨some 10, .cvt 91 9 (.t 9), none⟩,
   ⟨some 4, .val (.t 10), none⟩] [])
  (.ret))
def rs50 : List RR := [.tmp 4]
theorem fun50 : FunR Tryd.prog 50 rc50 rs50 11 := ⟨Tryd.f50, Tryd.func50, by kernel_rfl, by kernel_rfl, by kernel_rfl⟩
/-- causeway/ledger.amount -/
def rc51 : RC :=
 .seq (.ops 0 false [
  ⟨some 4, .alloc 25 [(.int .u64 0), (.int .u64 0), (.int .u64 0), (.int .u64 0)], none⟩,
  ⟨some 5, .val (.c (.int .i64 0)), none⟩] [])
 (.seq (.ops 1 false [
   ⟨some 10, .val (.t 0), none⟩,
   ⟨some 11, .val (.t 1), none⟩,
   ⟨some 12, .call 40 [(.t 10), (.t 11)], none⟩,
   ⟨some 9, .val (.t 12), none⟩,
   ⟨some 13, .extract 0 (.t 9), none⟩,
   ⟨some 14, .extract 1 (.t 9), none⟩,
   ⟨some 6, .val (.t 13), none⟩,
   ⟨some 7, .val (.t 14), none⟩] [])
  (.seq (.seq (.ops 2 false [
     ⟨some 15, .val (.t 7), none⟩,
     ⟨some 16, .bin .neq (.t 15) (.c (.int .i64 0)), none⟩,
     ⟨some 17, .val (.t 16), none⟩,
     ⟨some 18, .val (.t 6), some (17, false)⟩,
     ⟨some 19, .len (.t 18), some (17, false)⟩,
     ⟨some 20, .bin .eql (.t 19) (.c (.int .i64 0)), some (17, false)⟩,
     ⟨some 21, .pick (.t 17) (.c (.bool true)) (.t 20), none⟩] [])
    (.cond (.t 21) (.seq (.ops 3 false [
       ⟨some 22, .build [(.int .u64 0), (.int .u64 0), (.int .u64 0), (.int .u64 0)] [], none⟩,
       ⟨some 23, .val (.t 7), none⟩,
       ⟨none, .store 4 (.t 4) (.t 22), none⟩,
       ⟨some 5, .val (.t 23), none⟩] [])
      (.ret))
     (.skip)))
   (.seq (.ops 4 false [
     ⟨some 25, .val (.t 6), none⟩,
     ⟨some 26, .call 63 [(.t 25)], none⟩,
     ⟨some 24, .val (.t 26), none⟩,
     ⟨some 27, .extract 0 (.t 24), none⟩,
     ⟨some 28, .extract 1 (.t 24), none⟩,
     ⟨some 8, .alloc 25 [(.int .u64 0), (.int .u64 0), (.int .u64 0), (.int .u64 0)], none⟩,
     ⟨none, .store 4 (.t 8) (.t 27), none⟩,
     ⟨some 7, .val (.t 28), none⟩] [])
    (.seq (.seq (.ops 5 false [
       ⟨some 29, .val (.t 7), none⟩,
       ⟨some 30, .bin .neq (.t 29) (.c (.int .i64 0)), none⟩,
       ⟨some 31, .val (.t 30), none⟩,
       ⟨some 32, .loadN 4 (.t 8), some (31, false)⟩,
       ⟨some 33, .call 52 [(.t 32)], some (31, false)⟩,
       ⟨some 34, .pick (.t 31) (.c (.bool true)) (.t 33), none⟩] [])
      (.cond (.t 34) (.seq (.ops 6 false [
         ⟨some 35, .build [(.int .u64 0), (.int .u64 0), (.int .u64 0), (.int .u64 0)] [], none⟩,
         ⟨none, .store 4 (.t 4) (.t 35), none⟩,
         ⟨some 5, .val (.c (.int .i64 75)), none⟩] [])
        (.ret))
       (.skip)))
     (.seq (.ops 7 false [
       ⟨some 36, .loadN 4 (.t 8), none⟩,
       ⟨none, .store 4 (.t 4) (.t 36), none⟩,
       ⟨some 5, .val (.c (.int .i64 0)), none⟩] [])
      (.ret))))))
def rs51 : List RR := [.cell 4 (some 4), .tmp 5]
theorem fun51 : FunR Tryd.prog 51 rc51 rs51 37 := ⟨Tryd.f51, Tryd.func51, by kernel_rfl, by kernel_rfl, by kernel_rfl⟩
/-- causeway/wide.IsZero -/
def rc52 : RC :=
 .seq (.ops 0 false [
  ⟨some 1, .box 25 (.t 0), none⟩,
  ⟨some 2, .val (.c (.bool false)), none⟩] [])
 (.seq (.ops 1 false [
   ⟨some 3, .loadN 4 (.t 1), none⟩,
   ⟨some 4, .build [(.int .u64 0), (.int .u64 0), (.int .u64 0), (.int .u64 0)] [], none⟩,
   ⟨some 5, .eqn false 25 (.t 3) (.t 4), none⟩,
   ⟨some 2, .val (.t 5), none⟩] [])
  (.ret))
def rs52 : List RR := [.tmp 2]
theorem fun52 : FunR Tryd.prog 52 rc52 rs52 6 := ⟨Tryd.f52, Tryd.func52, by kernel_rfl, by kernel_rfl, by kernel_rfl⟩
/-- causeway/ledger.lay -/
def rc53 : RC :=
 .seq (.ops 0 false [
  ⟨some 5, .box 25 (.t 2), none⟩,
  ⟨some 6, .val (.c (.int .i64 0)), none⟩] [])
 (.seq (.seq (.ops 1 false [
    ⟨some 7, .loadN 4 (.t 5), none⟩,
    ⟨some 8, .call 52 [(.t 7)], none⟩] [])
   (.cond (.t 8) (.seq (.ops 2 false [
      ⟨some 9, .val (.t 0), none⟩,
      ⟨some 10, .val (.t 1), none⟩,
      ⟨some 11, .call 39 [(.t 9), (.t 10), (.c (.slice none 0 0))], none⟩,
      ⟨some 6, .val (.t 11), none⟩] [])
     (.ret))
    (.skip)))
  (.seq (.ops 3 false [
    ⟨some 12, .val (.t 0), none⟩,
    ⟨some 13, .val (.t 1), none⟩,
    ⟨some 14, .loadN 4 (.t 5), none⟩,
    ⟨some 15, .call 93 [(.t 14)], none⟩,
    ⟨some 16, .call 39 [(.t 12), (.t 13), (.t 15)], none⟩,
    ⟨some 6, .val (.t 16), none⟩] [])
   (.ret)))
def rs53 : List RR := [.tmp 6]
theorem fun53 : FunR Tryd.prog 53 rc53 rs53 17 := ⟨Tryd.f53, Tryd.func53, by kernel_rfl, by kernel_rfl, by kernel_rfl⟩
/-- causeway/ledger.funds -/
def rc54 : RC :=
 .seq (.ops 0 false [
  ⟨some 7, .box 33 (.t 2), none⟩,
  ⟨some 8, .box 33 (.t 3), none⟩,
  ⟨some 9, .box 25 (.t 4), none⟩,
  ⟨some 10, .alloc 25 [(.int .u64 0), (.int .u64 0), (.int .u64 0), (.int .u64 0)], none⟩,
  ⟨some 11, .alloc 25 [(.int .u64 0), (.int .u64 0), (.int .u64 0), (.int .u64 0)], none⟩,
  ⟨some 12, .val (.c (.int .i64 0)), none⟩] [])
 (.seq (.ops 1 false [
   ⟨some 16, .val (.t 0), none⟩,
   ⟨some 17, .val (.t 1), none⟩,
   ⟨some 18, .loadN 20 (.t 7), none⟩,
   ⟨some 19, .call 50 [(.t 17), (.t 18)], none⟩,
   ⟨some 20, .call 51 [(.t 16), (.t 19)], none⟩,
   ⟨some 15, .val (.t 20), none⟩,
   ⟨some 21, .extract 0 (.t 15), none⟩,
   ⟨some 22, .extract 1 (.t 15), none⟩,
   ⟨some 13, .alloc 25 [(.int .u64 0), (.int .u64 0), (.int .u64 0), (.int .u64 0)], none⟩,
   ⟨none, .store 4 (.t 13) (.t 21), none⟩,
   ⟨some 12, .val (.t 22), none⟩] [])
  (.seq (.seq (.ops 2 false [
     ⟨some 23, .val (.t 12), none⟩,
     ⟨some 24, .bin .neq (.t 23) (.c (.int .i64 0)), none⟩] [])
    (.cond (.t 24) (.seq (.ops 3 true [
       ⟨some 25, .loadN 4 (.t 10), none⟩,
       ⟨some 26, .loadN 4 (.t 11), none⟩,
       ⟨some 27, .val (.t 12), none⟩,
       ⟨none, .store 4 (.t 10) (.t 25), none⟩,
       ⟨none, .store 4 (.t 11) (.t 26), none⟩,
       ⟨some 12, .val (.t 27), none⟩] [([], []), ([], []), ([], []), ([0, 0], [0]), ([1, 3, 0, 1, 3], [1]), ([2, 4, 0, 1, 2, 3, 4], [2])])
      (.ret))
     (.skip)))
   (.seq (.seq (.ops 4 false [
      ⟨some 29, .loadN 4 (.t 13), none⟩,
      ⟨some 30, .loadN 4 (.t 9), none⟩,
      ⟨some 31, .call 60 [(.t 29), (.t 30)], none⟩,
      ⟨some 28, .val (.t 31), none⟩,
      ⟨some 32, .extract 0 (.t 28), none⟩,
      ⟨some 33, .extract 1 (.t 28), none⟩,
      ⟨none, .store 4 (.t 10) (.t 32), none⟩,
      ⟨some 12, .val (.t 33), none⟩] [])
     (.seq (.ops 5 false [
       ⟨some 34, .val (.t 12), none⟩,
       ⟨some 35, .bin .neq (.t 34) (.c (.int .i64 0)), none⟩] [])
      (.cond (.t 35) (.seq (.ops 6 true [
         ⟨some 36, .build [(.int .u64 0), (.int .u64 0), (.int .u64 0), (.int .u64 0)] [], none⟩,
         ⟨some 37, .loadN 4 (.t 11), none⟩,
         ⟨none, .store 4 (.t 10) (.t 36), none⟩,
         ⟨none, .store 4 (.t 11) (.t 37), none⟩,
         ⟨some 12, .val (.c (.int .i64 85)), none⟩] [([], []), ([], []), ([0, 0], [0]), ([1, 2, 0, 1, 2], [1]), ([3, 0, 1, 2, 3], [])])
        (.ret))
       (.skip))))
    (.seq (.ops 7 false [
      ⟨some 39, .val (.t 0), none⟩,
      ⟨some 40, .val (.t 1), none⟩,
      ⟨some 41, .loadN 20 (.t 8), none⟩,
      ⟨some 42, .call 50 [(.t 40), (.t 41)], none⟩,
      ⟨some 43, .call 51 [(.t 39), (.t 42)], none⟩,
      ⟨some 38, .val (.t 43), none⟩,
      ⟨some 44, .extract 0 (.t 38), none⟩,
      ⟨some 45, .extract 1 (.t 38), none⟩,
      ⟨some 14, .alloc 25 [(.int .u64 0), (.int .u64 0), (.int .u64 0), (.int .u64 0)], none⟩,
      ⟨none, .store 4 (.t 14) (.t 44), none⟩,
      ⟨some 12, .val (.t 45), none⟩] [])
     (.seq (.seq (.ops 8 false [
        ⟨some 46, .val (.t 12), none⟩,
        ⟨some 47, .bin .neq (.t 46) (.c (.int .i64 0)), none⟩,
        ⟨some 48, .val (.t 47), none⟩,
        ⟨some 49, .loadN 20 (.t 7), some (48, false)⟩,
        ⟨some 50, .loadN 20 (.t 8), some (48, false)⟩,
        ⟨some 51, .eqn false 33 (.t 49) (.t 50), some (48, false)⟩,
        ⟨some 52, .pick (.t 48) (.c (.bool true)) (.t 51), none⟩] [])
       (.cond (.t 52) (.seq (.ops 9 true [
          ⟨some 53, .loadN 4 (.t 10), none⟩,
          ⟨some 54, .loadN 4 (.t 14), none⟩,
          ⟨some 55, .val (.t 12), none⟩,
          ⟨none, .store 4 (.t 10) (.t 53), none⟩,
          ⟨none, .store 4 (.t 11) (.t 54), none⟩,
          ⟨some 12, .val (.t 55), none⟩] [([], []), ([], []), ([], []), ([0, 0], [0]), ([1, 3, 0, 1, 3], [1]), ([2, 4, 0, 1, 2, 3, 4], [2])])
         (.ret))
        (.skip)))
      (.seq (.seq (.ops 10 false [
         ⟨some 57, .loadN 4 (.t 14), none⟩,
         ⟨some 58, .loadN 4 (.t 9), none⟩,
         ⟨some 59, .call 49 [(.t 57), (.t 58)], none⟩,
         ⟨some 56, .val (.t 59), none⟩,
         ⟨some 60, .extract 0 (.t 56), none⟩,
         ⟨some 61, .extract 1 (.t 56), none⟩,
         ⟨none, .store 4 (.t 11) (.t 60), none⟩,
         ⟨some 12, .val (.t 61), none⟩] [])
        (.seq (.ops 11 false [
          ⟨some 62, .val (.t 12), none⟩,
          ⟨some 63, .bin .neq (.t 62) (.c (.int .i64 0)), none⟩] [])
         (.cond (.t 63) (.seq (.ops 12 false [
            ⟨some 64, .loadN 4 (.t 10), none⟩,
            ⟨some 65, .build [(.int .u64 0), (.int .u64 0), (.int .u64 0), (.int .u64 0)] [], none⟩,
            ⟨none, .store 4 (.t 10) (.t 64), none⟩,
            ⟨none, .store 4 (.t 11) (.t 65), none⟩,
            ⟨some 12, .val (.c (.int .i64 75)), none⟩] [])
           (.ret))
          (.skip))))
       (.seq (.ops 13 true [
         ⟨some 66, .loadN 4 (.t 10), none⟩,
         ⟨some 67, .loadN 4 (.t 11), none⟩,
         ⟨none, .store 4 (.t 10) (.t 66), none⟩,
         ⟨none, .store 4 (.t 11) (.t 67), none⟩,
         ⟨some 12, .val (.c (.int .i64 0)), none⟩] [([], []), ([], []), ([0, 0], [0]), ([1, 2, 0, 1, 2], [1]), ([3, 0, 1, 2, 3], [])])
        (.ret))))))))
def rs54 : List RR := [.cell 10 (some 4), .cell 11 (some 4), .tmp 12]
theorem fun54 : FunR Tryd.prog 54 rc54 rs54 68 := ⟨Tryd.f54, Tryd.func54, by kernel_rfl, by kernel_rfl, by kernel_rfl⟩
/-- causeway/ledger.turn -/
def rc55 : RC :=
 .seq (.ops 0 false [
  ⟨some 9, .box 33 (.t 2), none⟩,
  ⟨some 10, .box 33 (.t 3), none⟩,
  ⟨some 11, .box 25 (.t 4), none⟩,
  ⟨some 12, .box 25 (.t 5), none⟩,
  ⟨some 13, .box 25 (.t 6), none⟩,
  ⟨some 14, .val (.c (.int .i64 0)), none⟩] [])
 (.seq (.seq (.ops 1 false [
    ⟨some 16, .loadN 20 (.t 9), none⟩,
    ⟨some 17, .loadN 20 (.t 10), none⟩,
    ⟨some 18, .eqn false 33 (.t 16) (.t 17), none⟩,
    ⟨some 19, .val (.t 18), none⟩,
    ⟨some 20, .loadN 4 (.t 11), some (19, false)⟩,
    ⟨some 21, .call 52 [(.t 20)], some (19, false)⟩,
    ⟨some 22, .pick (.t 19) (.c (.bool true)) (.t 21), none⟩] [])
   (.cond (.t 22) (.seq (.ops 2 false [
      ⟨some 14, .val (.c (.int .i64 0)), none⟩] [])
     (.ret))
    (.skip)))
  (.seq (.seq (.ops 3 true [
     ⟨some 23, .val (.t 0), none⟩,
     ⟨some 24, .val (.t 1), none⟩,
     ⟨some 25, .loadN 20 (.t 9), none⟩,
     ⟨some 26, .call 50 [(.t 24), (.t 25)], none⟩,
     ⟨some 27, .loadN 4 (.t 12), none⟩,
     ⟨some 28, .call 53 [(.t 23), (.t 26), (.t 27)], none⟩,
     ⟨some 15, .val (.t 28), none⟩] [([], []), ([], []), ([], []), ([1, 2], [1, 2]), ([], []), ([0, 3, 4, 3], [0, 3, 4]), ([5, 5, 0, 1, 2, 3, 4, 5], [5])])
    (.seq (.ops 4 false [
      ⟨some 29, .val (.t 15), none⟩,
      ⟨some 30, .bin .neq (.t 29) (.c (.int .i64 0)), none⟩] [])
     (.cond (.t 30) (.seq (.ops 5 false [
        ⟨some 31, .val (.t 15), none⟩,
        ⟨some 14, .val (.t 31), none⟩] [])
       (.ret))
      (.skip))))
   (.seq (.ops 6 true [
     ⟨some 32, .val (.t 0), none⟩,
     ⟨some 33, .val (.t 1), none⟩,
     ⟨some 34, .loadN 20 (.t 10), none⟩,
     ⟨some 35, .call 50 [(.t 33), (.t 34)], none⟩,
     ⟨some 36, .loadN 4 (.t 13), none⟩,
     ⟨some 37, .call 53 [(.t 32), (.t 35), (.t 36)], none⟩,
     ⟨some 14, .val (.t 37), none⟩] [([], []), ([], []), ([], []), ([1, 2], [1, 2]), ([], []), ([0, 3, 4, 3], [0, 3, 4]), ([5, 5, 0, 1, 2, 3, 4, 5], [5])])
    (.ret))))
def rs55 : List RR := [.tmp 14]
theorem fun55 : FunR Tryd.prog 55 rc55 rs55 38 := ⟨Tryd.f55, Tryd.func55, by kernel_rfl, by kernel_rfl, by kernel_rfl⟩
/-- causeway/causewayref02.compare -/
def rc56 : RC :=
 .seq (.ops 0 false [
  ⟨some 4, .val (.c (.int .i64 0)), none⟩] [])
 (.seq (.seq (.ops 1 false [
    ⟨some 6, .val (.t 0), none⟩,
    ⟨some 7, .len (.t 6), none⟩,
    ⟨some 8, .val (.t 1), none⟩,
    ⟨some 9, .len (.t 8), none⟩,
    ⟨some 10, .bin .neq (.t 7) (.t 9), none⟩] [])
   (.cond (.t 10) (.seq (.seq (.ops 2 false [
       ⟨some 11, .val (.t 0), none⟩,
       ⟨some 12, .len (.t 11), none⟩,
       ⟨some 13, .val (.t 1), none⟩,
       ⟨some 14, .len (.t 13), none⟩,
       ⟨some 15, .bin .lss (.t 12) (.t 14), none⟩] [])
      (.cond (.t 15) (.seq (.ops 3 false [
         ⟨some 4, .val (.c (.int .i64 (-1))), none⟩] [])
        (.ret))
       (.skip)))
     (.seq (.ops 4 false [
       ⟨some 4, .val (.c (.int .i64 1)), none⟩] [])
      (.ret)))
    (.skip)))
  (.seq (.seq (.ops 5 false [
     ⟨some 16, .val (.t 0), none⟩,
     ⟨some 17, .len (.t 16), none⟩,
     ⟨some 18, .bin .sub (.t 17) (.c (.int .i64 1)), none⟩,
     ⟨some 5, .val (.t 18), none⟩] [])
    (.block 0 (.loop (.seq (.seq (.ops 6 false [
         ⟨some 19, .val (.t 5), none⟩,
         ⟨some 20, .bin .geq (.t 19) (.c (.int .i64 0)), none⟩] [])
        (.cond (.t 20) (.skip)
         (.exit 0)))
       (.seq (.block 1 (.seq (.seq (.ops 8 true [
            ⟨some 23, .val (.t 0), none⟩,
            ⟨some 24, .val (.t 5), none⟩,
            ⟨some 25, .indexS 1 (.t 23) (.t 24), none⟩,
            ⟨some 26, .load (.t 25), none⟩,
            ⟨some 27, .val (.t 1), none⟩,
            ⟨some 28, .val (.t 5), none⟩,
            ⟨some 29, .indexS 1 (.t 27) (.t 28), none⟩,
            ⟨some 30, .load (.t 29), none⟩,
            ⟨some 31, .bin .lss (.t 26) (.t 30), none⟩] [([], []), ([], []), ([0, 1], [0, 1]), ([2], [2]), ([], []), ([], []), ([4, 5], [4, 5]), ([6], [6]), ([3, 7], [3, 7])])
           (.cond (.t 31) (.seq (.ops 9 false [
              ⟨some 4, .val (.c (.int .i64 (-1))), none⟩] [])
             (.ret))
            (.skip)))
          (.seq (.ops 10 true [
            ⟨some 32, .val (.t 0), none⟩,
            ⟨some 33, .val (.t 5), none⟩,
            ⟨some 34, .indexS 1 (.t 32) (.t 33), none⟩,
            ⟨some 35, .load (.t 34), none⟩,
            ⟨some 36, .val (.t 1), none⟩,
            ⟨some 37, .val (.t 5), none⟩,
            ⟨some 38, .indexS 1 (.t 36) (.t 37), none⟩,
            ⟨some 39, .load (.t 38), none⟩,
            ⟨some 40, .bin .gtr (.t 35) (.t 39), none⟩] [([], []), ([], []), ([0, 1], [0, 1]), ([2], [2]), ([], []), ([], []), ([4, 5], [4, 5]), ([6], [6]), ([3, 7], [3, 7])])
           (.cond (.t 40) (.seq (.ops 11 false [
              ⟨some 4, .val (.c (.int .i64 1)), none⟩] [])
             (.ret))
            (.skip)))))
        (.ops 7 false [
         ⟨some 21, .val (.t 5), none⟩,
         ⟨some 22, .bin .sub (.t 21) (.c (.int .i64 1)), none⟩,
         ⟨some 5, .val (.t 22), none⟩] []))))))
   (.seq (.ops 12 false [
     ⟨some 4, .val (.c (.int .i64 0)), none⟩] [])
    (.ret))))
def rs56 : List RR := [.tmp 4]
theorem fun56 : FunR Tryd.prog 56 rc56 rs56 41 := ⟨Tryd.f56, Tryd.func56, by kernel_rfl, by kernel_rfl, by kernel_rfl⟩
/-- causeway/causewayref02.digits -/
def rc57 : RC :=
 .seq (.ops 0 false [
  ⟨some 1, .box 25 (.t 0), none⟩,
  ⟨some 2, .val (.c (.slice none 0 0)), none⟩] [])
 (.seq (.ops 1 false [
   ⟨some 5, .mkS 58 (.c (.int .i64 256)) (.c (.int .i64 256)), none⟩,
   ⟨some 3, .val (.t 5), none⟩] [])
  (.seq (.seq (.ops 2 false [
     ⟨some 4, .val (.c (.int .i64 0)), none⟩] [])
    (.block 0 (.loop (.seq (.seq (.ops 3 false [
         ⟨some 6, .val (.t 4), none⟩,
         ⟨some 7, .bin .lss (.t 6) (.c (.int .i64 256)), none⟩] [])
        (.cond (.t 7) (.skip)
         (.exit 0)))
       (.seq (.block 1 (.ops 5 false [
          ⟨some 10, .val (.t 3), none⟩,
          ⟨some 11, .val (.t 4), none⟩,
          ⟨some 12, .val (.t 4), none⟩,
          ⟨some 13, .bin .quo (.t 12) (.c (.int .i64 64)), none⟩,
          ⟨some 14, .indexA 4 1 (.t 1) (.t 13), none⟩,
          ⟨some 15, .load (.t 14), none⟩,
          ⟨some 16, .val (.t 4), none⟩,
          ⟨some 17, .bin .rem (.t 16) (.c (.int .i64 64)), none⟩,
          ⟨some 18, .bin .shr (.t 15) (.t 17), none⟩,
          ⟨some 19, .conv .i64 (.t 18), none⟩,
          ⟨some 20, .bin .and (.t 19) (.c (.int .i64 1)), none⟩,
          ⟨some 21, .indexS 1 (.t 10) (.t 11), none⟩,
          ⟨none, .store 1 (.t 21) (.t 20), none⟩] []))
        (.ops 4 false [
         ⟨some 8, .val (.t 4), none⟩,
         ⟨some 9, .bin .add (.t 8) (.c (.int .i64 1)), none⟩,
         ⟨some 4, .val (.t 9), none⟩] []))))))
   (.seq (.ops 6 false [
     ⟨some 22, .val (.t 3), none⟩,
     ⟨some 23, .call 95 [(.t 22)], none⟩,
     ⟨some 2, .val (.t 23), none⟩] [])
    (.ret))))
def rs57 : List RR := [.tmp 2]
theorem fun57 : FunR Tryd.prog 57 rc57 rs57 24 := ⟨Tryd.f57, Tryd.func57, by kernel_rfl, by kernel_rfl, by kernel_rfl⟩
/-- causeway/ledger.begun -/
def rc58 : RC :=
 .seq (.ops 0 false [
  ⟨some 4, .val (.c (.int .i64 0)), none⟩] [])
 (.seq (.block 0 (.seq (.ops 1 false [
     ⟨some 6, .val (.t 0), none⟩,
     ⟨some 7, .eqp .ptr false (.t 6) (.c (.pointer none)), none⟩,
     ⟨some 5, .val (.t 7), none⟩] [])
    (.cond (.t 5) (.seq (.ops 2 false [
       ⟨some 4, .val (.c (.int .i64 1)), none⟩] [])
      (.ret))
     (.seq (.ops 3 false [
       ⟨some 9, .val (.t 1), none⟩,
       ⟨some 10, .bin .lss (.t 9) (.c (.int .i64 0)), none⟩,
       ⟨some 11, .val (.t 10), none⟩,
       ⟨some 12, .val (.t 1), some (11, false)⟩,
       ⟨some 13, .bin .geq (.t 12) (.c (.int .i64 64)), some (11, false)⟩,
       ⟨some 14, .pick (.t 11) (.c (.bool true)) (.t 13), none⟩,
       ⟨some 8, .val (.t 14), none⟩] [])
      (.cond (.t 8) (.seq (.ops 4 false [
         ⟨some 4, .val (.c (.int .i64 80)), none⟩] [])
        (.ret))
       (.skip))))))
  (.seq (.ops 5 false [
    ⟨some 4, .val (.c (.int .i64 0)), none⟩] [])
   (.ret)))
def rs58 : List RR := [.tmp 4]
theorem fun58 : FunR Tryd.prog 58 rc58 rs58 15 := ⟨Tryd.f58, Tryd.func58, by kernel_rfl, by kernel_rfl, by kernel_rfl⟩
/-- causeway/ledger.allowanceKey -/
def rc59 : RC :=
 .seq (.ops 0 false [
  ⟨some 4, .box 33 (.t 1), none⟩,
  ⟨some 5, .box 33 (.t 2), none⟩,
  ⟨some 6, .val (.c (.string ⟨#[]⟩)), none⟩] [])
 (.seq (.ops 1 true [
   ⟨some 7, .val (.t 0), none⟩,
   ⟨some 8, .conv .u8 (.t 7), none⟩,
   ⟨some 9, .buildS 5 2 [(.int .u8 0), (.int .u8 0)] [(0, 1, (.c (.int .u8 108))), (1, 1, (.t 8))], none⟩,
   ⟨some 10, .sliceA 20 1 (.t 4) none none, none⟩,
   ⟨some 11, .blt .append #[91, 91] 91 [(.t 9), (.t 10)], none⟩,
   ⟨some 12, .sliceA 20 1 (.t 5) none none, none⟩,
   ⟨some 13, .blt .append #[91, 91] 91 [(.t 11), (.t 12)], none⟩,
   ⟨some 14, .cvt 91 9 (.t 13), none⟩,
   ⟨some 6, .val (.t 14), none⟩] [([], []), ([0], [0]), ([1], [1]), ([], []), ([2, 3], [2, 3]), ([], []), ([4, 5, 4], [4, 5]), ([6], [6]), ([7, 6, 0, 1, 2, 3, 4, 5, 6, 7], [7])])
  (.ret))
def rs59 : List RR := [.tmp 6]
theorem fun59 : FunR Tryd.prog 59 rc59 rs59 15 := ⟨Tryd.f59, Tryd.func59, by kernel_rfl, by kernel_rfl, by kernel_rfl⟩
/-- causeway/wide.Sub -/
def rc60 : RC :=
 .seq (.ops 0 false [
  ⟨some 2, .box 25 (.t 0), none⟩,
  ⟨some 3, .box 25 (.t 1), none⟩,
  ⟨some 4, .alloc 25 [(.int .u64 0), (.int .u64 0), (.int .u64 0), (.int .u64 0)], none⟩,
  ⟨some 5, .val (.c (.int .i64 0)), none⟩] [])
 (.seq (.ops 1 false [
   ⟨some 6, .alloc 25 [(.int .u64 0), (.int .u64 0), (.int .u64 0), (.int .u64 0)], none⟩] [])
  (.seq (.ops 2 false [
    ⟨some 7, .val (.c (.int .u64 0)), none⟩] [])
   (.seq (.seq (.ops 3 false [
      ⟨some 9, .val (.c (.int .i64 0)), none⟩] [])
     (.block 0 (.loop (.seq (.ops 4 false [
         ⟨some 10, .bin .lss (.t 9) (.c (.int .i64 4)), none⟩] [])
        (.seq (.cond (.t 10) (.skip)
          (.exit 0))
         (.seq (.block 1 (.seq (.ops 5 false [
             ⟨some 11, .val (.t 9), none⟩,
             ⟨some 8, .val (.t 11), none⟩] [])
            (.ops 6 true [
             ⟨some 13, .val (.t 8), none⟩,
             ⟨some 14, .val (.t 8), none⟩,
             ⟨some 15, .indexA 4 1 (.t 2) (.t 14), none⟩,
             ⟨some 16, .load (.t 15), none⟩,
             ⟨some 17, .val (.t 8), none⟩,
             ⟨some 18, .indexA 4 1 (.t 3) (.t 17), none⟩,
             ⟨some 19, .load (.t 18), none⟩,
             ⟨some 20, .val (.t 7), none⟩,
             ⟨some 21, .ext 96 [(.t 16), (.t 19), (.t 20)], none⟩,
             ⟨some 12, .val (.t 21), none⟩,
             ⟨some 22, .extract 0 (.t 12), none⟩,
             ⟨some 23, .extract 1 (.t 12), none⟩,
             ⟨some 24, .indexA 4 1 (.t 6) (.t 13), none⟩,
             ⟨none, .store 1 (.t 24) (.t 22), none⟩,
             ⟨some 7, .val (.t 23), none⟩] [([], []), ([], []), ([1], [1]), ([2], [2]), ([], []), ([4], [4]), ([5], [5]), ([], []), ([3, 6, 7], [3, 6, 7]), ([8], [8]), ([9], [9]), ([9], [9]), ([0, 0, 1, 2, 3, 4, 5, 6, 7, 8, 9, 10], [0]), ([12, 10, 8, 0, 1, 2, 3, 4, 5, 6, 7, 8, 9, 10], [10, 12]), ([11, 13, 0, 1, 2, 3, 4, 5, 6, 7, 8, 9, 10, 11, 12, 13], [7, 11])])))
          (.ops 7 false [
           ⟨some 25, .bin .add (.t 9) (.c (.int .i64 1)), none⟩,
           ⟨some 9, .val (.t 25), none⟩] [])))))))
    (.seq (.seq (.ops 8 false [
       ⟨some 26, .val (.t 7), none⟩,
       ⟨some 27, .bin .gtr (.t 26) (.c (.int .u64 0)), none⟩] [])
      (.cond (.t 27) (.seq (.ops 9 false [
         ⟨some 28, .build [(.int .u64 0), (.int .u64 0), (.int .u64 0), (.int .u64 0)] [], none⟩,
         ⟨none, .store 4 (.t 4) (.t 28), none⟩,
         ⟨some 5, .val (.c (.int .i64 23)), none⟩] [])
        (.ret))
       (.skip)))
     (.seq (.ops 10 false [
       ⟨some 29, .loadN 4 (.t 6), none⟩,
       ⟨none, .store 4 (.t 4) (.t 29), none⟩,
       ⟨some 5, .val (.c (.int .i64 0)), none⟩] [])
      (.ret))))))
def rs60 : List RR := [.cell 4 (some 4), .tmp 5]
theorem fun60 : FunR Tryd.prog 60 rc60 rs60 30 := ⟨Tryd.f60, Tryd.func60, by kernel_rfl, by kernel_rfl, by kernel_rfl⟩
/-- causeway/ledger.there -/
def rc61 : RC :=
 .seq (.ops 0 false [
  ⟨some 4, .alloc 44 [(.bool false), (.bool false), (.int .u64 0), (.int .u64 0), (.int .u64 0), (.int .u64 0)], none⟩,
  ⟨some 5, .val (.c (.int .i64 0)), none⟩] [])
 (.seq (.ops 1 false [
   ⟨some 9, .val (.t 0), none⟩,
   ⟨some 10, .val (.t 1), none⟩,
   ⟨some 11, .call 21 [(.t 9), (.t 10)], none⟩,
   ⟨some 8, .val (.t 11), none⟩,
   ⟨some 12, .extract 0 (.t 8), none⟩,
   ⟨some 13, .extract 1 (.t 8), none⟩,
   ⟨some 6, .alloc 44 [(.bool false), (.bool false), (.int .u64 0), (.int .u64 0), (.int .u64 0), (.int .u64 0)], none⟩,
   ⟨none, .store 6 (.t 6) (.t 12), none⟩,
   ⟨some 7, .val (.t 13), none⟩] [])
  (.seq (.block 0 (.seq (.ops 2 false [
      ⟨some 15, .val (.t 7), none⟩,
      ⟨some 16, .bin .neq (.t 15) (.c (.int .i64 0)), none⟩,
      ⟨some 14, .val (.t 16), none⟩] [])
     (.cond (.t 14) (.seq (.ops 3 false [
        ⟨some 17, .build [(.bool false), (.bool false), (.int .u64 0), (.int .u64 0), (.int .u64 0), (.int .u64 0)] [], none⟩,
        ⟨some 18, .val (.t 7), none⟩,
        ⟨none, .store 6 (.t 4) (.t 17), none⟩,
        ⟨some 5, .val (.t 18), none⟩] [])
       (.ret))
      (.seq (.ops 4 false [
        ⟨some 20, .loadN 6 (.t 6), none⟩,
        ⟨some 21, .build [(.bool false), (.bool false), (.int .u64 0), (.int .u64 0), (.int .u64 0), (.int .u64 0)] [], none⟩,
        ⟨some 22, .eqn false 44 (.t 20) (.t 21), none⟩,
        ⟨some 19, .val (.t 22), none⟩] [])
       (.cond (.t 19) (.seq (.ops 5 false [
          ⟨some 23, .loadN 6 (.t 6), none⟩,
          ⟨none, .store 6 (.t 4) (.t 23), none⟩,
          ⟨some 5, .val (.c (.int .i64 81)), none⟩] [])
         (.ret))
        (.skip))))))
   (.seq (.ops 6 false [
     ⟨some 24, .loadN 6 (.t 6), none⟩,
     ⟨none, .store 6 (.t 4) (.t 24), none⟩,
     ⟨some 5, .val (.c (.int .i64 0)), none⟩] [])
    (.ret))))
def rs61 : List RR := [.cell 4 (some 6), .tmp 5]
theorem fun61 : FunR Tryd.prog 61 rc61 rs61 25 := ⟨Tryd.f61, Tryd.func61, by kernel_rfl, by kernel_rfl, by kernel_rfl⟩
/-- causeway/ledger.tokenKey -/
def rc62 : RC :=
 .seq (.ops 0 false [
  ⟨some 2, .val (.c (.string ⟨#[]⟩)), none⟩] [])
 (.seq (.ops 1 false [
   ⟨some 3, .val (.t 0), none⟩,
   ⟨some 4, .conv .u8 (.t 3), none⟩,
   ⟨some 5, .buildS 5 2 [(.int .u8 0), (.int .u8 0)] [(0, 1, (.c (.int .u8 116))), (1, 1, (.t 4))], none⟩,
   ⟨some 6, .cvt 91 9 (.t 5), none⟩,
   ⟨some 2, .val (.t 6), none⟩] [])
  (.ret))
def rs62 : List RR := [.tmp 2]
theorem fun62 : FunR Tryd.prog 62 rc62 rs62 7 := ⟨Tryd.f62, Tryd.func62, by kernel_rfl, by kernel_rfl, by kernel_rfl⟩
/-- causeway/wide.Read -/
def rc63 : RC :=
 .seq (.ops 0 false [
  ⟨some 2, .alloc 25 [(.int .u64 0), (.int .u64 0), (.int .u64 0), (.int .u64 0)], none⟩,
  ⟨some 3, .val (.c (.int .i64 0)), none⟩] [])
 (.seq (.ops 1 false [
   ⟨some 4, .alloc 25 [(.int .u64 0), (.int .u64 0), (.int .u64 0), (.int .u64 0)], none⟩] [])
  (.seq (.seq (.ops 2 false [
     ⟨some 7, .val (.t 0), none⟩,
     ⟨some 8, .len (.t 7), none⟩,
     ⟨some 9, .bin .neq (.t 8) (.c (.int .i64 32)), none⟩] [])
    (.cond (.t 9) (.seq (.ops 3 false [
       ⟨some 10, .loadN 4 (.t 4), none⟩,
       ⟨none, .store 4 (.t 2) (.t 10), none⟩,
       ⟨some 3, .val (.c (.int .i64 20)), none⟩] [])
      (.ret))
     (.skip)))
   (.seq (.seq (.ops 4 false [
      ⟨some 11, .val (.t 0), none⟩,
      ⟨some 12, .len (.t 11), none⟩,
      ⟨some 13, .val (.c (.int .i64 0)), none⟩] [])
     (.block 0 (.loop (.seq (.ops 5 false [
         ⟨some 14, .bin .lss (.t 13) (.t 12), none⟩] [])
        (.seq (.cond (.t 14) (.skip)
          (.exit 0))
         (.seq (.block 1 (.seq (.ops 6 false [
             ⟨some 15, .val (.t 13), none⟩,
             ⟨some 16, .indexS 1 (.t 11) (.t 13), none⟩,
             ⟨some 17, .load (.t 16), none⟩,
             ⟨some 5, .val (.t 15), none⟩,
             ⟨some 6, .val (.t 17), none⟩] [])
            (.ops 7 false [
             ⟨some 18, .val (.t 5), none⟩,
             ⟨some 19, .bin .quo (.t 18) (.c (.int .i64 8)), none⟩,
             ⟨some 20, .bin .sub (.c (.int .i64 3)) (.t 19), none⟩,
             ⟨some 21, .val (.t 5), none⟩,
             ⟨some 22, .bin .quo (.t 21) (.c (.int .i64 8)), none⟩,
             ⟨some 23, .bin .sub (.c (.int .i64 3)) (.t 22), none⟩,
             ⟨some 24, .indexA 4 1 (.t 4) (.t 23), none⟩,
             ⟨some 25, .load (.t 24), none⟩,
             ⟨some 26, .bin .shl (.t 25) (.c (.int .u64 8)), none⟩,
             ⟨some 27, .val (.t 6), none⟩,
             ⟨some 28, .conv .u64 (.t 27), none⟩,
             ⟨some 29, .bin .or (.t 26) (.t 28), none⟩,
             ⟨some 30, .indexA 4 1 (.t 4) (.t 20), none⟩,
             ⟨none, .store 1 (.t 30) (.t 29), none⟩] [])))
          (.ops 8 false [
           ⟨some 31, .bin .add (.t 13) (.c (.int .i64 1)), none⟩,
           ⟨some 13, .val (.t 31), none⟩] [])))))))
    (.seq (.ops 9 false [
      ⟨some 32, .loadN 4 (.t 4), none⟩,
      ⟨none, .store 4 (.t 2) (.t 32), none⟩,
      ⟨some 3, .val (.c (.int .i64 0)), none⟩] [])
     (.ret)))))
def rs63 : List RR := [.cell 2 (some 4), .tmp 3]
theorem fun63 : FunR Tryd.prog 63 rc63 rs63 33 := ⟨Tryd.f63, Tryd.func63, by kernel_rfl, by kernel_rfl, by kernel_rfl⟩
/-- causeway/ledger.Pause -/
def rc64 : RC :=
 .seq (.ops 0 false [
  ⟨some 4, .val (.c (.int .i64 0)), none⟩] [])
 (.seq (.ops 1 false [
   ⟨some 8, .val (.t 0), none⟩,
   ⟨some 9, .val (.t 1), none⟩,
   ⟨some 10, .call 48 [(.t 8), (.t 9)], none⟩,
   ⟨some 7, .val (.t 10), none⟩,
   ⟨some 11, .extract 0 (.t 7), none⟩,
   ⟨some 12, .extract 1 (.t 7), none⟩,
   ⟨some 5, .alloc 44 [(.bool false), (.bool false), (.int .u64 0), (.int .u64 0), (.int .u64 0), (.int .u64 0)], none⟩,
   ⟨none, .store 6 (.t 5) (.t 11), none⟩,
   ⟨some 6, .val (.t 12), none⟩] [])
  (.seq (.seq (.ops 2 false [
     ⟨some 13, .val (.t 6), none⟩,
     ⟨some 14, .bin .neq (.t 13) (.c (.int .i64 0)), none⟩] [])
    (.cond (.t 14) (.seq (.ops 3 false [
       ⟨some 15, .val (.t 6), none⟩,
       ⟨some 4, .val (.t 15), none⟩] [])
      (.ret))
     (.skip)))
   (.seq (.ops 4 false [
     ⟨some 16, .fieldA 1 (.t 5), none⟩,
     ⟨none, .store 1 (.t 16) (.c (.bool true)), none⟩] [])
    (.seq (.ops 5 false [
      ⟨some 17, .val (.t 0), none⟩,
      ⟨some 18, .val (.t 1), none⟩,
      ⟨some 19, .loadN 6 (.t 5), none⟩,
      ⟨some 20, .call 47 [(.t 17), (.t 18), (.t 19)], none⟩,
      ⟨some 4, .val (.t 20), none⟩] [])
     (.ret)))))
def rs64 : List RR := [.tmp 4]
theorem fun64 : FunR Tryd.prog 64 rc64 rs64 21 := ⟨Tryd.f64, Tryd.func64, by kernel_rfl, by kernel_rfl, by kernel_rfl⟩
/-- causeway/ledger.Resume -/
def rc65 : RC :=
 .seq (.ops 0 false [
  ⟨some 4, .val (.c (.int .i64 0)), none⟩] [])
 (.seq (.ops 1 false [
   ⟨some 8, .val (.t 0), none⟩,
   ⟨some 9, .val (.t 1), none⟩,
   ⟨some 10, .call 61 [(.t 8), (.t 9)], none⟩,
   ⟨some 7, .val (.t 10), none⟩,
   ⟨some 11, .extract 0 (.t 7), none⟩,
   ⟨some 12, .extract 1 (.t 7), none⟩,
   ⟨some 5, .alloc 44 [(.bool false), (.bool false), (.int .u64 0), (.int .u64 0), (.int .u64 0), (.int .u64 0)], none⟩,
   ⟨none, .store 6 (.t 5) (.t 11), none⟩,
   ⟨some 6, .val (.t 12), none⟩] [])
  (.seq (.block 0 (.seq (.ops 2 false [
      ⟨some 14, .val (.t 6), none⟩,
      ⟨some 15, .bin .neq (.t 14) (.c (.int .i64 0)), none⟩,
      ⟨some 13, .val (.t 15), none⟩] [])
     (.cond (.t 13) (.seq (.ops 3 false [
        ⟨some 16, .val (.t 6), none⟩,
        ⟨some 4, .val (.t 16), none⟩] [])
       (.ret))
      (.seq (.ops 4 false [
        ⟨some 18, .fieldA 1 (.t 5), none⟩,
        ⟨some 19, .load (.t 18), none⟩,
        ⟨some 20, .not (.t 19), none⟩,
        ⟨some 17, .val (.t 20), none⟩] [])
       (.cond (.t 17) (.seq (.ops 5 false [
          ⟨some 4, .val (.c (.int .i64 84)), none⟩] [])
         (.ret))
        (.skip))))))
   (.seq (.ops 6 false [
     ⟨some 21, .fieldA 1 (.t 5), none⟩,
     ⟨none, .store 1 (.t 21) (.c (.bool false)), none⟩] [])
    (.seq (.ops 7 false [
      ⟨some 22, .val (.t 0), none⟩,
      ⟨some 23, .val (.t 1), none⟩,
      ⟨some 24, .loadN 6 (.t 5), none⟩,
      ⟨some 25, .call 47 [(.t 22), (.t 23), (.t 24)], none⟩,
      ⟨some 4, .val (.t 25), none⟩] [])
     (.ret)))))
def rs65 : List RR := [.tmp 4]
theorem fun65 : FunR Tryd.prog 65 rc65 rs65 26 := ⟨Tryd.f65, Tryd.func65, by kernel_rfl, by kernel_rfl, by kernel_rfl⟩
/-- causeway/store.may -/
def rc85 : RC :=
 .seq (.ops 0 false [
  ⟨some 4, .val (.c (.int .i64 0)), none⟩] [])
 (.seq (.block 0 (.seq (.ops 1 false [
     ⟨some 6, .val (.t 0), none⟩,
     ⟨some 7, .eqp .str false (.t 6) (.c (.string ⟨#[]⟩)), none⟩,
     ⟨some 8, .val (.t 7), none⟩,
     ⟨some 9, .val (.t 0), some (8, false)⟩,
     ⟨some 10, .lenT (.t 9), some (8, false)⟩,
     ⟨some 11, .bin .gtr (.t 10) (.c (.int .i64 128)), some (8, false)⟩,
     ⟨some 12, .pick (.t 8) (.c (.bool true)) (.t 11), none⟩,
     ⟨some 5, .val (.t 12), none⟩] [])
    (.cond (.t 5) (.seq (.ops 2 false [
       ⟨some 4, .val (.c (.int .i64 70)), none⟩] [])
      (.ret))
     (.seq (.ops 3 false [
       ⟨some 14, .val (.t 1), none⟩,
       ⟨some 15, .len (.t 14), none⟩,
       ⟨some 16, .bin .gtr (.t 15) (.c (.int .i64 4096)), none⟩,
       ⟨some 13, .val (.t 16), none⟩] [])
      (.cond (.t 13) (.seq (.ops 4 false [
         ⟨some 4, .val (.c (.int .i64 71)), none⟩] [])
        (.ret))
       (.skip))))))
  (.seq (.ops 5 false [
    ⟨some 4, .val (.c (.int .i64 0)), none⟩] [])
   (.ret)))
def rs85 : List RR := [.tmp 4]
theorem fun85 : FunR Tryd.prog 85 rc85 rs85 17 := ⟨Tryd.f85, Tryd.func85, by kernel_rfl, by kernel_rfl, by kernel_rfl⟩
/-- (*causeway/store.State).ask -/
def rc86 : RC :=
 .seq (.ops 0 false [
  ⟨some 4, .val (.c (.int .i64 0)), none⟩] [])
 (.seq (.seq (.ops 1 false [
    ⟨some 10, .val (.t 0), none⟩,
    ⟨some 11, .nilCheck (.t 10), none⟩,
    ⟨some 12, .fieldA 1 (.t 11), none⟩,
    ⟨some 13, .load (.t 12), none⟩,
    ⟨some 14, .val (.t 1), none⟩,
    ⟨some 15, .look 124 (.t 13) (.t 14) true, none⟩,
    ⟨some 9, .val (.t 15), none⟩,
    ⟨some 16, .extract 0 (.t 9), none⟩,
    ⟨some 17, .extract 1 (.t 9), none⟩,
    ⟨some 5, .val (.t 16), none⟩,
    ⟨some 6, .val (.t 17), none⟩] [])
   (.seq (.ops 2 false [
     ⟨some 18, .val (.t 6), none⟩] [])
    (.cond (.t 18) (.seq (.ops 3 false [
       ⟨some 4, .val (.c (.int .i64 0)), none⟩] [])
      (.ret))
     (.skip))))
  (.seq (.ops 4 false [
    ⟨some 20, .val (.t 0), none⟩,
    ⟨some 21, .nilCheck (.t 20), none⟩,
    ⟨some 22, .fieldA 0 (.t 21), none⟩,
    ⟨some 23, .load (.t 22), none⟩,
    ⟨some 24, .val (.t 1), none⟩,
    ⟨some 25, .inv (.t 23) "Find" [(.t 24)], none⟩,
    ⟨some 19, .val (.t 25), none⟩,
    ⟨some 26, .extract 0 (.t 19), none⟩,
    ⟨some 27, .extract 1 (.t 19), none⟩,
    ⟨some 7, .val (.t 26), none⟩,
    ⟨some 8, .val (.t 27), none⟩] [])
   (.seq (.seq (.ops 5 false [
      ⟨some 28, .val (.t 8), none⟩,
      ⟨some 29, .bin .neq (.t 28) (.c (.int .i64 0)), none⟩] [])
     (.cond (.t 29) (.seq (.ops 6 false [
        ⟨some 30, .val (.t 8), none⟩,
        ⟨some 4, .val (.t 30), none⟩] [])
       (.ret))
      (.skip)))
    (.seq (.seq (.ops 7 false [
       ⟨some 31, .val (.t 7), none⟩,
       ⟨some 32, .len (.t 31), none⟩,
       ⟨some 33, .bin .gtr (.t 32) (.c (.int .i64 4096)), none⟩] [])
      (.cond (.t 33) (.seq (.ops 8 false [
         ⟨some 4, .val (.c (.int .i64 71)), none⟩] [])
        (.ret))
       (.skip)))
     (.seq (.ops 9 true [
       ⟨some 34, .val (.t 0), none⟩,
       ⟨some 35, .nilCheck (.t 34), none⟩,
       ⟨some 36, .fieldA 1 (.t 35), none⟩,
       ⟨some 37, .load (.t 36), none⟩,
       ⟨some 38, .val (.t 1), none⟩,
       ⟨some 39, .val (.t 7), none⟩,
       ⟨some 40, .call 87 [(.t 39)], none⟩,
       ⟨none, .upd 124 (.t 37) (.t 38) (.t 40), none⟩] [([], []), ([0], [0]), ([1], [1]), ([2], [2]), ([], []), ([], []), ([5], [5]), ([3, 4, 6, 6, 0, 1, 2, 3, 4, 5, 6], [3, 4, 6])])
      (.seq (.ops 10 false [
        ⟨some 4, .val (.c (.int .i64 0)), none⟩] [])
       (.ret)))))))
def rs86 : List RR := [.tmp 4]
theorem fun86 : FunR Tryd.prog 86 rc86 rs86 41 := ⟨Tryd.f86, Tryd.func86, by kernel_rfl, by kernel_rfl, by kernel_rfl⟩
/-- slices.Clone[[]byte,byte] -/
def rc87 : RC :=
 .seq (.ops 0 false [
  ⟨some 2, .val (.c (.slice none 0 0)), none⟩] [])
 (.seq (.seq (.ops 1 false [
    ⟨some 3, .val (.t 0), none⟩,
    ⟨some 4, .eqp .slc false (.t 3) (.c (.slice none 0 0)), none⟩] [])
   (.cond (.t 4) (.seq (.ops 2 false [
      ⟨some 2, .val (.c (.slice none 0 0)), none⟩] [])
     (.ret))
    (.skip)))
  (.seq (.ops 3 false [
    ⟨some 5, .buildS 5 0 [] [], none⟩,
    ⟨some 6, .val (.t 0), none⟩,
    ⟨some 7, .blt .append #[91, 91] 91 [(.t 5), (.t 6)], none⟩,
    ⟨some 2, .val (.t 7), none⟩] [])
   (.ret)))
def rs87 : List RR := [.tmp 2]
theorem fun87 : FunR Tryd.prog 87 rc87 rs87 8 := ⟨Tryd.f87, Tryd.func87, by kernel_rfl, by kernel_rfl, by kernel_rfl⟩
/-- (*causeway/store.State).value -/
def rc88 : RC :=
 .seq (.ops 0 false [
  ⟨some 4, .val (.c (.slice none 0 0)), none⟩] [])
 (.seq (.seq (.ops 1 false [
    ⟨some 8, .val (.t 0), none⟩,
    ⟨some 9, .nilCheck (.t 8), none⟩,
    ⟨some 10, .fieldA 2 (.t 9), none⟩,
    ⟨some 11, .load (.t 10), none⟩,
    ⟨some 12, .val (.t 1), none⟩,
    ⟨some 13, .look 124 (.t 11) (.t 12) true, none⟩,
    ⟨some 7, .val (.t 13), none⟩,
    ⟨some 14, .extract 0 (.t 7), none⟩,
    ⟨some 15, .extract 1 (.t 7), none⟩,
    ⟨some 5, .val (.t 14), none⟩,
    ⟨some 6, .val (.t 15), none⟩] [])
   (.seq (.ops 2 false [
     ⟨some 16, .val (.t 6), none⟩] [])
    (.cond (.t 16) (.seq (.ops 3 false [
       ⟨some 17, .val (.t 5), none⟩,
       ⟨some 4, .val (.t 17), none⟩] [])
      (.ret))
     (.skip))))
  (.seq (.ops 4 false [
    ⟨some 18, .val (.t 0), none⟩,
    ⟨some 19, .nilCheck (.t 18), none⟩,
    ⟨some 20, .fieldA 1 (.t 19), none⟩,
    ⟨some 21, .load (.t 20), none⟩,
    ⟨some 22, .val (.t 1), none⟩,
    ⟨some 23, .look 124 (.t 21) (.t 22) false, none⟩,
    ⟨some 4, .val (.t 23), none⟩] [])
   (.ret)))
def rs88 : List RR := [.tmp 4]
theorem fun88 : FunR Tryd.prog 88 rc88 rs88 24 := ⟨Tryd.f88, Tryd.func88, by kernel_rfl, by kernel_rfl, by kernel_rfl⟩
/-- causeway/sparse.New -/
def rc91 : RC :=
 .seq (.ops 0 false [
  ⟨some 0, .val (.c (.pointer none)), none⟩] [])
 (.seq (.ops 1 false [
   ⟨some 1, .build [(.pointer none), (.int .i64 0)] [], none⟩,
   ⟨some 2, .box 177 (.t 1), none⟩,
   ⟨some 0, .val (.t 2), none⟩] [])
  (.ret))
def rs91 : List RR := [.tmp 0]
theorem fun91 : FunR Tryd.prog 91 rc91 rs91 3 := ⟨Tryd.f91, Tryd.func91, by kernel_rfl, by kernel_rfl, by kernel_rfl⟩
/-- causeway/wide.Bytes -/
def rc93 : RC :=
 .seq (.ops 0 false [
  ⟨some 1, .box 25 (.t 0), none⟩,
  ⟨some 2, .val (.c (.slice none 0 0)), none⟩] [])
 (.seq (.ops 1 false [
   ⟨some 6, .mkS 91 (.c (.int .i64 0)) (.c (.int .i64 32)), none⟩,
   ⟨some 3, .val (.t 6), none⟩] [])
  (.seq (.seq (.ops 2 false [
     ⟨some 4, .val (.c (.int .i64 3)), none⟩] [])
    (.block 0 (.loop (.seq (.seq (.ops 3 false [
         ⟨some 7, .val (.t 4), none⟩,
         ⟨some 8, .bin .geq (.t 7) (.c (.int .i64 0)), none⟩] [])
        (.cond (.t 8) (.skip)
         (.exit 0)))
       (.seq (.block 1 (.seq (.ops 5 false [
           ⟨some 5, .val (.c (.int .i64 56)), none⟩] [])
          (.block 2 (.loop (.seq (.seq (.ops 6 false [
               ⟨some 11, .val (.t 5), none⟩,
               ⟨some 12, .bin .geq (.t 11) (.c (.int .i64 0)), none⟩] [])
              (.cond (.t 12) (.skip)
               (.exit 2)))
             (.seq (.block 3 (.ops 8 false [
                ⟨some 15, .val (.t 3), none⟩,
                ⟨some 16, .val (.t 4), none⟩,
                ⟨some 17, .indexA 4 1 (.t 1) (.t 16), none⟩,
                ⟨some 18, .load (.t 17), none⟩,
                ⟨some 19, .val (.t 5), none⟩,
                ⟨some 20, .bin .shr (.t 18) (.t 19), none⟩,
                ⟨some 21, .conv .u8 (.t 20), none⟩,
                ⟨some 22, .buildS 5 1 [(.int .u8 0)] [(0, 1, (.t 21))], none⟩,
                ⟨some 23, .blt .append #[91, 91] 91 [(.t 15), (.t 22)], none⟩,
                ⟨some 3, .val (.t 23), none⟩] []))
              (.ops 7 false [
               ⟨some 13, .val (.t 5), none⟩,
               ⟨some 14, .bin .sub (.t 13) (.c (.int .i64 8)), none⟩,
               ⟨some 5, .val (.t 14), none⟩] [])))))))
        (.ops 4 false [
         ⟨some 9, .val (.t 4), none⟩,
         ⟨some 10, .bin .sub (.t 9) (.c (.int .i64 1)), none⟩,
         ⟨some 4, .val (.t 10), none⟩] []))))))
   (.seq (.ops 9 false [
     ⟨some 24, .val (.t 3), none⟩,
     ⟨some 2, .val (.t 24), none⟩] [])
    (.ret))))
def rs93 : List RR := [.tmp 2]
theorem fun93 : FunR Tryd.prog 93 rc93 rs93 25 := ⟨Tryd.f93, Tryd.func93, by kernel_rfl, by kernel_rfl, by kernel_rfl⟩
/-- causeway/causewayref02.cut -/
def rc95 : RC :=
 .seq (.ops 0 false [
  ⟨some 2, .val (.c (.slice none 0 0)), none⟩] [])
 (.seq (.ops 1 false [
   ⟨some 4, .val (.t 0), none⟩,
   ⟨some 5, .len (.t 4), none⟩,
   ⟨some 3, .val (.t 5), none⟩] [])
  (.seq (.block 0 (.loop (.seq (.seq (.ops 2 false [
        ⟨some 6, .val (.t 3), none⟩,
        ⟨some 7, .bin .gtr (.t 6) (.c (.int .i64 0)), none⟩,
        ⟨some 8, .val (.t 7), none⟩,
        ⟨some 9, .val (.t 0), some (8, true)⟩,
        ⟨some 10, .val (.t 3), some (8, true)⟩,
        ⟨some 11, .bin .sub (.t 10) (.c (.int .i64 1)), some (8, true)⟩,
        ⟨some 12, .indexS 1 (.t 9) (.t 11), some (8, true)⟩,
        ⟨some 13, .load (.t 12), some (8, true)⟩,
        ⟨some 14, .bin .eql (.t 13) (.c (.int .i64 0)), some (8, true)⟩,
        ⟨some 15, .pick (.t 8) (.t 14) (.c (.bool false)), none⟩] [])
       (.cond (.t 15) (.skip)
        (.exit 0)))
      (.block 1 (.ops 3 false [
        ⟨some 16, .val (.t 3), none⟩,
        ⟨some 17, .bin .sub (.t 16) (.c (.int .i64 1)), none⟩,
        ⟨some 3, .val (.t 17), none⟩] [])))))
   (.seq (.ops 4 false [
     ⟨some 18, .val (.t 0), none⟩,
     ⟨some 19, .val (.t 3), none⟩,
     ⟨some 20, .slice 1 (.t 18) none (some (.t 19)) none, none⟩,
     ⟨some 2, .val (.t 20), none⟩] [])
    (.ret))))
def rs95 : List RR := [.tmp 2]
theorem fun95 : FunR Tryd.prog 95 rc95 rs95 21 := ⟨Tryd.f95, Tryd.func95, by kernel_rfl, by kernel_rfl, by kernel_rfl⟩
end Go.Proofs.YtnbcbdlbejdkpaaDoor
