/-
  The resolved texts of this seat's functions, printed by this session's own program, and that they are what the translation has.
-/
import Derived.Test.YtnbcbdlbejdkpaaDoorChecked
import Derived.Test.YtnbcbdlbejdkpaaDoorZCd
import Derived.KernelRfl
namespace Go.Proofs.YtnbcbdlbejdkpaaDoor
open Go Go.Sl
set_option maxRecDepth 100000
/-- causeway/causewaylaw09.TicketKeeps -/
def rc7 : RC :=
 .seq (.ops 0 false [
  ⟨some 4, .val (.c (.bool false)), none⟩] [])
 (.seq (.ops 1 false [
   ⟨some 8, .call 32 [(.c (.slice none 0 0))], none⟩,
   ⟨some 5, .val (.t 8), none⟩] [])
  (.seq (.seq (.ops 2 false [
     ⟨some 9, .val (.t 5), none⟩,
     ⟨some 10, .eqp .ptr false (.t 9) (.c (.pointer none)), none⟩,
     ⟨some 11, .val (.t 10), none⟩,
     ⟨some 12, .call 33 [], some (11, false)⟩,
     ⟨some 13, .not (.t 12), some (11, false)⟩,
     ⟨some 14, .pick (.t 11) (.c (.bool true)) (.t 13), none⟩] [])
    (.cond (.t 14) (.seq (.ops 3 false [
       ⟨some 4, .val (.c (.bool false)), none⟩] [])
      (.ret))
     (.skip)))
   (.seq (.ops 4 false [
     ⟨some 15, .val (.t 5), none⟩,
     ⟨some 16, .build [(.pointer none), (.slice none 0 0), (.slice none 0 0), (.int .u64 0), (.int .u64 0), (.int .u64 0), (.int .u64 0), (.int .u64 0), (.int .u64 0), (.int .u64 0), (.int .u64 0), (.int .u64 0), (.int .u64 0), (.int .u64 0), (.int .u64 0), (.int .u64 0), (.int .u64 0), (.int .u64 0)] [(0, 1, (.t 15))], none⟩,
     ⟨some 17, .box 79 (.t 16), none⟩,
     ⟨some 6, .val (.t 17), none⟩] [])
    (.seq (.seq (.ops 5 false [
       ⟨some 7, .val (.c (.int .i64 0)), none⟩] [])
      (.block 0 (.loop (.seq (.seq (.ops 6 false [
           ⟨some 18, .val (.t 7), none⟩,
           ⟨some 19, .val (.t 0), none⟩,
           ⟨some 20, .len (.t 19), none⟩,
           ⟨some 21, .bin .lss (.t 18) (.t 20), none⟩] [])
          (.cond (.t 21) (.skip)
           (.exit 0)))
         (.seq (.block 1 (.seq (.ops 8 false [
             ⟨some 24, .val (.t 6), none⟩,
             ⟨some 25, .val (.t 0), none⟩,
             ⟨some 26, .val (.t 7), none⟩,
             ⟨some 27, .indexS 49 (.t 25) (.t 26), none⟩,
             ⟨some 28, .loadN 49 (.t 27), none⟩,
             ⟨some 29, .call 34 [(.t 24), (.t 28)], none⟩,
             ⟨some 30, .not (.t 29), none⟩,
             ⟨some 31, .val (.t 30), none⟩,
             ⟨some 32, .val (.t 7), some (31, false)⟩,
             ⟨some 33, .val (.t 1), some (31, false)⟩,
             ⟨some 34, .len (.t 33), some (31, false)⟩,
             ⟨some 35, .bin .lss (.t 32) (.t 34), some (31, false)⟩,
             ⟨some 36, .val (.t 35), some (31, false)⟩,
             ⟨some 37, .val (.t 1), some (36, true)⟩,
             ⟨some 38, .val (.t 7), some (36, true)⟩,
             ⟨some 39, .indexS 1 (.t 37) (.t 38), some (36, true)⟩,
             ⟨some 40, .load (.t 39), some (36, true)⟩,
             ⟨some 41, .pick (.t 36) (.t 40) (.c (.bool false)), some (31, false)⟩,
             ⟨some 42, .val (.t 41), some (31, false)⟩,
             ⟨some 43, .val (.t 6), some (42, true)⟩,
             ⟨some 44, .call 35 [(.t 43)], some (42, true)⟩,
             ⟨some 45, .not (.t 44), some (42, true)⟩,
             ⟨some 46, .pick (.t 42) (.t 45) (.c (.bool false)), some (31, false)⟩,
             ⟨some 47, .pick (.t 31) (.c (.bool true)) (.t 46), none⟩] [])
            (.cond (.t 47) (.seq (.ops 9 false [
               ⟨some 4, .val (.c (.bool false)), none⟩] [])
              (.ret))
             (.skip))))
          (.ops 7 false [
           ⟨some 22, .val (.t 7), none⟩,
           ⟨some 23, .bin .add (.t 22) (.c (.int .i64 1)), none⟩,
           ⟨some 7, .val (.t 23), none⟩] []))))))
     (.seq (.ops 10 false [
       ⟨some 48, .val (.t 6), none⟩,
       ⟨some 49, .call 35 [(.t 48)], none⟩,
       ⟨some 4, .val (.t 49), none⟩] [])
      (.ret))))))
def rs7 : List RR := [.tmp 4]
theorem fun7 : FunR Tryd.prog 7 rc7 rs7 50 := ⟨Tryd.f7, Tryd.func7, by kernel_rfl, by kernel_rfl, by kernel_rfl⟩
/-- causeway/ledger.Register -/
def rc12 : RC :=
 .seq (.ops 0 false [
  ⟨some 4, .val (.c (.int .i64 0)), none⟩] [])
 (.seq (.ops 1 false [
   ⟨some 8, .val (.t 0), none⟩,
   ⟨some 9, .val (.t 1), none⟩,
   ⟨some 10, .call 21 [(.t 8), (.t 9)], none⟩,
   ⟨some 7, .val (.t 10), none⟩,
   ⟨some 11, .extract 0 (.t 7), none⟩,
   ⟨some 12, .extract 1 (.t 7), none⟩,
   ⟨some 5, .alloc 44 [(.bool false), (.bool false), (.int .u64 0), (.int .u64 0), (.int .u64 0), (.int .u64 0)], none⟩,
   ⟨none, .store 6 (.t 5) (.t 11), none⟩,
   ⟨some 6, .val (.t 12), none⟩] [])
  (.seq (.block 0 (.seq (.ops 2 false [
      ⟨some 14, .val (.t 6), none⟩,
      ⟨some 15, .bin .neq (.t 14) (.c (.int .i64 0)), none⟩,
      ⟨some 13, .val (.t 15), none⟩] [])
     (.cond (.t 13) (.seq (.ops 3 false [
        ⟨some 16, .val (.t 6), none⟩,
        ⟨some 4, .val (.t 16), none⟩] [])
       (.ret))
      (.seq (.ops 4 false [
        ⟨some 18, .fieldA 0 (.t 5), none⟩,
        ⟨some 19, .load (.t 18), none⟩,
        ⟨some 17, .val (.t 19), none⟩] [])
       (.cond (.t 17) (.seq (.ops 5 false [
          ⟨some 4, .val (.c (.int .i64 82)), none⟩] [])
         (.ret))
        (.skip))))))
   (.seq (.ops 6 false [
     ⟨some 20, .val (.t 0), none⟩,
     ⟨some 21, .val (.t 1), none⟩,
     ⟨some 22, .build [(.bool false), (.bool false), (.int .u64 0), (.int .u64 0), (.int .u64 0), (.int .u64 0)] [], none⟩,
     ⟨some 23, .call 47 [(.t 20), (.t 21), (.t 22)], none⟩,
     ⟨some 4, .val (.t 23), none⟩] [])
    (.ret))))
def rs12 : List RR := [.tmp 4]
theorem fun12 : FunR Tryd.prog 12 rc12 rs12 24 := ⟨Tryd.f12, Tryd.func12, by kernel_rfl, by kernel_rfl, by kernel_rfl⟩
/-- causeway/ledger.Mint -/
def rc13 : RC :=
 .seq (.ops 0 false [
  ⟨some 6, .box 33 (.t 2), none⟩,
  ⟨some 7, .box 25 (.t 3), none⟩,
  ⟨some 8, .val (.c (.int .i64 0)), none⟩] [])
 (.seq (.ops 1 false [
   ⟨some 15, .val (.t 0), none⟩,
   ⟨some 16, .val (.t 1), none⟩,
   ⟨some 17, .call 48 [(.t 15), (.t 16)], none⟩,
   ⟨some 14, .val (.t 17), none⟩,
   ⟨some 18, .extract 0 (.t 14), none⟩,
   ⟨some 19, .extract 1 (.t 14), none⟩,
   ⟨some 9, .alloc 44 [(.bool false), (.bool false), (.int .u64 0), (.int .u64 0), (.int .u64 0), (.int .u64 0)], none⟩,
   ⟨none, .store 6 (.t 9) (.t 18), none⟩,
   ⟨some 10, .val (.t 19), none⟩] [])
  (.seq (.seq (.ops 2 false [
     ⟨some 20, .val (.t 10), none⟩,
     ⟨some 21, .bin .neq (.t 20) (.c (.int .i64 0)), none⟩] [])
    (.cond (.t 21) (.seq (.ops 3 false [
       ⟨some 22, .val (.t 10), none⟩,
       ⟨some 8, .val (.t 22), none⟩] [])
      (.ret))
     (.skip)))
   (.seq (.seq (.ops 4 false [
      ⟨some 24, .fieldA 2 (.t 9), none⟩,
      ⟨some 25, .loadN 4 (.t 24), none⟩,
      ⟨some 26, .loadN 4 (.t 7), none⟩,
      ⟨some 27, .call 49 [(.t 25), (.t 26)], none⟩,
      ⟨some 23, .val (.t 27), none⟩,
      ⟨some 28, .extract 0 (.t 23), none⟩,
      ⟨some 29, .extract 1 (.t 23), none⟩,
      ⟨some 30, .fieldA 2 (.t 9), none⟩,
      ⟨none, .store 4 (.t 30) (.t 28), none⟩,
      ⟨some 10, .val (.t 29), none⟩] [])
     (.seq (.ops 5 false [
       ⟨some 31, .val (.t 10), none⟩,
       ⟨some 32, .bin .neq (.t 31) (.c (.int .i64 0)), none⟩] [])
      (.cond (.t 32) (.seq (.ops 6 false [
         ⟨some 8, .val (.c (.int .i64 87)), none⟩] [])
        (.ret))
       (.skip))))
    (.seq (.ops 7 false [
      ⟨some 33, .val (.t 1), none⟩,
      ⟨some 34, .loadN 20 (.t 6), none⟩,
      ⟨some 35, .call 50 [(.t 33), (.t 34)], none⟩,
      ⟨some 11, .val (.t 35), none⟩] [])
     (.seq (.ops 8 false [
       ⟨some 37, .val (.t 0), none⟩,
       ⟨some 38, .val (.t 11), none⟩,
       ⟨some 39, .call 51 [(.t 37), (.t 38)], none⟩,
       ⟨some 36, .val (.t 39), none⟩,
       ⟨some 40, .extract 0 (.t 36), none⟩,
       ⟨some 41, .extract 1 (.t 36), none⟩,
       ⟨some 12, .alloc 25 [(.int .u64 0), (.int .u64 0), (.int .u64 0), (.int .u64 0)], none⟩,
       ⟨none, .store 4 (.t 12) (.t 40), none⟩,
       ⟨some 10, .val (.t 41), none⟩] [])
      (.seq (.seq (.ops 9 false [
         ⟨some 42, .val (.t 10), none⟩,
         ⟨some 43, .bin .neq (.t 42) (.c (.int .i64 0)), none⟩] [])
        (.cond (.t 43) (.seq (.ops 10 false [
           ⟨some 44, .val (.t 10), none⟩,
           ⟨some 8, .val (.t 44), none⟩] [])
          (.ret))
         (.skip)))
       (.seq (.seq (.ops 11 false [
          ⟨some 46, .loadN 4 (.t 12), none⟩,
          ⟨some 47, .loadN 4 (.t 7), none⟩,
          ⟨some 48, .call 49 [(.t 46), (.t 47)], none⟩,
          ⟨some 45, .val (.t 48), none⟩,
          ⟨some 49, .extract 0 (.t 45), none⟩,
          ⟨some 50, .extract 1 (.t 45), none⟩,
          ⟨none, .store 4 (.t 12) (.t 49), none⟩,
          ⟨some 10, .val (.t 50), none⟩] [])
         (.seq (.ops 12 false [
           ⟨some 51, .val (.t 10), none⟩,
           ⟨some 52, .bin .neq (.t 51) (.c (.int .i64 0)), none⟩] [])
          (.cond (.t 52) (.seq (.ops 13 false [
             ⟨some 8, .val (.c (.int .i64 75)), none⟩] [])
            (.ret))
           (.skip))))
        (.seq (.seq (.ops 14 false [
           ⟨some 53, .loadN 4 (.t 7), none⟩,
           ⟨some 54, .call 52 [(.t 53)], none⟩] [])
          (.cond (.t 54) (.seq (.ops 15 false [
             ⟨some 8, .val (.c (.int .i64 0)), none⟩] [])
            (.ret))
           (.skip)))
         (.seq (.seq (.ops 16 false [
            ⟨some 55, .val (.t 0), none⟩,
            ⟨some 56, .val (.t 1), none⟩,
            ⟨some 57, .loadN 6 (.t 9), none⟩,
            ⟨some 58, .call 47 [(.t 55), (.t 56), (.t 57)], none⟩,
            ⟨some 13, .val (.t 58), none⟩] [])
           (.seq (.ops 17 false [
             ⟨some 59, .val (.t 13), none⟩,
             ⟨some 60, .bin .neq (.t 59) (.c (.int .i64 0)), none⟩] [])
            (.cond (.t 60) (.seq (.ops 18 false [
               ⟨some 61, .val (.t 13), none⟩,
               ⟨some 8, .val (.t 61), none⟩] [])
              (.ret))
             (.skip))))
          (.seq (.ops 19 false [
            ⟨some 62, .val (.t 0), none⟩,
            ⟨some 63, .val (.t 11), none⟩,
            ⟨some 64, .loadN 4 (.t 12), none⟩,
            ⟨some 65, .call 53 [(.t 62), (.t 63), (.t 64)], none⟩,
            ⟨some 8, .val (.t 65), none⟩] [])
           (.ret)))))))))))
def rs13 : List RR := [.tmp 8]
theorem fun13 : FunR Tryd.prog 13 rc13 rs13 66 := ⟨Tryd.f13, Tryd.func13, by kernel_rfl, by kernel_rfl, by kernel_rfl⟩
/-- causeway/ledger.Burn -/
def rc20 : RC :=
 .seq (.ops 0 false [
  ⟨some 6, .box 33 (.t 2), none⟩,
  ⟨some 7, .box 25 (.t 3), none⟩,
  ⟨some 8, .val (.c (.int .i64 0)), none⟩] [])
 (.seq (.ops 1 false [
   ⟨some 15, .val (.t 0), none⟩,
   ⟨some 16, .val (.t 1), none⟩,
   ⟨some 17, .call 48 [(.t 15), (.t 16)], none⟩,
   ⟨some 14, .val (.t 17), none⟩,
   ⟨some 18, .extract 0 (.t 14), none⟩,
   ⟨some 19, .extract 1 (.t 14), none⟩,
   ⟨some 9, .alloc 44 [(.bool false), (.bool false), (.int .u64 0), (.int .u64 0), (.int .u64 0), (.int .u64 0)], none⟩,
   ⟨none, .store 6 (.t 9) (.t 18), none⟩,
   ⟨some 10, .val (.t 19), none⟩] [])
  (.seq (.seq (.ops 2 false [
     ⟨some 20, .val (.t 10), none⟩,
     ⟨some 21, .bin .neq (.t 20) (.c (.int .i64 0)), none⟩] [])
    (.cond (.t 21) (.seq (.ops 3 false [
       ⟨some 22, .val (.t 10), none⟩,
       ⟨some 8, .val (.t 22), none⟩] [])
      (.ret))
     (.skip)))
   (.seq (.ops 4 false [
     ⟨some 23, .val (.t 1), none⟩,
     ⟨some 24, .loadN 20 (.t 6), none⟩,
     ⟨some 25, .call 50 [(.t 23), (.t 24)], none⟩,
     ⟨some 11, .val (.t 25), none⟩] [])
    (.seq (.ops 5 false [
      ⟨some 27, .val (.t 0), none⟩,
      ⟨some 28, .val (.t 11), none⟩,
      ⟨some 29, .call 51 [(.t 27), (.t 28)], none⟩,
      ⟨some 26, .val (.t 29), none⟩,
      ⟨some 30, .extract 0 (.t 26), none⟩,
      ⟨some 31, .extract 1 (.t 26), none⟩,
      ⟨some 12, .alloc 25 [(.int .u64 0), (.int .u64 0), (.int .u64 0), (.int .u64 0)], none⟩,
      ⟨none, .store 4 (.t 12) (.t 30), none⟩,
      ⟨some 10, .val (.t 31), none⟩] [])
     (.seq (.seq (.ops 6 false [
        ⟨some 32, .val (.t 10), none⟩,
        ⟨some 33, .bin .neq (.t 32) (.c (.int .i64 0)), none⟩] [])
       (.cond (.t 33) (.seq (.ops 7 false [
          ⟨some 34, .val (.t 10), none⟩,
          ⟨some 8, .val (.t 34), none⟩] [])
         (.ret))
        (.skip)))
      (.seq (.seq (.ops 8 false [
         ⟨some 36, .loadN 4 (.t 12), none⟩,
         ⟨some 37, .loadN 4 (.t 7), none⟩,
         ⟨some 38, .call 60 [(.t 36), (.t 37)], none⟩,
         ⟨some 35, .val (.t 38), none⟩,
         ⟨some 39, .extract 0 (.t 35), none⟩,
         ⟨some 40, .extract 1 (.t 35), none⟩,
         ⟨none, .store 4 (.t 12) (.t 39), none⟩,
         ⟨some 10, .val (.t 40), none⟩] [])
        (.seq (.ops 9 false [
          ⟨some 41, .val (.t 10), none⟩,
          ⟨some 42, .bin .neq (.t 41) (.c (.int .i64 0)), none⟩] [])
         (.cond (.t 42) (.seq (.ops 10 false [
            ⟨some 8, .val (.c (.int .i64 85)), none⟩] [])
           (.ret))
          (.skip))))
       (.seq (.seq (.ops 11 false [
          ⟨some 44, .fieldA 2 (.t 9), none⟩,
          ⟨some 45, .loadN 4 (.t 44), none⟩,
          ⟨some 46, .loadN 4 (.t 7), none⟩,
          ⟨some 47, .call 60 [(.t 45), (.t 46)], none⟩,
          ⟨some 43, .val (.t 47), none⟩,
          ⟨some 48, .extract 0 (.t 43), none⟩,
          ⟨some 49, .extract 1 (.t 43), none⟩,
          ⟨some 50, .fieldA 2 (.t 9), none⟩,
          ⟨none, .store 4 (.t 50) (.t 48), none⟩,
          ⟨some 10, .val (.t 49), none⟩] [])
         (.seq (.ops 12 false [
           ⟨some 51, .val (.t 10), none⟩,
           ⟨some 52, .bin .neq (.t 51) (.c (.int .i64 0)), none⟩] [])
          (.cond (.t 52) (.seq (.ops 13 false [
             ⟨some 8, .val (.c (.int .i64 75)), none⟩] [])
            (.ret))
           (.skip))))
        (.seq (.seq (.ops 14 false [
           ⟨some 53, .loadN 4 (.t 7), none⟩,
           ⟨some 54, .call 52 [(.t 53)], none⟩] [])
          (.cond (.t 54) (.seq (.ops 15 false [
             ⟨some 8, .val (.c (.int .i64 0)), none⟩] [])
            (.ret))
           (.skip)))
         (.seq (.seq (.ops 16 false [
            ⟨some 55, .val (.t 0), none⟩,
            ⟨some 56, .val (.t 1), none⟩,
            ⟨some 57, .loadN 6 (.t 9), none⟩,
            ⟨some 58, .call 47 [(.t 55), (.t 56), (.t 57)], none⟩,
            ⟨some 13, .val (.t 58), none⟩] [])
           (.seq (.ops 17 false [
             ⟨some 59, .val (.t 13), none⟩,
             ⟨some 60, .bin .neq (.t 59) (.c (.int .i64 0)), none⟩] [])
            (.cond (.t 60) (.seq (.ops 18 false [
               ⟨some 61, .val (.t 13), none⟩,
               ⟨some 8, .val (.t 61), none⟩] [])
              (.ret))
             (.skip))))
          (.seq (.ops 19 false [
            ⟨some 62, .val (.t 0), none⟩,
            ⟨some 63, .val (.t 11), none⟩,
            ⟨some 64, .loadN 4 (.t 12), none⟩,
            ⟨some 65, .call 53 [(.t 62), (.t 63), (.t 64)], none⟩,
            ⟨some 8, .val (.t 65), none⟩] [])
           (.ret)))))))))))
def rs20 : List RR := [.tmp 8]
theorem fun20 : FunR Tryd.prog 20 rc20 rs20 66 := ⟨Tryd.f20, Tryd.func20, by kernel_rfl, by kernel_rfl, by kernel_rfl⟩
/-- causeway/ledger.Token -/
def rc21 : RC :=
 .seq (.ops 0 false [
  ⟨some 4, .alloc 44 [(.bool false), (.bool false), (.int .u64 0), (.int .u64 0), (.int .u64 0), (.int .u64 0)], none⟩,
  ⟨some 5, .val (.c (.int .i64 0)), none⟩] [])
 (.seq (.seq (.ops 1 false [
    ⟨some 10, .val (.t 0), none⟩,
    ⟨some 11, .val (.t 1), none⟩,
    ⟨some 12, .call 58 [(.t 10), (.t 11)], none⟩,
    ⟨some 6, .val (.t 12), none⟩] [])
   (.seq (.ops 2 false [
     ⟨some 13, .val (.t 6), none⟩,
     ⟨some 14, .bin .neq (.t 13) (.c (.int .i64 0)), none⟩] [])
    (.cond (.t 14) (.seq (.ops 3 false [
       ⟨some 15, .build [(.bool false), (.bool false), (.int .u64 0), (.int .u64 0), (.int .u64 0), (.int .u64 0)] [], none⟩,
       ⟨some 16, .val (.t 6), none⟩,
       ⟨none, .store 6 (.t 4) (.t 15), none⟩,
       ⟨some 5, .val (.t 16), none⟩] [])
      (.ret))
     (.skip))))
  (.seq (.ops 4 false [
    ⟨some 18, .val (.t 0), none⟩,
    ⟨some 19, .val (.t 1), none⟩,
    ⟨some 20, .call 62 [(.t 19)], none⟩,
    ⟨some 21, .call 40 [(.t 18), (.t 20)], none⟩,
    ⟨some 17, .val (.t 21), none⟩,
    ⟨some 22, .extract 0 (.t 17), none⟩,
    ⟨some 23, .extract 1 (.t 17), none⟩,
    ⟨some 7, .val (.t 22), none⟩,
    ⟨some 8, .val (.t 23), none⟩] [])
   (.seq (.seq (.ops 5 false [
      ⟨some 24, .val (.t 8), none⟩,
      ⟨some 25, .bin .neq (.t 24) (.c (.int .i64 0)), none⟩,
      ⟨some 26, .val (.t 25), none⟩,
      ⟨some 27, .val (.t 7), some (26, false)⟩,
      ⟨some 28, .len (.t 27), some (26, false)⟩,
      ⟨some 29, .bin .eql (.t 28) (.c (.int .i64 0)), some (26, false)⟩,
      ⟨some 30, .pick (.t 26) (.c (.bool true)) (.t 29), none⟩] [])
     (.cond (.t 30) (.seq (.ops 6 false [
        ⟨some 31, .build [(.bool false), (.bool false), (.int .u64 0), (.int .u64 0), (.int .u64 0), (.int .u64 0)] [], none⟩,
        ⟨some 32, .val (.t 8), none⟩,
        ⟨none, .store 6 (.t 4) (.t 31), none⟩,
        ⟨some 5, .val (.t 32), none⟩] [])
       (.ret))
      (.skip)))
    (.seq (.ops 7 false [
      ⟨some 34, .val (.t 7), none⟩,
      ⟨some 35, .slice 1 (.t 34) (some (.c (.int .i64 1))) none none, none⟩,
      ⟨some 36, .call 63 [(.t 35)], none⟩,
      ⟨some 33, .val (.t 36), none⟩,
      ⟨some 37, .extract 0 (.t 33), none⟩,
      ⟨some 38, .extract 1 (.t 33), none⟩,
      ⟨some 9, .alloc 25 [(.int .u64 0), (.int .u64 0), (.int .u64 0), (.int .u64 0)], none⟩,
      ⟨none, .store 4 (.t 9) (.t 37), none⟩,
      ⟨some 8, .val (.t 38), none⟩] [])
     (.seq (.seq (.ops 8 false [
        ⟨some 39, .val (.t 8), none⟩,
        ⟨some 40, .bin .neq (.t 39) (.c (.int .i64 0)), none⟩,
        ⟨some 41, .val (.t 40), none⟩,
        ⟨some 42, .val (.t 7), some (41, false)⟩,
        ⟨some 43, .indexS 1 (.t 42) (.c (.int .i64 0)), some (41, false)⟩,
        ⟨some 44, .load (.t 43), some (41, false)⟩,
        ⟨some 45, .bin .neq (.t 44) (.c (.int .u8 1)), some (41, false)⟩,
        ⟨some 46, .val (.t 45), some (41, false)⟩,
        ⟨some 47, .val (.t 7), some (46, true)⟩,
        ⟨some 48, .indexS 1 (.t 47) (.c (.int .i64 0)), some (46, true)⟩,
        ⟨some 49, .load (.t 48), some (46, true)⟩,
        ⟨some 50, .bin .neq (.t 49) (.c (.int .u8 3)), some (46, true)⟩,
        ⟨some 51, .pick (.t 46) (.t 50) (.c (.bool false)), some (41, false)⟩,
        ⟨some 52, .pick (.t 41) (.c (.bool true)) (.t 51), none⟩] [])
       (.cond (.t 52) (.seq (.ops 9 false [
          ⟨some 53, .build [(.bool false), (.bool false), (.int .u64 0), (.int .u64 0), (.int .u64 0), (.int .u64 0)] [], none⟩,
          ⟨none, .store 6 (.t 4) (.t 53), none⟩,
          ⟨some 5, .val (.c (.int .i64 75)), none⟩] [])
         (.ret))
        (.skip)))
      (.seq (.ops 10 true [
        ⟨some 54, .val (.t 7), none⟩,
        ⟨some 55, .indexS 1 (.t 54) (.c (.int .i64 0)), none⟩,
        ⟨some 56, .load (.t 55), none⟩,
        ⟨some 57, .bin .eql (.t 56) (.c (.int .u8 3)), none⟩,
        ⟨some 58, .loadN 4 (.t 9), none⟩,
        ⟨some 59, .build [(.bool false), (.bool false), (.int .u64 0), (.int .u64 0), (.int .u64 0), (.int .u64 0)] [(0, 1, (.c (.bool true))), (1, 1, (.t 57)), (2, 4, (.t 58))], none⟩,
        ⟨none, .store 6 (.t 4) (.t 59), none⟩,
        ⟨some 5, .val (.c (.int .i64 0)), none⟩] [([], []), ([0], [0]), ([1], [1]), ([2], [2]), ([], []), ([3, 4], [3, 4]), ([5, 0, 1, 2, 3, 4, 5], [5]), ([6, 0, 1, 2, 3, 4, 5, 6], [])])
       (.ret)))))))
def rs21 : List RR := [.cell 4 (some 6), .tmp 5]
theorem fun21 : FunR Tryd.prog 21 rc21 rs21 60 := ⟨Tryd.f21, Tryd.func21, by kernel_rfl, by kernel_rfl, by kernel_rfl⟩
/-- causeway/causewaylaw09.fresh -/
def rc32 : RC :=
 .seq (.ops 0 false [
  ⟨some 2, .val (.c (.pointer none)), none⟩] [])
 (.seq (.ops 1 false [
   ⟨some 8, .call 45 [], none⟩,
   ⟨some 3, .val (.t 8), none⟩] [])
  (.seq (.seq (.ops 2 false [
     ⟨some 9, .val (.t 3), none⟩,
     ⟨some 10, .eqp .ptr false (.t 9) (.c (.pointer none)), none⟩] [])
    (.cond (.t 10) (.seq (.ops 3 false [
       ⟨some 2, .val (.c (.pointer none)), none⟩] [])
      (.ret))
     (.skip)))
   (.seq (.seq (.ops 4 false [
      ⟨some 4, .val (.c (.int .i64 0)), none⟩] [])
     (.block 0 (.loop (.seq (.seq (.ops 5 false [
          ⟨some 11, .val (.t 4), none⟩,
          ⟨some 12, .val (.t 0), none⟩,
          ⟨some 13, .len (.t 12), none⟩,
          ⟨some 14, .bin .lss (.t 11) (.t 13), none⟩] [])
         (.cond (.t 14) (.skip)
          (.exit 0)))
        (.seq (.block 1 (.seq (.ops 7 true [
            ⟨some 17, .val (.t 3), none⟩,
            ⟨some 18, .val (.t 0), none⟩,
            ⟨some 19, .val (.t 4), none⟩,
            ⟨some 20, .indexS 2 (.t 18) (.t 19), none⟩,
            ⟨some 21, .fieldA 0 (.t 20), none⟩,
            ⟨some 22, .load (.t 21), none⟩,
            ⟨some 23, .val (.t 0), none⟩,
            ⟨some 24, .val (.t 4), none⟩,
            ⟨some 25, .indexS 2 (.t 23) (.t 24), none⟩,
            ⟨some 26, .fieldA 1 (.t 25), none⟩,
            ⟨some 27, .load (.t 26), none⟩,
            ⟨some 28, .call 46 [(.t 17), (.t 22), (.t 27)], none⟩,
            ⟨some 5, .val (.t 28), none⟩] [([], []), ([], []), ([], []), ([1, 2], [1, 2]), ([3], [3]), ([4], [4]), ([], []), ([], []), ([6, 7], [6, 7]), ([8], [8]), ([9], [9]), ([0, 5, 10], [0, 5, 10]), ([11, 11, 0, 1, 2, 3, 4, 5, 6, 7, 8, 9, 10, 11], [11])])
           (.seq (.ops 8 false [
             ⟨some 29, .val (.t 5), none⟩,
             ⟨some 30, .bin .neq (.t 29) (.c (.int .i64 0)), none⟩] [])
            (.cond (.t 30) (.seq (.ops 9 false [
               ⟨some 2, .val (.c (.pointer none)), none⟩] [])
              (.ret))
             (.skip)))))
         (.ops 6 false [
          ⟨some 15, .val (.t 4), none⟩,
          ⟨some 16, .bin .add (.t 15) (.c (.int .i64 1)), none⟩,
          ⟨some 4, .val (.t 16), none⟩] []))))))
    (.seq (.ops 10 false [
      ⟨some 32, .val (.t 3), none⟩,
      ⟨some 33, .iface 87 (.t 32), none⟩,
      ⟨some 34, .call 38 [(.t 33)], none⟩,
      ⟨some 31, .val (.t 34), none⟩,
      ⟨some 35, .extract 0 (.t 31), none⟩,
      ⟨some 36, .extract 1 (.t 31), none⟩,
      ⟨some 6, .val (.t 35), none⟩,
      ⟨some 7, .val (.t 36), none⟩] [])
     (.seq (.seq (.ops 11 false [
        ⟨some 37, .val (.t 7), none⟩,
        ⟨some 38, .bin .neq (.t 37) (.c (.int .i64 0)), none⟩] [])
       (.cond (.t 38) (.seq (.ops 12 false [
          ⟨some 2, .val (.c (.pointer none)), none⟩] [])
         (.ret))
        (.skip)))
      (.seq (.ops 13 false [
        ⟨some 39, .val (.t 6), none⟩,
        ⟨some 2, .val (.t 39), none⟩] [])
       (.ret)))))))
def rs32 : List RR := [.tmp 2]
theorem fun32 : FunR Tryd.prog 32 rc32 rs32 40 := ⟨Tryd.f32, Tryd.func32, by kernel_rfl, by kernel_rfl, by kernel_rfl⟩
/-- causeway/causewaylaw09.known -/
def rc33 : RC :=
 .seq (.ops 0 false [
  ⟨some 0, .val (.c (.bool false)), none⟩] [])
 (.seq (.ops 1 false [
   ⟨some 11, .call 32 [(.c (.slice none 0 0))], none⟩,
   ⟨some 1, .val (.t 11), none⟩] [])
  (.seq (.seq (.ops 2 false [
     ⟨some 12, .val (.t 1), none⟩,
     ⟨some 13, .eqp .ptr false (.t 12) (.c (.pointer none)), none⟩] [])
    (.cond (.t 13) (.seq (.ops 3 false [
       ⟨some 0, .val (.c (.bool false)), none⟩] [])
      (.ret))
     (.skip)))
   (.seq (.ops 4 false [
     ⟨some 14, .build [(.int .u64 0), (.int .u64 0), (.int .u64 0), (.int .u64 0)] [(0, 1, (.c (.int .u64 256)))], none⟩,
     ⟨some 15, .build [(.int .i64 0), (.int .i64 0), (.int .u8 0), (.int .u8 0), (.int .u8 0), (.int .u8 0), (.int .u8 0), (.int .u8 0), (.int .u8 0), (.int .u8 0), (.int .u8 0), (.int .u8 0), (.int .u8 0), (.int .u8 0), (.int .u8 0), (.int .u8 0), (.int .u8 0), (.int .u8 0), (.int .u8 0), (.int .u8 0), (.int .u8 0), (.int .u8 0), (.int .i64 0), (.int .u8 0), (.int .u8 0), (.int .u8 0), (.int .u8 0), (.int .u8 0), (.int .u8 0), (.int .u8 0), (.int .u8 0), (.int .u8 0), (.int .u8 0), (.int .u8 0), (.int .u8 0), (.int .u8 0), (.int .u8 0), (.int .u8 0), (.int .u8 0), (.int .u8 0), (.int .u8 0), (.int .u8 0), (.int .u8 0), (.int .u64 0), (.int .u64 0), (.int .u64 0), (.int .u64 0)] [(1, 1, (.c (.int .i64 7))), (22, 1, (.c (.int .i64 3))), (43, 4, (.t 14))], none⟩,
     ⟨some 2, .alloc 82 [(.int .i64 0), (.int .i64 0), (.int .u8 0), (.int .u8 0), (.int .u8 0), (.int .u8 0), (.int .u8 0), (.int .u8 0), (.int .u8 0), (.int .u8 0), (.int .u8 0), (.int .u8 0), (.int .u8 0), (.int .u8 0), (.int .u8 0), (.int .u8 0), (.int .u8 0), (.int .u8 0), (.int .u8 0), (.int .u8 0), (.int .u8 0), (.int .u8 0), (.int .i64 0), (.int .u8 0), (.int .u8 0), (.int .u8 0), (.int .u8 0), (.int .u8 0), (.int .u8 0), (.int .u8 0), (.int .u8 0), (.int .u8 0), (.int .u8 0), (.int .u8 0), (.int .u8 0), (.int .u8 0), (.int .u8 0), (.int .u8 0), (.int .u8 0), (.int .u8 0), (.int .u8 0), (.int .u8 0), (.int .u8 0), (.int .u64 0), (.int .u64 0), (.int .u64 0), (.int .u64 0)], none⟩,
     ⟨none, .store 47 (.t 2) (.t 15), none⟩] [])
    (.seq (.ops 5 false [
      ⟨some 17, .val (.t 1), none⟩,
      ⟨some 18, .loadN 47 (.t 2), none⟩,
      ⟨some 19, .call 69 [(.t 17), (.t 18)], none⟩,
      ⟨some 16, .val (.t 19), none⟩,
      ⟨some 20, .extract 0 (.t 16), none⟩,
      ⟨some 21, .extract 1 (.t 16), none⟩,
      ⟨some 3, .val (.t 20), none⟩,
      ⟨some 4, .val (.t 21), none⟩] [])
     (.seq (.ops 6 false [
       ⟨some 23, .val (.t 1), none⟩,
       ⟨some 24, .call 70 [(.t 23), (.c (.int .i64 1))], none⟩,
       ⟨some 22, .val (.t 24), none⟩,
       ⟨some 25, .extract 0 (.t 22), none⟩,
       ⟨some 26, .extract 1 (.t 22), none⟩,
       ⟨some 5, .alloc 82 [(.int .i64 0), (.int .i64 0), (.int .u8 0), (.int .u8 0), (.int .u8 0), (.int .u8 0), (.int .u8 0), (.int .u8 0), (.int .u8 0), (.int .u8 0), (.int .u8 0), (.int .u8 0), (.int .u8 0), (.int .u8 0), (.int .u8 0), (.int .u8 0), (.int .u8 0), (.int .u8 0), (.int .u8 0), (.int .u8 0), (.int .u8 0), (.int .u8 0), (.int .i64 0), (.int .u8 0), (.int .u8 0), (.int .u8 0), (.int .u8 0), (.int .u8 0), (.int .u8 0), (.int .u8 0), (.int .u8 0), (.int .u8 0), (.int .u8 0), (.int .u8 0), (.int .u8 0), (.int .u8 0), (.int .u8 0), (.int .u8 0), (.int .u8 0), (.int .u8 0), (.int .u8 0), (.int .u8 0), (.int .u8 0), (.int .u64 0), (.int .u64 0), (.int .u64 0), (.int .u64 0)], none⟩,
       ⟨none, .store 47 (.t 5) (.t 25), none⟩,
       ⟨some 6, .val (.t 26), none⟩] [])
      (.seq (.ops 7 false [
        ⟨some 28, .val (.t 1), none⟩,
        ⟨some 29, .build (List.replicate 20 (.int .u8 0)) [], none⟩,
        ⟨some 30, .call 71 [(.t 28), (.c (.int .i64 1)), (.t 29)], none⟩,
        ⟨some 27, .val (.t 30), none⟩,
        ⟨some 31, .extract 0 (.t 27), none⟩,
        ⟨some 32, .extract 1 (.t 27), none⟩,
        ⟨some 7, .alloc 82 [(.int .i64 0), (.int .i64 0), (.int .u8 0), (.int .u8 0), (.int .u8 0), (.int .u8 0), (.int .u8 0), (.int .u8 0), (.int .u8 0), (.int .u8 0), (.int .u8 0), (.int .u8 0), (.int .u8 0), (.int .u8 0), (.int .u8 0), (.int .u8 0), (.int .u8 0), (.int .u8 0), (.int .u8 0), (.int .u8 0), (.int .u8 0), (.int .u8 0), (.int .i64 0), (.int .u8 0), (.int .u8 0), (.int .u8 0), (.int .u8 0), (.int .u8 0), (.int .u8 0), (.int .u8 0), (.int .u8 0), (.int .u8 0), (.int .u8 0), (.int .u8 0), (.int .u8 0), (.int .u8 0), (.int .u8 0), (.int .u8 0), (.int .u8 0), (.int .u8 0), (.int .u8 0), (.int .u8 0), (.int .u8 0), (.int .u64 0), (.int .u64 0), (.int .u64 0), (.int .u64 0)], none⟩,
        ⟨none, .store 47 (.t 7) (.t 31), none⟩,
        ⟨some 8, .val (.t 32), none⟩] [])
       (.seq (.ops 8 false [
         ⟨some 34, .val (.t 1), none⟩,
         ⟨some 35, .call 70 [(.t 34), (.c (.int .i64 1))], none⟩,
         ⟨some 33, .val (.t 35), none⟩,
         ⟨some 36, .extract 0 (.t 33), none⟩,
         ⟨some 37, .extract 1 (.t 33), none⟩,
         ⟨some 9, .alloc 82 [(.int .i64 0), (.int .i64 0), (.int .u8 0), (.int .u8 0), (.int .u8 0), (.int .u8 0), (.int .u8 0), (.int .u8 0), (.int .u8 0), (.int .u8 0), (.int .u8 0), (.int .u8 0), (.int .u8 0), (.int .u8 0), (.int .u8 0), (.int .u8 0), (.int .u8 0), (.int .u8 0), (.int .u8 0), (.int .u8 0), (.int .u8 0), (.int .u8 0), (.int .i64 0), (.int .u8 0), (.int .u8 0), (.int .u8 0), (.int .u8 0), (.int .u8 0), (.int .u8 0), (.int .u8 0), (.int .u8 0), (.int .u8 0), (.int .u8 0), (.int .u8 0), (.int .u8 0), (.int .u8 0), (.int .u8 0), (.int .u8 0), (.int .u8 0), (.int .u8 0), (.int .u8 0), (.int .u8 0), (.int .u8 0), (.int .u64 0), (.int .u64 0), (.int .u64 0), (.int .u64 0)], none⟩,
         ⟨none, .store 47 (.t 9) (.t 36), none⟩,
         ⟨some 10, .val (.t 37), none⟩] [])
        (.seq (.ops 9 false [
          ⟨some 38, .fieldA 0 (.t 2), none⟩,
          ⟨none, .store 1 (.t 38) (.c (.int .i64 1)), none⟩] [])
         (.seq (.ops 10 false [
           ⟨some 39, .val (.t 3), none⟩,
           ⟨some 40, .bin .eql (.t 39) (.c (.int .i64 1)), none⟩,
           ⟨some 41, .val (.t 40), none⟩,
           ⟨some 42, .val (.t 4), some (41, true)⟩,
           ⟨some 43, .bin .eql (.t 42) (.c (.int .i64 0)), some (41, true)⟩,
           ⟨some 44, .pick (.t 41) (.t 43) (.c (.bool false)), none⟩,
           ⟨some 45, .val (.t 44), none⟩,
           ⟨some 46, .val (.t 6), some (45, true)⟩,
           ⟨some 47, .bin .eql (.t 46) (.c (.int .i64 0)), some (45, true)⟩,
           ⟨some 48, .pick (.t 45) (.t 47) (.c (.bool false)), none⟩,
           ⟨some 49, .val (.t 48), none⟩,
           ⟨some 50, .loadN 47 (.t 5), some (49, true)⟩,
           ⟨some 51, .loadN 47 (.t 2), some (49, true)⟩,
           ⟨some 52, .eqn false 82 (.t 50) (.t 51), some (49, true)⟩,
           ⟨some 53, .pick (.t 49) (.t 52) (.c (.bool false)), none⟩,
           ⟨some 54, .val (.t 53), none⟩,
           ⟨some 55, .val (.t 8), some (54, true)⟩,
           ⟨some 56, .bin .eql (.t 55) (.c (.int .i64 0)), some (54, true)⟩,
           ⟨some 57, .pick (.t 54) (.t 56) (.c (.bool false)), none⟩,
           ⟨some 58, .val (.t 57), none⟩,
           ⟨some 59, .loadN 47 (.t 7), some (58, true)⟩,
           ⟨some 60, .loadN 47 (.t 2), some (58, true)⟩,
           ⟨some 61, .eqn false 82 (.t 59) (.t 60), some (58, true)⟩,
           ⟨some 62, .pick (.t 58) (.t 61) (.c (.bool false)), none⟩,
           ⟨some 63, .val (.t 62), none⟩,
           ⟨some 64, .val (.t 10), some (63, true)⟩,
           ⟨some 65, .bin .eql (.t 64) (.c (.int .i64 90)), some (63, true)⟩,
           ⟨some 66, .pick (.t 63) (.t 65) (.c (.bool false)), none⟩,
           ⟨some 0, .val (.t 66), none⟩] [])
          (.ret))))))))))
def rs33 : List RR := [.tmp 0]
theorem fun33 : FunR Tryd.prog 33 rc33 rs33 67 := ⟨Tryd.f33, Tryd.func33, by kernel_rfl, by kernel_rfl, by kernel_rfl⟩
/-- (*causeway/causewaylaw09.holder).does -/
def rc34 : RC :=
 .seq (.ops 0 false [
  ⟨some 3, .box 84 (.t 1), none⟩,
  ⟨some 4, .val (.c (.bool false)), none⟩] [])
 (.seq (.ops 1 false [
   ⟨some 8, .fieldA 2 (.t 3), none⟩,
   ⟨some 9, .loadN 47 (.t 8), none⟩,
   ⟨some 10, .call 72 [(.t 9)], none⟩,
   ⟨some 5, .alloc 82 [(.int .i64 0), (.int .i64 0), (.int .u8 0), (.int .u8 0), (.int .u8 0), (.int .u8 0), (.int .u8 0), (.int .u8 0), (.int .u8 0), (.int .u8 0), (.int .u8 0), (.int .u8 0), (.int .u8 0), (.int .u8 0), (.int .u8 0), (.int .u8 0), (.int .u8 0), (.int .u8 0), (.int .u8 0), (.int .u8 0), (.int .u8 0), (.int .u8 0), (.int .i64 0), (.int .u8 0), (.int .u8 0), (.int .u8 0), (.int .u8 0), (.int .u8 0), (.int .u8 0), (.int .u8 0), (.int .u8 0), (.int .u8 0), (.int .u8 0), (.int .u8 0), (.int .u8 0), (.int .u8 0), (.int .u8 0), (.int .u8 0), (.int .u8 0), (.int .u8 0), (.int .u8 0), (.int .u8 0), (.int .u8 0), (.int .u64 0), (.int .u64 0), (.int .u64 0), (.int .u64 0)], none⟩,
   ⟨none, .store 47 (.t 5) (.t 10), none⟩] [])
  (.seq (.ops 2 false [
    ⟨some 11, .val (.t 0), none⟩,
    ⟨some 12, .fieldA 1 (.t 3), none⟩,
    ⟨some 13, .load (.t 12), none⟩,
    ⟨some 14, .call 73 [(.t 11), (.t 13)], none⟩,
    ⟨some 6, .val (.t 14), none⟩] [])
   (.seq (.seq (.ops 3 false [
      ⟨some 15, .fieldA 0 (.t 3), none⟩,
      ⟨some 16, .load (.t 15), none⟩,
      ⟨some 17, .call 74 [(.t 16), (.c (.int .i64 11))], none⟩] [])
     (.block 0 (.seq (.seq (.ops 4 false [
         ⟨some 19, .bin .eql (.t 17) (.c (.int .i64 0)), none⟩,
         ⟨some 18, .val (.t 19), none⟩] [])
        (.cond (.t 18) (.skip)
         (.seq (.ops 5 false [
           ⟨some 20, .bin .eql (.t 17) (.c (.int .i64 1)), none⟩,
           ⟨some 18, .val (.t 20), none⟩] [])
          (.cond (.t 18) (.skip)
           (.ops 6 false [
            ⟨some 21, .bin .eql (.t 17) (.c (.int .i64 2)), none⟩,
            ⟨some 18, .val (.t 21), none⟩] [])))))
       (.cond (.t 18) (.seq (.ops 7 false [
          ⟨some 22, .val (.t 0), none⟩,
          ⟨some 23, .loadN 47 (.t 5), none⟩,
          ⟨some 24, .call 75 [(.t 22), (.t 23)], none⟩,
          ⟨some 4, .val (.t 24), none⟩] [])
         (.ret))
        (.seq (.seq (.ops 8 false [
           ⟨some 26, .bin .eql (.t 17) (.c (.int .i64 3)), none⟩,
           ⟨some 25, .val (.t 26), none⟩] [])
          (.cond (.t 25) (.skip)
           (.ops 9 false [
            ⟨some 27, .bin .eql (.t 17) (.c (.int .i64 4)), none⟩,
            ⟨some 25, .val (.t 27), none⟩] [])))
         (.cond (.t 25) (.seq (.ops 10 false [
            ⟨some 28, .val (.t 0), none⟩,
            ⟨some 29, .val (.t 6), none⟩,
            ⟨some 30, .call 76 [(.t 28), (.t 29)], none⟩,
            ⟨some 4, .val (.t 30), none⟩] [])
           (.ret))
          (.seq (.ops 11 false [
            ⟨some 32, .bin .eql (.t 17) (.c (.int .i64 5)), none⟩,
            ⟨some 31, .val (.t 32), none⟩] [])
           (.cond (.t 31) (.seq (.ops 12 false [
              ⟨some 33, .fieldA 2 (.t 5), none⟩,
              ⟨some 34, .loadN 20 (.t 33), none⟩,
              ⟨some 7, .alloc 33 (List.replicate 20 (.int .u8 0)), none⟩,
              ⟨none, .store 20 (.t 7) (.t 34), none⟩] [])
             (.seq (.seq (.ops 13 false [
                ⟨some 35, .val (.t 0), none⟩,
                ⟨some 36, .val (.t 6), none⟩,
                ⟨some 37, .call 77 [(.t 35), (.t 36)], none⟩,
                ⟨some 38, .val (.t 37), none⟩,
                ⟨some 39, .fieldA 1 (.t 3), some (38, true)⟩,
                ⟨some 40, .load (.t 39), some (38, true)⟩,
                ⟨some 41, .call 74 [(.t 40), (.c (.int .i64 2))], some (38, true)⟩,
                ⟨some 42, .bin .eql (.t 41) (.c (.int .i64 0)), some (38, true)⟩,
                ⟨some 43, .pick (.t 38) (.t 42) (.c (.bool false)), none⟩] [])
               (.cond (.t 43) (.ops 14 false [
                 ⟨some 44, .val (.t 0), none⟩,
                 ⟨some 45, .nilCheck (.t 44), none⟩,
                 ⟨some 46, .fieldA 1 (.t 45), none⟩,
                 ⟨some 47, .load (.t 46), none⟩,
                 ⟨some 48, .val (.t 6), none⟩,
                 ⟨some 49, .bin .sub (.t 48) (.c (.int .i64 1)), none⟩,
                 ⟨some 50, .indexS 47 (.t 47) (.t 49), none⟩,
                 ⟨some 51, .fieldA 2 (.t 50), none⟩,
                 ⟨some 52, .loadN 20 (.t 51), none⟩,
                 ⟨none, .store 20 (.t 7) (.t 52), none⟩] [])
                (.skip)))
              (.seq (.ops 15 false [
                ⟨some 53, .val (.t 0), none⟩,
                ⟨some 54, .val (.t 6), none⟩,
                ⟨some 55, .loadN 20 (.t 7), none⟩,
                ⟨some 56, .call 78 [(.t 53), (.t 54), (.t 55)], none⟩,
                ⟨some 4, .val (.t 56), none⟩] [])
               (.ret))))
            (.seq (.ops 16 false [
              ⟨some 58, .bin .eql (.t 17) (.c (.int .i64 6)), none⟩,
              ⟨some 57, .val (.t 58), none⟩] [])
             (.cond (.t 57) (.ops 17 true [
               ⟨some 59, .val (.t 0), none⟩,
               ⟨some 60, .nilCheck (.t 59), none⟩,
               ⟨some 61, .fieldA 0 (.t 60), none⟩,
               ⟨some 62, .load (.t 61), none⟩,
               ⟨some 63, .fieldA 22 (.t 5), none⟩,
               ⟨some 64, .load (.t 63), none⟩,
               ⟨some 65, .call 12 [(.t 62), (.t 64)], none⟩] [([], []), ([0], [0]), ([1], [1]), ([2], [2]), ([], []), ([4], [4]), ([3, 5], [3, 5])])
              (.seq (.ops 18 false [
                ⟨some 67, .bin .eql (.t 17) (.c (.int .i64 7)), none⟩,
                ⟨some 66, .val (.t 67), none⟩] [])
               (.cond (.t 66) (.ops 19 true [
                 ⟨some 68, .val (.t 0), none⟩,
                 ⟨some 69, .nilCheck (.t 68), none⟩,
                 ⟨some 70, .fieldA 0 (.t 69), none⟩,
                 ⟨some 71, .load (.t 70), none⟩,
                 ⟨some 72, .fieldA 22 (.t 5), none⟩,
                 ⟨some 73, .load (.t 72), none⟩,
                 ⟨some 74, .call 64 [(.t 71), (.t 73)], none⟩] [([], []), ([0], [0]), ([1], [1]), ([2], [2]), ([], []), ([4], [4]), ([3, 5], [3, 5])])
                (.seq (.ops 20 false [
                  ⟨some 76, .bin .eql (.t 17) (.c (.int .i64 8)), none⟩,
                  ⟨some 75, .val (.t 76), none⟩] [])
                 (.cond (.t 75) (.ops 21 true [
                   ⟨some 77, .val (.t 0), none⟩,
                   ⟨some 78, .nilCheck (.t 77), none⟩,
                   ⟨some 79, .fieldA 0 (.t 78), none⟩,
                   ⟨some 80, .load (.t 79), none⟩,
                   ⟨some 81, .fieldA 22 (.t 5), none⟩,
                   ⟨some 82, .load (.t 81), none⟩,
                   ⟨some 83, .call 65 [(.t 80), (.t 82)], none⟩] [([], []), ([0], [0]), ([1], [1]), ([2], [2]), ([], []), ([4], [4]), ([3, 5], [3, 5])])
                  (.seq (.ops 22 false [
                    ⟨some 85, .bin .eql (.t 17) (.c (.int .i64 9)), none⟩,
                    ⟨some 84, .val (.t 85), none⟩] [])
                   (.cond (.t 84) (.ops 23 false [
                     ⟨some 86, .val (.t 0), none⟩,
                     ⟨some 87, .loadN 47 (.t 5), none⟩,
                     ⟨some 88, .call 79 [(.t 86), (.t 87)], none⟩] [])
                    (.seq (.ops 24 false [
                      ⟨some 90, .bin .eql (.t 17) (.c (.int .i64 10)), none⟩,
                      ⟨some 89, .val (.t 90), none⟩] [])
                     (.cond (.t 89) (.ops 25 false [
                       ⟨some 91, .val (.t 0), none⟩,
                       ⟨some 92, .loadN 47 (.t 5), none⟩,
                       ⟨some 93, .call 80 [(.t 91), (.t 92)], none⟩] [])
                      (.skip)))))))))))))))))))
    (.seq (.ops 26 false [
      ⟨some 4, .val (.c (.bool true)), none⟩] [])
     (.ret)))))
def rs34 : List RR := [.tmp 4]
theorem fun34 : FunR Tryd.prog 34 rc34 rs34 94 := ⟨Tryd.f34, Tryd.func34, by kernel_rfl, by kernel_rfl, by kernel_rfl⟩
/-- (*causeway/causewaylaw09.holder).stands -/
def rc35 : RC :=
 .seq (.ops 0 false [
  ⟨some 2, .val (.c (.bool false)), none⟩] [])
 (.seq (.ops 1 false [
   ⟨some 3, .alloc 77 (List.replicate 15 (.int .u64 0)), none⟩] [])
  (.seq (.seq (.ops 2 false [
     ⟨some 4, .val (.c (.int .i64 0)), none⟩] [])
    (.block 0 (.loop (.seq (.seq (.ops 3 false [
         ⟨some 12, .val (.t 4), none⟩,
         ⟨some 13, .bin .lss (.t 12) (.c (.int .i64 3)), none⟩] [])
        (.cond (.t 13) (.skip)
         (.exit 0)))
       (.seq (.block 1 (.seq (.ops 5 false [
           ⟨some 17, .val (.t 0), none⟩,
           ⟨some 18, .nilCheck (.t 17), none⟩,
           ⟨some 19, .fieldA 0 (.t 18), none⟩,
           ⟨some 20, .load (.t 19), none⟩,
           ⟨some 21, .val (.t 4), none⟩,
           ⟨some 22, .call 21 [(.t 20), (.t 21)], none⟩,
           ⟨some 16, .val (.t 22), none⟩,
           ⟨some 23, .extract 0 (.t 16), none⟩,
           ⟨some 24, .extract 1 (.t 16), none⟩,
           ⟨some 5, .alloc 44 [(.bool false), (.bool false), (.int .u64 0), (.int .u64 0), (.int .u64 0), (.int .u64 0)], none⟩,
           ⟨none, .store 6 (.t 5) (.t 23), none⟩,
           ⟨some 6, .val (.t 24), none⟩] [])
          (.seq (.seq (.ops 6 false [
             ⟨some 25, .val (.t 6), none⟩,
             ⟨some 26, .bin .neq (.t 25) (.c (.int .i64 0)), none⟩] [])
            (.cond (.t 26) (.seq (.ops 7 false [
               ⟨some 2, .val (.c (.bool false)), none⟩] [])
              (.ret))
             (.skip)))
           (.ops 8 true [
            ⟨some 27, .val (.t 4), none⟩,
            ⟨some 28, .val (.t 4), none⟩,
            ⟨some 29, .indexA 3 5 (.t 3) (.t 28), none⟩,
            ⟨some 30, .loadN 5 (.t 29), none⟩,
            ⟨some 31, .fieldA 2 (.t 5), none⟩,
            ⟨some 32, .loadN 4 (.t 31), none⟩,
            ⟨some 33, .call 81 [(.t 30), (.t 32), (.c (.bool false))], none⟩,
            ⟨some 34, .indexA 3 5 (.t 3) (.t 27), none⟩,
            ⟨none, .store 5 (.t 34) (.t 33), none⟩] [([], []), ([], []), ([1], [1]), ([2], [2]), ([], []), ([4], [4]), ([3, 5], [3, 5]), ([0, 0, 1, 2, 3, 4, 5, 6], [0]), ([7, 6, 6, 0, 1, 2, 3, 4, 5, 6], [6, 7])]))))
        (.ops 4 false [
         ⟨some 14, .val (.t 4), none⟩,
         ⟨some 15, .bin .add (.t 14) (.c (.int .i64 1)), none⟩,
         ⟨some 4, .val (.t 15), none⟩] []))))))
   (.seq (.seq (.ops 9 false [
      ⟨some 7, .val (.c (.int .i64 0)), none⟩] [])
     (.block 2 (.loop (.seq (.seq (.ops 10 false [
          ⟨some 35, .val (.t 7), none⟩,
          ⟨some 36, .val (.t 0), none⟩,
          ⟨some 37, .nilCheck (.t 36), none⟩,
          ⟨some 38, .fieldA 1 (.t 37), none⟩,
          ⟨some 39, .load (.t 38), none⟩,
          ⟨some 40, .len (.t 39), none⟩,
          ⟨some 41, .bin .add (.t 40) (.c (.int .i64 1)), none⟩,
          ⟨some 42, .bin .leq (.t 35) (.t 41), none⟩] [])
         (.cond (.t 42) (.skip)
          (.exit 2)))
        (.seq (.block 3 (.seq (.ops 12 false [
            ⟨some 46, .val (.t 0), none⟩,
            ⟨some 47, .nilCheck (.t 46), none⟩,
            ⟨some 48, .fieldA 0 (.t 47), none⟩,
            ⟨some 49, .load (.t 48), none⟩,
            ⟨some 50, .val (.t 7), none⟩,
            ⟨some 51, .call 70 [(.t 49), (.t 50)], none⟩,
            ⟨some 45, .val (.t 51), none⟩,
            ⟨some 52, .extract 0 (.t 45), none⟩,
            ⟨some 53, .extract 1 (.t 45), none⟩,
            ⟨some 8, .alloc 82 [(.int .i64 0), (.int .i64 0), (.int .u8 0), (.int .u8 0), (.int .u8 0), (.int .u8 0), (.int .u8 0), (.int .u8 0), (.int .u8 0), (.int .u8 0), (.int .u8 0), (.int .u8 0), (.int .u8 0), (.int .u8 0), (.int .u8 0), (.int .u8 0), (.int .u8 0), (.int .u8 0), (.int .u8 0), (.int .u8 0), (.int .u8 0), (.int .u8 0), (.int .i64 0), (.int .u8 0), (.int .u8 0), (.int .u8 0), (.int .u8 0), (.int .u8 0), (.int .u8 0), (.int .u8 0), (.int .u8 0), (.int .u8 0), (.int .u8 0), (.int .u8 0), (.int .u8 0), (.int .u8 0), (.int .u8 0), (.int .u8 0), (.int .u8 0), (.int .u8 0), (.int .u8 0), (.int .u8 0), (.int .u8 0), (.int .u64 0), (.int .u64 0), (.int .u64 0), (.int .u64 0)], none⟩,
            ⟨none, .store 47 (.t 8) (.t 52), none⟩,
            ⟨some 9, .val (.t 53), none⟩] [])
           (.seq (.seq (.ops 13 false [
              ⟨some 54, .val (.t 0), none⟩,
              ⟨some 55, .val (.t 7), none⟩,
              ⟨some 56, .call 77 [(.t 54), (.t 55)], none⟩,
              ⟨some 57, .not (.t 56), none⟩] [])
             (.cond (.t 57) (.seq (.seq (.ops 14 false [
                 ⟨some 58, .val (.t 9), none⟩,
                 ⟨some 59, .bin .neq (.t 58) (.c (.int .i64 90)), none⟩,
                 ⟨some 60, .val (.t 59), none⟩,
                 ⟨some 61, .loadN 47 (.t 8), some (60, false)⟩,
                 ⟨some 62, .build [(.int .i64 0), (.int .i64 0), (.int .u8 0), (.int .u8 0), (.int .u8 0), (.int .u8 0), (.int .u8 0), (.int .u8 0), (.int .u8 0), (.int .u8 0), (.int .u8 0), (.int .u8 0), (.int .u8 0), (.int .u8 0), (.int .u8 0), (.int .u8 0), (.int .u8 0), (.int .u8 0), (.int .u8 0), (.int .u8 0), (.int .u8 0), (.int .u8 0), (.int .i64 0), (.int .u8 0), (.int .u8 0), (.int .u8 0), (.int .u8 0), (.int .u8 0), (.int .u8 0), (.int .u8 0), (.int .u8 0), (.int .u8 0), (.int .u8 0), (.int .u8 0), (.int .u8 0), (.int .u8 0), (.int .u8 0), (.int .u8 0), (.int .u8 0), (.int .u8 0), (.int .u8 0), (.int .u8 0), (.int .u8 0), (.int .u64 0), (.int .u64 0), (.int .u64 0), (.int .u64 0)] [], some (60, false)⟩,
                 ⟨some 63, .eqn true 82 (.t 61) (.t 62), some (60, false)⟩,
                 ⟨some 64, .pick (.t 60) (.c (.bool true)) (.t 63), none⟩] [])
                (.cond (.t 64) (.seq (.ops 15 false [
                   ⟨some 2, .val (.c (.bool false)), none⟩] [])
                  (.ret))
                 (.skip)))
               (.exit 3))
              (.skip)))
            (.seq (.seq (.ops 16 true [
               ⟨some 65, .val (.t 9), none⟩,
               ⟨some 66, .bin .neq (.t 65) (.c (.int .i64 0)), none⟩,
               ⟨some 67, .val (.t 66), none⟩,
               ⟨some 68, .loadN 47 (.t 8), some (67, false)⟩,
               ⟨some 69, .val (.t 0), some (67, false)⟩,
               ⟨some 70, .nilCheck (.t 69), some (67, false)⟩,
               ⟨some 71, .fieldA 1 (.t 70), some (67, false)⟩,
               ⟨some 72, .load (.t 71), some (67, false)⟩,
               ⟨some 73, .val (.t 7), some (67, false)⟩,
               ⟨some 74, .bin .sub (.t 73) (.c (.int .i64 1)), some (67, false)⟩,
               ⟨some 75, .indexS 47 (.t 72) (.t 74), some (67, false)⟩,
               ⟨some 76, .loadN 47 (.t 75), some (67, false)⟩,
               ⟨some 77, .eqn true 82 (.t 68) (.t 76), some (67, false)⟩,
               ⟨some 78, .pick (.t 67) (.c (.bool true)) (.t 77), none⟩] [([], []), ([0], [0]), ([1], [1]), ([2], [2]), ([2], [2]), ([4, 2], [2, 4]), ([5, 2], [2, 5]), ([6, 2], [2, 6]), ([2], [2]), ([8, 2], [2, 8]), ([7, 9, 2], [2, 7, 9]), ([10, 2], [2, 10]), ([3, 11, 2], [2, 3, 11]), ([2, 12], [2, 12])])
              (.cond (.t 78) (.seq (.ops 17 false [
                 ⟨some 2, .val (.c (.bool false)), none⟩] [])
                (.ret))
               (.skip)))
             (.ops 18 true [
              ⟨some 79, .fieldA 22 (.t 8), none⟩,
              ⟨some 80, .load (.t 79), none⟩,
              ⟨some 81, .fieldA 22 (.t 8), none⟩,
              ⟨some 82, .load (.t 81), none⟩,
              ⟨some 83, .indexA 3 5 (.t 3) (.t 82), none⟩,
              ⟨some 84, .loadN 5 (.t 83), none⟩,
              ⟨some 85, .fieldA 43 (.t 8), none⟩,
              ⟨some 86, .loadN 4 (.t 85), none⟩,
              ⟨some 87, .call 81 [(.t 84), (.t 86), (.c (.bool false))], none⟩,
              ⟨some 88, .indexA 3 5 (.t 3) (.t 80), none⟩,
              ⟨none, .store 5 (.t 88) (.t 87), none⟩] [([], []), ([0], [0]), ([], []), ([2], [2]), ([3], [3]), ([4], [4]), ([], []), ([6], [6]), ([5, 7], [5, 7]), ([1, 0, 1, 2, 3, 4, 5, 6, 7, 8], [1]), ([9, 8, 8, 0, 1, 2, 3, 4, 5, 6, 7, 8], [8, 9])])))))
         (.ops 11 false [
          ⟨some 43, .val (.t 7), none⟩,
          ⟨some 44, .bin .add (.t 43) (.c (.int .i64 1)), none⟩,
          ⟨some 7, .val (.t 44), none⟩] []))))))
    (.seq (.ops 19 false [
      ⟨some 90, .val (.t 0), none⟩,
      ⟨some 91, .nilCheck (.t 90), none⟩,
      ⟨some 92, .fieldA 0 (.t 91), none⟩,
      ⟨some 93, .load (.t 92), none⟩,
      ⟨some 94, .call 82 [(.t 93)], none⟩,
      ⟨some 89, .val (.t 94), none⟩,
      ⟨some 95, .extract 0 (.t 89), none⟩,
      ⟨some 96, .extract 1 (.t 89), none⟩,
      ⟨some 10, .val (.t 95), none⟩,
      ⟨some 11, .val (.t 96), none⟩] [])
     (.seq (.ops 20 true [
       ⟨some 97, .val (.t 11), none⟩,
       ⟨some 98, .bin .eql (.t 97) (.c (.int .i64 0)), none⟩,
       ⟨some 99, .val (.t 98), none⟩,
       ⟨some 100, .val (.t 10), some (99, true)⟩,
       ⟨some 101, .val (.t 0), some (99, true)⟩,
       ⟨some 102, .nilCheck (.t 101), some (99, true)⟩,
       ⟨some 103, .fieldA 1 (.t 102), some (99, true)⟩,
       ⟨some 104, .load (.t 103), some (99, true)⟩,
       ⟨some 105, .len (.t 104), some (99, true)⟩,
       ⟨some 106, .bin .eql (.t 100) (.t 105), some (99, true)⟩,
       ⟨some 107, .pick (.t 99) (.t 106) (.c (.bool false)), none⟩,
       ⟨some 108, .val (.t 107), none⟩,
       ⟨some 109, .loadN 15 (.t 3), some (108, true)⟩,
       ⟨some 110, .val (.t 0), some (108, true)⟩,
       ⟨some 111, .nilCheck (.t 110), some (108, true)⟩,
       ⟨some 112, .fieldA 3 (.t 111), some (108, true)⟩,
       ⟨some 113, .loadN 15 (.t 112), some (108, true)⟩,
       ⟨some 114, .eqn false 77 (.t 109) (.t 113), some (108, true)⟩,
       ⟨some 115, .pick (.t 108) (.t 114) (.c (.bool false)), none⟩,
       ⟨some 2, .val (.t 115), none⟩] [([], []), ([0], [0]), ([1], [1]), ([2], [2]), ([2], [2]), ([4, 2], [2, 4]), ([5, 2], [2, 5]), ([6, 2], [2, 6]), ([7, 2], [2, 7]), ([3, 8, 2], [2, 3, 8]), ([2, 9], [2, 9]), ([10, 2], [10]), ([11], [11]), ([11], [11]), ([13, 11], [11, 13]), ([14, 11], [11, 14]), ([15, 11], [11, 15]), ([12, 16, 11], [11, 12, 16]), ([11, 17], [11, 17]), ([18, 11, 0, 1, 2, 3, 4, 5, 6, 7, 8, 9, 10, 11, 12, 13, 14, 15, 16, 17, 18], [18])])
      (.ret))))))
def rs35 : List RR := [.tmp 2]
theorem fun35 : FunR Tryd.prog 35 rc35 rs35 116 := ⟨Tryd.f35, Tryd.func35, by kernel_rfl, by kernel_rfl, by kernel_rfl⟩
/-- causeway/store.Over -/
def rc38 : RC :=
 .seq (.ops 0 false [
  ⟨some 2, .val (.c (.pointer none)), none⟩,
  ⟨some 3, .val (.c (.int .i64 0)), none⟩] [])
 (.seq (.seq (.ops 1 false [
    ⟨some 4, .val (.t 0), none⟩,
    ⟨some 5, .eqp .ifc false (.t 4) (.c .nilIface), none⟩] [])
   (.cond (.t 5) (.seq (.ops 2 false [
      ⟨some 2, .val (.c (.pointer none)), none⟩,
      ⟨some 3, .val (.c (.int .i64 1)), none⟩] [])
     (.ret))
    (.skip)))
  (.seq (.ops 3 false [
    ⟨some 6, .val (.t 0), none⟩,
    ⟨some 7, .mkMap 124, none⟩,
    ⟨some 8, .mkMap 124, none⟩,
    ⟨some 9, .build [.nilIface, (.map none), (.map none), (.slice none 0 0), (.slice none 0 0)] [(0, 1, (.t 6)), (1, 1, (.t 7)), (2, 1, (.t 8))], none⟩,
    ⟨some 10, .box 127 (.t 9), none⟩,
    ⟨some 2, .val (.t 10), none⟩,
    ⟨some 3, .val (.c (.int .i64 0)), none⟩] [])
   (.ret)))
def rs38 : List RR := [.tmp 2, .tmp 3]
theorem fun38 : FunR Tryd.prog 38 rc38 rs38 11 := ⟨Tryd.f38, Tryd.func38, by kernel_rfl, by kernel_rfl, by kernel_rfl⟩
/-- (*causeway/store.State).Put -/
def rc39 : RC :=
 .seq (.ops 0 false [
  ⟨some 6, .val (.c (.int .i64 0)), none⟩] [])
 (.seq (.seq (.ops 1 false [
    ⟨some 11, .val (.t 1), none⟩,
    ⟨some 12, .val (.t 2), none⟩,
    ⟨some 13, .call 85 [(.t 11), (.t 12)], none⟩,
    ⟨some 7, .val (.t 13), none⟩] [])
   (.seq (.ops 2 false [
     ⟨some 14, .val (.t 7), none⟩,
     ⟨some 15, .bin .neq (.t 14) (.c (.int .i64 0)), none⟩] [])
    (.cond (.t 15) (.seq (.ops 3 false [
       ⟨some 16, .val (.t 7), none⟩,
       ⟨some 6, .val (.t 16), none⟩] [])
      (.ret))
     (.skip))))
  (.seq (.seq (.ops 4 false [
     ⟨some 17, .val (.t 0), none⟩,
     ⟨some 18, .val (.t 1), none⟩,
     ⟨some 19, .call 86 [(.t 17), (.t 18)], none⟩,
     ⟨some 8, .val (.t 19), none⟩] [])
    (.seq (.ops 5 false [
      ⟨some 20, .val (.t 8), none⟩,
      ⟨some 21, .bin .neq (.t 20) (.c (.int .i64 0)), none⟩] [])
     (.cond (.t 21) (.seq (.ops 6 false [
        ⟨some 22, .val (.t 8), none⟩,
        ⟨some 6, .val (.t 22), none⟩] [])
       (.ret))
      (.skip))))
   (.seq (.ops 7 false [
     ⟨some 24, .val (.t 0), none⟩,
     ⟨some 25, .nilCheck (.t 24), none⟩,
     ⟨some 26, .fieldA 2 (.t 25), none⟩,
     ⟨some 27, .load (.t 26), none⟩,
     ⟨some 28, .val (.t 1), none⟩,
     ⟨some 29, .look 124 (.t 27) (.t 28) true, none⟩,
     ⟨some 23, .val (.t 29), none⟩,
     ⟨some 30, .extract 0 (.t 23), none⟩,
     ⟨some 31, .extract 1 (.t 23), none⟩,
     ⟨some 9, .val (.t 30), none⟩,
     ⟨some 10, .val (.t 31), none⟩] [])
    (.seq (.ops 8 false [
      ⟨some 32, .val (.t 0), none⟩,
      ⟨some 33, .val (.t 0), none⟩,
      ⟨some 34, .nilCheck (.t 33), none⟩,
      ⟨some 35, .fieldA 3 (.t 34), none⟩,
      ⟨some 36, .load (.t 35), none⟩,
      ⟨some 37, .val (.t 1), none⟩,
      ⟨some 38, .val (.t 9), none⟩,
      ⟨some 39, .val (.t 10), none⟩,
      ⟨some 40, .build [(.string ⟨#[]⟩), (.slice none 0 0), (.bool false)] [(0, 1, (.t 37)), (1, 1, (.t 38)), (2, 1, (.t 39))], none⟩,
      ⟨some 41, .buildS 129 1 [(.string ⟨#[]⟩), (.slice none 0 0), (.bool false)] [(0, 3, (.t 40))], none⟩,
      ⟨some 42, .blt .append #[125, 125] 125 [(.t 36), (.t 41)], none⟩,
      ⟨some 43, .nilCheck (.t 32), none⟩,
      ⟨some 44, .fieldA 3 (.t 43), none⟩,
      ⟨none, .store 1 (.t 44) (.t 42), none⟩] [])
     (.seq (.ops 9 true [
       ⟨some 45, .val (.t 0), none⟩,
       ⟨some 46, .nilCheck (.t 45), none⟩,
       ⟨some 47, .fieldA 2 (.t 46), none⟩,
       ⟨some 48, .load (.t 47), none⟩,
       ⟨some 49, .val (.t 1), none⟩,
       ⟨some 50, .val (.t 2), none⟩,
       ⟨some 51, .call 87 [(.t 50)], none⟩,
       ⟨none, .upd 124 (.t 48) (.t 49) (.t 51), none⟩] [([], []), ([0], [0]), ([1], [1]), ([2], [2]), ([], []), ([], []), ([5], [5]), ([3, 4, 6, 6, 0, 1, 2, 3, 4, 5, 6], [3, 4, 6])])
      (.seq (.ops 10 false [
        ⟨some 6, .val (.c (.int .i64 0)), none⟩] [])
       (.ret)))))))
def rs39 : List RR := [.tmp 6]
theorem fun39 : FunR Tryd.prog 39 rc39 rs39 52 := ⟨Tryd.f39, Tryd.func39, by kernel_rfl, by kernel_rfl, by kernel_rfl⟩
/-- (*causeway/store.State).Get -/
def rc40 : RC :=
 .seq (.ops 0 false [
  ⟨some 4, .val (.c (.slice none 0 0)), none⟩,
  ⟨some 5, .val (.c (.int .i64 0)), none⟩] [])
 (.seq (.seq (.ops 1 false [
    ⟨some 8, .val (.t 1), none⟩,
    ⟨some 9, .call 85 [(.t 8), (.c (.slice none 0 0))], none⟩,
    ⟨some 6, .val (.t 9), none⟩] [])
   (.seq (.ops 2 false [
     ⟨some 10, .val (.t 6), none⟩,
     ⟨some 11, .bin .neq (.t 10) (.c (.int .i64 0)), none⟩] [])
    (.cond (.t 11) (.seq (.ops 3 false [
       ⟨some 12, .val (.t 6), none⟩,
       ⟨some 4, .val (.c (.slice none 0 0)), none⟩,
       ⟨some 5, .val (.t 12), none⟩] [])
      (.ret))
     (.skip))))
  (.seq (.seq (.ops 4 false [
     ⟨some 13, .val (.t 0), none⟩,
     ⟨some 14, .val (.t 1), none⟩,
     ⟨some 15, .call 86 [(.t 13), (.t 14)], none⟩,
     ⟨some 7, .val (.t 15), none⟩] [])
    (.seq (.ops 5 false [
      ⟨some 16, .val (.t 7), none⟩,
      ⟨some 17, .bin .neq (.t 16) (.c (.int .i64 0)), none⟩] [])
     (.cond (.t 17) (.seq (.ops 6 false [
        ⟨some 18, .val (.t 7), none⟩,
        ⟨some 4, .val (.c (.slice none 0 0)), none⟩,
        ⟨some 5, .val (.t 18), none⟩] [])
       (.ret))
      (.skip))))
   (.seq (.ops 7 false [
     ⟨some 19, .val (.t 0), none⟩,
     ⟨some 20, .val (.t 1), none⟩,
     ⟨some 21, .call 88 [(.t 19), (.t 20)], none⟩,
     ⟨some 22, .call 87 [(.t 21)], none⟩,
     ⟨some 4, .val (.t 22), none⟩,
     ⟨some 5, .val (.c (.int .i64 0)), none⟩] [])
    (.ret))))
def rs40 : List RR := [.tmp 4, .tmp 5]
theorem fun40 : FunR Tryd.prog 40 rc40 rs40 23 := ⟨Tryd.f40, Tryd.func40, by kernel_rfl, by kernel_rfl, by kernel_rfl⟩
/-- (*causeway/store.Table).Find -/
def rc42 : RC :=
 .seq (.ops 0 false [
  ⟨some 4, .val (.c (.slice none 0 0)), none⟩,
  ⟨some 5, .val (.c (.int .i64 0)), none⟩] [])
 (.seq (.seq (.ops 1 false [
    ⟨some 7, .val (.t 1), none⟩,
    ⟨some 8, .call 85 [(.t 7), (.c (.slice none 0 0))], none⟩,
    ⟨some 6, .val (.t 8), none⟩] [])
   (.seq (.ops 2 false [
     ⟨some 9, .val (.t 6), none⟩,
     ⟨some 10, .bin .neq (.t 9) (.c (.int .i64 0)), none⟩] [])
    (.cond (.t 10) (.seq (.ops 3 false [
       ⟨some 11, .val (.t 6), none⟩,
       ⟨some 4, .val (.c (.slice none 0 0)), none⟩,
       ⟨some 5, .val (.t 11), none⟩] [])
      (.ret))
     (.skip))))
  (.seq (.ops 4 false [
    ⟨some 12, .val (.t 0), none⟩,
    ⟨some 13, .nilCheck (.t 12), none⟩,
    ⟨some 14, .fieldA 0 (.t 13), none⟩,
    ⟨some 15, .load (.t 14), none⟩,
    ⟨some 16, .val (.t 1), none⟩,
    ⟨some 17, .look 124 (.t 15) (.t 16) false, none⟩,
    ⟨some 18, .call 87 [(.t 17)], none⟩,
    ⟨some 4, .val (.t 18), none⟩,
    ⟨some 5, .val (.c (.int .i64 0)), none⟩] [])
   (.ret)))
def rs42 : List RR := [.tmp 4, .tmp 5]
theorem fun42 : FunR Tryd.prog 42 rc42 rs42 19 := ⟨Tryd.f42, Tryd.func42, by kernel_rfl, by kernel_rfl, by kernel_rfl⟩
/-- causeway/store.NewTable -/
def rc45 : RC :=
 .seq (.ops 0 false [
  ⟨some 0, .val (.c (.pointer none)), none⟩] [])
 (.seq (.ops 1 false [
   ⟨some 1, .mkMap 124, none⟩,
   ⟨some 2, .call 91 [], none⟩,
   ⟨some 3, .mkMap 152, none⟩,
   ⟨some 4, .build [(.map none), (.pointer none), (.map none)] [(0, 1, (.t 1)), (1, 1, (.t 2)), (2, 1, (.t 3))], none⟩,
   ⟨some 5, .box 154 (.t 4), none⟩,
   ⟨some 0, .val (.t 5), none⟩] [])
  (.ret))
def rs45 : List RR := [.tmp 0]
theorem fun45 : FunR Tryd.prog 45 rc45 rs45 6 := ⟨Tryd.f45, Tryd.func45, by kernel_rfl, by kernel_rfl, by kernel_rfl⟩
/-- causeway/ledger.layToken -/
def rc47 : RC :=
 .seq (.ops 0 false [
  ⟨some 5, .box 44 (.t 2), none⟩,
  ⟨some 6, .val (.c (.int .i64 0)), none⟩] [])
 (.seq (.ops 1 false [
   ⟨some 7, .val (.c (.int .u8 1)), none⟩] [])
  (.seq (.seq (.ops 2 false [
     ⟨some 8, .fieldA 1 (.t 5), none⟩,
     ⟨some 9, .load (.t 8), none⟩] [])
    (.cond (.t 9) (.ops 3 false [
      ⟨some 7, .val (.c (.int .u8 3)), none⟩] [])
     (.skip)))
   (.seq (.ops 4 true [
     ⟨some 10, .val (.t 0), none⟩,
     ⟨some 11, .val (.t 1), none⟩,
     ⟨some 12, .call 62 [(.t 11)], none⟩,
     ⟨some 13, .val (.t 7), none⟩,
     ⟨some 14, .buildS 5 1 [(.int .u8 0)] [(0, 1, (.t 13))], none⟩,
     ⟨some 15, .fieldA 2 (.t 5), none⟩,
     ⟨some 16, .loadN 4 (.t 15), none⟩,
     ⟨some 17, .call 93 [(.t 16)], none⟩,
     ⟨some 18, .blt .append #[91, 91] 91 [(.t 14), (.t 17)], none⟩,
     ⟨some 19, .call 39 [(.t 10), (.t 12), (.t 18)], none⟩,
     ⟨some 6, .val (.t 19), none⟩] [([], []), ([], []), ([1], [1]), ([], []), ([3], [3]), ([], []), ([5], [5]), ([6, 2], [6]), ([4, 7, 7], [4, 7]), ([0, 2, 8, 8], [0, 2, 8]), ([9, 9, 0, 1, 2, 3, 4, 5, 6, 7, 8, 9], [9])])
    (.ret))))
def rs47 : List RR := [.tmp 6]
theorem fun47 : FunR Tryd.prog 47 rc47 rs47 20 := ⟨Tryd.f47, Tryd.func47, by kernel_rfl, by kernel_rfl, by kernel_rfl⟩
/-- causeway/ledger.running -/
def rc48 : RC :=
 .seq (.ops 0 false [
  ⟨some 4, .alloc 44 [(.bool false), (.bool false), (.int .u64 0), (.int .u64 0), (.int .u64 0), (.int .u64 0)], none⟩,
  ⟨some 5, .val (.c (.int .i64 0)), none⟩] [])
 (.seq (.ops 1 false [
   ⟨some 9, .val (.t 0), none⟩,
   ⟨some 10, .val (.t 1), none⟩,
   ⟨some 11, .call 61 [(.t 9), (.t 10)], none⟩,
   ⟨some 8, .val (.t 11), none⟩,
   ⟨some 12, .extract 0 (.t 8), none⟩,
   ⟨some 13, .extract 1 (.t 8), none⟩,
   ⟨some 6, .alloc 44 [(.bool false), (.bool false), (.int .u64 0), (.int .u64 0), (.int .u64 0), (.int .u64 0)], none⟩,
   ⟨none, .store 6 (.t 6) (.t 12), none⟩,
   ⟨some 7, .val (.t 13), none⟩] [])
  (.seq (.seq (.ops 2 false [
     ⟨some 14, .val (.t 7), none⟩,
     ⟨some 15, .bin .eql (.t 14) (.c (.int .i64 0)), none⟩,
     ⟨some 16, .val (.t 15), none⟩,
     ⟨some 17, .fieldA 1 (.t 6), some (16, true)⟩,
     ⟨some 18, .load (.t 17), some (16, true)⟩,
     ⟨some 19, .pick (.t 16) (.t 18) (.c (.bool false)), none⟩] [])
    (.cond (.t 19) (.seq (.ops 3 false [
       ⟨some 20, .build [(.bool false), (.bool false), (.int .u64 0), (.int .u64 0), (.int .u64 0), (.int .u64 0)] [], none⟩,
       ⟨none, .store 6 (.t 4) (.t 20), none⟩,
       ⟨some 5, .val (.c (.int .i64 83)), none⟩] [])
      (.ret))
     (.skip)))
   (.seq (.ops 4 false [
     ⟨some 21, .loadN 6 (.t 6), none⟩,
     ⟨some 22, .val (.t 7), none⟩,
     ⟨none, .store 6 (.t 4) (.t 21), none⟩,
     ⟨some 5, .val (.t 22), none⟩] [])
    (.ret))))
def rs48 : List RR := [.cell 4 (some 6), .tmp 5]
theorem fun48 : FunR Tryd.prog 48 rc48 rs48 23 := ⟨Tryd.f48, Tryd.func48, by kernel_rfl, by kernel_rfl, by kernel_rfl⟩
/-- causeway/wide.Add -/
def rc49 : RC :=
 .seq (.ops 0 false [
  ⟨some 2, .box 25 (.t 0), none⟩,
  ⟨some 3, .box 25 (.t 1), none⟩,
  ⟨some 4, .alloc 25 [(.int .u64 0), (.int .u64 0), (.int .u64 0), (.int .u64 0)], none⟩,
  ⟨some 5, .val (.c (.int .i64 0)), none⟩] [])
 (.seq (.ops 1 false [
   ⟨some 6, .alloc 25 [(.int .u64 0), (.int .u64 0), (.int .u64 0), (.int .u64 0)], none⟩] [])
  (.seq (.ops 2 false [
    ⟨some 7, .val (.c (.int .u64 0)), none⟩] [])
   (.seq (.seq (.ops 3 false [
      ⟨some 9, .val (.c (.int .i64 0)), none⟩] [])
     (.block 0 (.loop (.seq (.ops 4 false [
         ⟨some 10, .bin .lss (.t 9) (.c (.int .i64 4)), none⟩] [])
        (.seq (.cond (.t 10) (.skip)
          (.exit 0))
         (.seq (.block 1 (.seq (.ops 5 false [
             ⟨some 11, .val (.t 9), none⟩,
             ⟨some 8, .val (.t 11), none⟩] [])
            (.ops 6 true [
             ⟨some 13, .val (.t 8), none⟩,
             ⟨some 14, .val (.t 8), none⟩,
             ⟨some 15, .indexA 4 1 (.t 2) (.t 14), none⟩,
             ⟨some 16, .load (.t 15), none⟩,
             ⟨some 17, .val (.t 8), none⟩,
             ⟨some 18, .indexA 4 1 (.t 3) (.t 17), none⟩,
             ⟨some 19, .load (.t 18), none⟩,
             ⟨some 20, .val (.t 7), none⟩,
             ⟨some 21, .ext 94 [(.t 16), (.t 19), (.t 20)], none⟩,
             ⟨some 12, .val (.t 21), none⟩,
             ⟨some 22, .extract 0 (.t 12), none⟩,
             ⟨some 23, .extract 1 (.t 12), none⟩,
             ⟨some 24, .indexA 4 1 (.t 6) (.t 13), none⟩,
             ⟨none, .store 1 (.t 24) (.t 22), none⟩,
             ⟨some 7, .val (.t 23), none⟩] [([], []), ([], []), ([1], [1]), ([2], [2]), ([], []), ([4], [4]), ([5], [5]), ([], []), ([3, 6, 7], [3, 6, 7]), ([8], [8]), ([9], [9]), ([9], [9]), ([0, 0, 1, 2, 3, 4, 5, 6, 7, 8, 9, 10], [0]), ([12, 10, 8, 0, 1, 2, 3, 4, 5, 6, 7, 8, 9, 10], [10, 12]), ([11, 13, 0, 1, 2, 3, 4, 5, 6, 7, 8, 9, 10, 11, 12, 13], [7, 11])])))
          (.ops 7 false [
           ⟨some 25, .bin .add (.t 9) (.c (.int .i64 1)), none⟩,
           ⟨some 9, .val (.t 25), none⟩] [])))))))
    (.seq (.seq (.ops 8 false [
       ⟨some 26, .val (.t 7), none⟩,
       ⟨some 27, .bin .gtr (.t 26) (.c (.int .u64 0)), none⟩] [])
      (.cond (.t 27) (.seq (.ops 9 false [
         ⟨some 28, .build [(.int .u64 0), (.int .u64 0), (.int .u64 0), (.int .u64 0)] [], none⟩,
         ⟨none, .store 4 (.t 4) (.t 28), none⟩,
         ⟨some 5, .val (.c (.int .i64 22)), none⟩] [])
        (.ret))
       (.skip)))
     (.seq (.ops 10 false [
       ⟨some 29, .loadN 4 (.t 6), none⟩,
       ⟨none, .store 4 (.t 4) (.t 29), none⟩,
       ⟨some 5, .val (.c (.int .i64 0)), none⟩] [])
      (.ret))))))
def rs49 : List RR := [.cell 4 (some 4), .tmp 5]
theorem fun49 : FunR Tryd.prog 49 rc49 rs49 30 := ⟨Tryd.f49, Tryd.func49, by kernel_rfl, by kernel_rfl, by kernel_rfl⟩
/-- causeway/ledger.balanceKey -/
def rc50 : RC :=
 .seq (.ops 0 false [
  ⟨some 3, .box 33 (.t 1), none⟩,
  ⟨some 4, .val (.c (.string ⟨#[]⟩)), none⟩] [])
 (.seq (.ops 1 false [
   ⟨some 5, .val (.t 0), none⟩,
   ⟨some 6, .conv .u8 (.t 5), none⟩,
   ⟨some 7, .buildS 5 2 [(.int .u8 0), (.int .u8 0)] [(0, 1, (.c (.int .u8 98))), (1, 1, (.t 6))], none⟩,
   ⟨some 8, .sliceA 20 1 (.t 3) none none, none⟩,
   ⟨some 9, .blt .append #[91, 91] 91 [(.t 7), (.t 8)], none⟩,
   ⟨some 10, .cvt 91 9 (.t 9), none⟩,
   ⟨some 4, .val (.t 10), none⟩] [])
  (.ret))
def rs50 : List RR := [.tmp 4]
theorem fun50 : FunR Tryd.prog 50 rc50 rs50 11 := ⟨Tryd.f50, Tryd.func50, by kernel_rfl, by kernel_rfl, by kernel_rfl⟩
/-- causeway/ledger.amount -/
def rc51 : RC :=
 .seq (.ops 0 false [
  ⟨some 4, .alloc 25 [(.int .u64 0), (.int .u64 0), (.int .u64 0), (.int .u64 0)], none⟩,
  ⟨some 5, .val (.c (.int .i64 0)), none⟩] [])
 (.seq (.ops 1 false [
   ⟨some 10, .val (.t 0), none⟩,
   ⟨some 11, .val (.t 1), none⟩,
   ⟨some 12, .call 40 [(.t 10), (.t 11)], none⟩,
   ⟨some 9, .val (.t 12), none⟩,
   ⟨some 13, .extract 0 (.t 9), none⟩,
   ⟨some 14, .extract 1 (.t 9), none⟩,
   ⟨some 6, .val (.t 13), none⟩,
   ⟨some 7, .val (.t 14), none⟩] [])
  (.seq (.seq (.ops 2 false [
     ⟨some 15, .val (.t 7), none⟩,
     ⟨some 16, .bin .neq (.t 15) (.c (.int .i64 0)), none⟩,
     ⟨some 17, .val (.t 16), none⟩,
     ⟨some 18, .val (.t 6), some (17, false)⟩,
     ⟨some 19, .len (.t 18), some (17, false)⟩,
     ⟨some 20, .bin .eql (.t 19) (.c (.int .i64 0)), some (17, false)⟩,
     ⟨some 21, .pick (.t 17) (.c (.bool true)) (.t 20), none⟩] [])
    (.cond (.t 21) (.seq (.ops 3 false [
       ⟨some 22, .build [(.int .u64 0), (.int .u64 0), (.int .u64 0), (.int .u64 0)] [], none⟩,
       ⟨some 23, .val (.t 7), none⟩,
       ⟨none, .store 4 (.t 4) (.t 22), none⟩,
       ⟨some 5, .val (.t 23), none⟩] [])
      (.ret))
     (.skip)))
   (.seq (.ops 4 false [
     ⟨some 25, .val (.t 6), none⟩,
     ⟨some 26, .call 63 [(.t 25)], none⟩,
     ⟨some 24, .val (.t 26), none⟩,
     ⟨some 27, .extract 0 (.t 24), none⟩,
     ⟨some 28, .extract 1 (.t 24), none⟩,
     ⟨some 8, .alloc 25 [(.int .u64 0), (.int .u64 0), (.int .u64 0), (.int .u64 0)], none⟩,
     ⟨none, .store 4 (.t 8) (.t 27), none⟩,
     ⟨some 7, .val (.t 28), none⟩] [])
    (.seq (.seq (.ops 5 false [
       ⟨some 29, .val (.t 7), none⟩,
       ⟨some 30, .bin .neq (.t 29) (.c (.int .i64 0)), none⟩,
       ⟨some 31, .val (.t 30), none⟩,
       ⟨some 32, .loadN 4 (.t 8), some (31, false)⟩,
       ⟨some 33, .call 52 [(.t 32)], some (31, false)⟩,
       ⟨some 34, .pick (.t 31) (.c (.bool true)) (.t 33), none⟩] [])
      (.cond (.t 34) (.seq (.ops 6 false [
         ⟨some 35, .build [(.int .u64 0), (.int .u64 0), (.int .u64 0), (.int .u64 0)] [], none⟩,
         ⟨none, .store 4 (.t 4) (.t 35), none⟩,
         ⟨some 5, .val (.c (.int .i64 75)), none⟩] [])
        (.ret))
       (.skip)))
     (.seq (.ops 7 false [
       ⟨some 36, .loadN 4 (.t 8), none⟩,
       ⟨none, .store 4 (.t 4) (.t 36), none⟩,
       ⟨some 5, .val (.c (.int .i64 0)), none⟩] [])
      (.ret))))))
def rs51 : List RR := [.cell 4 (some 4), .tmp 5]
theorem fun51 : FunR Tryd.prog 51 rc51 rs51 37 := ⟨Tryd.f51, Tryd.func51, by kernel_rfl, by kernel_rfl, by kernel_rfl⟩
/-- causeway/wide.IsZero -/
def rc52 : RC :=
 .seq (.ops 0 false [
  ⟨some 1, .box 25 (.t 0), none⟩,
  ⟨some 2, .val (.c (.bool false)), none⟩] [])
 (.seq (.ops 1 false [
   ⟨some 3, .loadN 4 (.t 1), none⟩,
   ⟨some 4, .build [(.int .u64 0), (.int .u64 0), (.int .u64 0), (.int .u64 0)] [], none⟩,
   ⟨some 5, .eqn false 25 (.t 3) (.t 4), none⟩,
   ⟨some 2, .val (.t 5), none⟩] [])
  (.ret))
def rs52 : List RR := [.tmp 2]
theorem fun52 : FunR Tryd.prog 52 rc52 rs52 6 := ⟨Tryd.f52, Tryd.func52, by kernel_rfl, by kernel_rfl, by kernel_rfl⟩
/-- causeway/ledger.lay -/
def rc53 : RC :=
 .seq (.ops 0 false [
  ⟨some 5, .box 25 (.t 2), none⟩,
  ⟨some 6, .val (.c (.int .i64 0)), none⟩] [])
 (.seq (.seq (.ops 1 false [
    ⟨some 7, .loadN 4 (.t 5), none⟩,
    ⟨some 8, .call 52 [(.t 7)], none⟩] [])
   (.cond (.t 8) (.seq (.ops 2 false [
      ⟨some 9, .val (.t 0), none⟩,
      ⟨some 10, .val (.t 1), none⟩,
      ⟨some 11, .call 39 [(.t 9), (.t 10), (.c (.slice none 0 0))], none⟩,
      ⟨some 6, .val (.t 11), none⟩] [])
     (.ret))
    (.skip)))
  (.seq (.ops 3 false [
    ⟨some 12, .val (.t 0), none⟩,
    ⟨some 13, .val (.t 1), none⟩,
    ⟨some 14, .loadN 4 (.t 5), none⟩,
    ⟨some 15, .call 93 [(.t 14)], none⟩,
    ⟨some 16, .call 39 [(.t 12), (.t 13), (.t 15)], none⟩,
    ⟨some 6, .val (.t 16), none⟩] [])
   (.ret)))
def rs53 : List RR := [.tmp 6]
theorem fun53 : FunR Tryd.prog 53 rc53 rs53 17 := ⟨Tryd.f53, Tryd.func53, by kernel_rfl, by kernel_rfl, by kernel_rfl⟩
/-- causeway/ledger.begun -/
def rc58 : RC :=
 .seq (.ops 0 false [
  ⟨some 4, .val (.c (.int .i64 0)), none⟩] [])
 (.seq (.block 0 (.seq (.ops 1 false [
     ⟨some 6, .val (.t 0), none⟩,
     ⟨some 7, .eqp .ptr false (.t 6) (.c (.pointer none)), none⟩,
     ⟨some 5, .val (.t 7), none⟩] [])
    (.cond (.t 5) (.seq (.ops 2 false [
       ⟨some 4, .val (.c (.int .i64 1)), none⟩] [])
      (.ret))
     (.seq (.ops 3 false [
       ⟨some 9, .val (.t 1), none⟩,
       ⟨some 10, .bin .lss (.t 9) (.c (.int .i64 0)), none⟩,
       ⟨some 11, .val (.t 10), none⟩,
       ⟨some 12, .val (.t 1), some (11, false)⟩,
       ⟨some 13, .bin .geq (.t 12) (.c (.int .i64 64)), some (11, false)⟩,
       ⟨some 14, .pick (.t 11) (.c (.bool true)) (.t 13), none⟩,
       ⟨some 8, .val (.t 14), none⟩] [])
      (.cond (.t 8) (.seq (.ops 4 false [
         ⟨some 4, .val (.c (.int .i64 80)), none⟩] [])
        (.ret))
       (.skip))))))
  (.seq (.ops 5 false [
    ⟨some 4, .val (.c (.int .i64 0)), none⟩] [])
   (.ret)))
def rs58 : List RR := [.tmp 4]
theorem fun58 : FunR Tryd.prog 58 rc58 rs58 15 := ⟨Tryd.f58, Tryd.func58, by kernel_rfl, by kernel_rfl, by kernel_rfl⟩
/-- causeway/wide.Sub -/
def rc60 : RC :=
 .seq (.ops 0 false [
  ⟨some 2, .box 25 (.t 0), none⟩,
  ⟨some 3, .box 25 (.t 1), none⟩,
  ⟨some 4, .alloc 25 [(.int .u64 0), (.int .u64 0), (.int .u64 0), (.int .u64 0)], none⟩,
  ⟨some 5, .val (.c (.int .i64 0)), none⟩] [])
 (.seq (.ops 1 false [
   ⟨some 6, .alloc 25 [(.int .u64 0), (.int .u64 0), (.int .u64 0), (.int .u64 0)], none⟩] [])
  (.seq (.ops 2 false [
    ⟨some 7, .val (.c (.int .u64 0)), none⟩] [])
   (.seq (.seq (.ops 3 false [
      ⟨some 9, .val (.c (.int .i64 0)), none⟩] [])
     (.block 0 (.loop (.seq (.ops 4 false [
         ⟨some 10, .bin .lss (.t 9) (.c (.int .i64 4)), none⟩] [])
        (.seq (.cond (.t 10) (.skip)
          (.exit 0))
         (.seq (.block 1 (.seq (.ops 5 false [
             ⟨some 11, .val (.t 9), none⟩,
             ⟨some 8, .val (.t 11), none⟩] [])
            (.ops 6 true [
             ⟨some 13, .val (.t 8), none⟩,
             ⟨some 14, .val (.t 8), none⟩,
             ⟨some 15, .indexA 4 1 (.t 2) (.t 14), none⟩,
             ⟨some 16, .load (.t 15), none⟩,
             ⟨some 17, .val (.t 8), none⟩,
             ⟨some 18, .indexA 4 1 (.t 3) (.t 17), none⟩,
             ⟨some 19, .load (.t 18), none⟩,
             ⟨some 20, .val (.t 7), none⟩,
             ⟨some 21, .ext 96 [(.t 16), (.t 19), (.t 20)], none⟩,
             ⟨some 12, .val (.t 21), none⟩,
             ⟨some 22, .extract 0 (.t 12), none⟩,
             ⟨some 23, .extract 1 (.t 12), none⟩,
             ⟨some 24, .indexA 4 1 (.t 6) (.t 13), none⟩,
             ⟨none, .store 1 (.t 24) (.t 22), none⟩,
             ⟨some 7, .val (.t 23), none⟩] [([], []), ([], []), ([1], [1]), ([2], [2]), ([], []), ([4], [4]), ([5], [5]), ([], []), ([3, 6, 7], [3, 6, 7]), ([8], [8]), ([9], [9]), ([9], [9]), ([0, 0, 1, 2, 3, 4, 5, 6, 7, 8, 9, 10], [0]), ([12, 10, 8, 0, 1, 2, 3, 4, 5, 6, 7, 8, 9, 10], [10, 12]), ([11, 13, 0, 1, 2, 3, 4, 5, 6, 7, 8, 9, 10, 11, 12, 13], [7, 11])])))
          (.ops 7 false [
           ⟨some 25, .bin .add (.t 9) (.c (.int .i64 1)), none⟩,
           ⟨some 9, .val (.t 25), none⟩] [])))))))
    (.seq (.seq (.ops 8 false [
       ⟨some 26, .val (.t 7), none⟩,
       ⟨some 27, .bin .gtr (.t 26) (.c (.int .u64 0)), none⟩] [])
      (.cond (.t 27) (.seq (.ops 9 false [
         ⟨some 28, .build [(.int .u64 0), (.int .u64 0), (.int .u64 0), (.int .u64 0)] [], none⟩,
         ⟨none, .store 4 (.t 4) (.t 28), none⟩,
         ⟨some 5, .val (.c (.int .i64 23)), none⟩] [])
        (.ret))
       (.skip)))
     (.seq (.ops 10 false [
       ⟨some 29, .loadN 4 (.t 6), none⟩,
       ⟨none, .store 4 (.t 4) (.t 29), none⟩,
       ⟨some 5, .val (.c (.int .i64 0)), none⟩] [])
      (.ret))))))
def rs60 : List RR := [.cell 4 (some 4), .tmp 5]
theorem fun60 : FunR Tryd.prog 60 rc60 rs60 30 := ⟨Tryd.f60, Tryd.func60, by kernel_rfl, by kernel_rfl, by kernel_rfl⟩
/-- causeway/ledger.there -/
def rc61 : RC :=
 .seq (.ops 0 false [
  ⟨some 4, .alloc 44 [(.bool false), (.bool false), (.int .u64 0), (.int .u64 0), (.int .u64 0), (.int .u64 0)], none⟩,
  ⟨some 5, .val (.c (.int .i64 0)), none⟩] [])
 (.seq (.ops 1 false [
   ⟨some 9, .val (.t 0), none⟩,
   ⟨some 10, .val (.t 1), none⟩,
   ⟨some 11, .call 21 [(.t 9), (.t 10)], none⟩,
   ⟨some 8, .val (.t 11), none⟩,
   ⟨some 12, .extract 0 (.t 8), none⟩,
   ⟨some 13, .extract 1 (.t 8), none⟩,
   ⟨some 6, .alloc 44 [(.bool false), (.bool false), (.int .u64 0), (.int .u64 0), (.int .u64 0), (.int .u64 0)], none⟩,
   ⟨none, .store 6 (.t 6) (.t 12), none⟩,
   ⟨some 7, .val (.t 13), none⟩] [])
  (.seq (.block 0 (.seq (.ops 2 false [
      ⟨some 15, .val (.t 7), none⟩,
      ⟨some 16, .bin .neq (.t 15) (.c (.int .i64 0)), none⟩,
      ⟨some 14, .val (.t 16), none⟩] [])
     (.cond (.t 14) (.seq (.ops 3 false [
        ⟨some 17, .build [(.bool false), (.bool false), (.int .u64 0), (.int .u64 0), (.int .u64 0), (.int .u64 0)] [], none⟩,
        ⟨some 18, .val (.t 7), none⟩,
        ⟨none, .store 6 (.t 4) (.t 17), none⟩,
        ⟨some 5, .val (.t 18), none⟩] [])
       (.ret))
      (.seq (.ops 4 false [
        ⟨some 20, .loadN 6 (.t 6), none⟩,
        ⟨some 21, .build [(.bool false), (.bool false), (.int .u64 0), (.int .u64 0), (.int .u64 0), (.int .u64 0)] [], none⟩,
        ⟨some 22, .eqn false 44 (.t 20) (.t 21), none⟩,
        ⟨some 19, .val (.t 22), none⟩] [])
       (.cond (.t 19) (.seq (.ops 5 false [
          ⟨some 23, .loadN 6 (.t 6), none⟩,
          ⟨none, .store 6 (.t 4) (.t 23), none⟩,
          ⟨some 5, .val (.c (.int .i64 81)), none⟩] [])
         (.ret))
        (.skip))))))
   (.seq (.ops 6 false [
     ⟨some 24, .loadN 6 (.t 6), none⟩,
     ⟨none, .store 6 (.t 4) (.t 24), none⟩,
     ⟨some 5, .val (.c (.int .i64 0)), none⟩] [])
    (.ret))))
def rs61 : List RR := [.cell 4 (some 6), .tmp 5]
theorem fun61 : FunR Tryd.prog 61 rc61 rs61 25 := ⟨Tryd.f61, Tryd.func61, by kernel_rfl, by kernel_rfl, by kernel_rfl⟩
/-- causeway/ledger.tokenKey -/
def rc62 : RC :=
 .seq (.ops 0 false [
  ⟨some 2, .val (.c (.string ⟨#[]⟩)), none⟩] [])
 (.seq (.ops 1 false [
   ⟨some 3, .val (.t 0), none⟩,
   ⟨some 4, .conv .u8 (.t 3), none⟩,
   ⟨some 5, .buildS 5 2 [(.int .u8 0), (.int .u8 0)] [(0, 1, (.c (.int .u8 116))), (1, 1, (.t 4))], none⟩,
   ⟨some 6, .cvt 91 9 (.t 5), none⟩,
   ⟨some 2, .val (.t 6), none⟩] [])
  (.ret))
def rs62 : List RR := [.tmp 2]
theorem fun62 : FunR Tryd.prog 62 rc62 rs62 7 := ⟨Tryd.f62, Tryd.func62, by kernel_rfl, by kernel_rfl, by kernel_rfl⟩
/-- causeway/wide.Read -/
def rc63 : RC :=
 .seq (.ops 0 false [
  ⟨some 2, .alloc 25 [(.int .u64 0), (.int .u64 0), (.int .u64 0), (.int .u64 0)], none⟩,
  ⟨some 3, .val (.c (.int .i64 0)), none⟩] [])
 (.seq (.ops 1 false [
   ⟨some 4, .alloc 25 [(.int .u64 0), (.int .u64 0), (.int .u64 0), (.int .u64 0)], none⟩] [])
  (.seq (.seq (.ops 2 false [
     ⟨some 7, .val (.t 0), none⟩,
     ⟨some 8, .len (.t 7), none⟩,
     ⟨some 9, .bin .neq (.t 8) (.c (.int .i64 32)), none⟩] [])
    (.cond (.t 9) (.seq (.ops 3 false [
       ⟨some 10, .loadN 4 (.t 4), none⟩,
       ⟨none, .store 4 (.t 2) (.t 10), none⟩,
       ⟨some 3, .val (.c (.int .i64 20)), none⟩] [])
      (.ret))
     (.skip)))
   (.seq (.seq (.ops 4 false [
      ⟨some 11, .val (.t 0), none⟩,
      ⟨some 12, .len (.t 11), none⟩,
      ⟨some 13, .val (.c (.int .i64 0)), none⟩] [])
     (.block 0 (.loop (.seq (.ops 5 false [
         ⟨some 14, .bin .lss (.t 13) (.t 12), none⟩] [])
        (.seq (.cond (.t 14) (.skip)
          (.exit 0))
         (.seq (.block 1 (.seq (.ops 6 false [
             ⟨some 15, .val (.t 13), none⟩,
             ⟨some 16, .indexS 1 (.t 11) (.t 13), none⟩,
             ⟨some 17, .load (.t 16), none⟩,
             ⟨some 5, .val (.t 15), none⟩,
             ⟨some 6, .val (.t 17), none⟩] [])
            (.ops 7 false [
             ⟨some 18, .val (.t 5), none⟩,
             ⟨some 19, .bin .quo (.t 18) (.c (.int .i64 8)), none⟩,
             ⟨some 20, .bin .sub (.c (.int .i64 3)) (.t 19), none⟩,
             ⟨some 21, .val (.t 5), none⟩,
             ⟨some 22, .bin .quo (.t 21) (.c (.int .i64 8)), none⟩,
             ⟨some 23, .bin .sub (.c (.int .i64 3)) (.t 22), none⟩,
             ⟨some 24, .indexA 4 1 (.t 4) (.t 23), none⟩,
             ⟨some 25, .load (.t 24), none⟩,
             ⟨some 26, .bin .shl (.t 25) (.c (.int .u64 8)), none⟩,
             ⟨some 27, .val (.t 6), none⟩,
             ⟨some 28, .conv .u64 (.t 27), none⟩,
             ⟨some 29, .bin .or (.t 26) (.t 28), none⟩,
             ⟨some 30, .indexA 4 1 (.t 4) (.t 20), none⟩,
             ⟨none, .store 1 (.t 30) (.t 29), none⟩] [])))
          (.ops 8 false [
           ⟨some 31, .bin .add (.t 13) (.c (.int .i64 1)), none⟩,
           ⟨some 13, .val (.t 31), none⟩] [])))))))
    (.seq (.ops 9 false [
      ⟨some 32, .loadN 4 (.t 4), none⟩,
      ⟨none, .store 4 (.t 2) (.t 32), none⟩,
      ⟨some 3, .val (.c (.int .i64 0)), none⟩] [])
     (.ret)))))
def rs63 : List RR := [.cell 2 (some 4), .tmp 3]
theorem fun63 : FunR Tryd.prog 63 rc63 rs63 33 := ⟨Tryd.f63, Tryd.func63, by kernel_rfl, by kernel_rfl, by kernel_rfl⟩
/-- causeway/ledger.Pause -/
def rc64 : RC :=
 .seq (.ops 0 false [
  ⟨some 4, .val (.c (.int .i64 0)), none⟩] [])
 (.seq (.ops 1 false [
   ⟨some 8, .val (.t 0), none⟩,
   ⟨some 9, .val (.t 1), none⟩,
   ⟨some 10, .call 48 [(.t 8), (.t 9)], none⟩,
   ⟨some 7, .val (.t 10), none⟩,
   ⟨some 11, .extract 0 (.t 7), none⟩,
   ⟨some 12, .extract 1 (.t 7), none⟩,
   ⟨some 5, .alloc 44 [(.bool false), (.bool false), (.int .u64 0), (.int .u64 0), (.int .u64 0), (.int .u64 0)], none⟩,
   ⟨none, .store 6 (.t 5) (.t 11), none⟩,
   ⟨some 6, .val (.t 12), none⟩] [])
  (.seq (.seq (.ops 2 false [
     ⟨some 13, .val (.t 6), none⟩,
     ⟨some 14, .bin .neq (.t 13) (.c (.int .i64 0)), none⟩] [])
    (.cond (.t 14) (.seq (.ops 3 false [
       ⟨some 15, .val (.t 6), none⟩,
       ⟨some 4, .val (.t 15), none⟩] [])
      (.ret))
     (.skip)))
   (.seq (.ops 4 false [
     ⟨some 16, .fieldA 1 (.t 5), none⟩,
     ⟨none, .store 1 (.t 16) (.c (.bool true)), none⟩] [])
    (.seq (.ops 5 false [
      ⟨some 17, .val (.t 0), none⟩,
      ⟨some 18, .val (.t 1), none⟩,
      ⟨some 19, .loadN 6 (.t 5), none⟩,
      ⟨some 20, .call 47 [(.t 17), (.t 18), (.t 19)], none⟩,
      ⟨some 4, .val (.t 20), none⟩] [])
     (.ret)))))
def rs64 : List RR := [.tmp 4]
theorem fun64 : FunR Tryd.prog 64 rc64 rs64 21 := ⟨Tryd.f64, Tryd.func64, by kernel_rfl, by kernel_rfl, by kernel_rfl⟩
/-- causeway/ledger.Resume -/
def rc65 : RC :=
 .seq (.ops 0 false [
  ⟨some 4, .val (.c (.int .i64 0)), none⟩] [])
 (.seq (.ops 1 false [
   ⟨some 8, .val (.t 0), none⟩,
   ⟨some 9, .val (.t 1), none⟩,
   ⟨some 10, .call 61 [(.t 8), (.t 9)], none⟩,
   ⟨some 7, .val (.t 10), none⟩,
   ⟨some 11, .extract 0 (.t 7), none⟩,
   ⟨some 12, .extract 1 (.t 7), none⟩,
   ⟨some 5, .alloc 44 [(.bool false), (.bool false), (.int .u64 0), (.int .u64 0), (.int .u64 0), (.int .u64 0)], none⟩,
   ⟨none, .store 6 (.t 5) (.t 11), none⟩,
   ⟨some 6, .val (.t 12), none⟩] [])
  (.seq (.block 0 (.seq (.ops 2 false [
      ⟨some 14, .val (.t 6), none⟩,
      ⟨some 15, .bin .neq (.t 14) (.c (.int .i64 0)), none⟩,
      ⟨some 13, .val (.t 15), none⟩] [])
     (.cond (.t 13) (.seq (.ops 3 false [
        ⟨some 16, .val (.t 6), none⟩,
        ⟨some 4, .val (.t 16), none⟩] [])
       (.ret))
      (.seq (.ops 4 false [
        ⟨some 18, .fieldA 1 (.t 5), none⟩,
        ⟨some 19, .load (.t 18), none⟩,
        ⟨some 20, .not (.t 19), none⟩,
        ⟨some 17, .val (.t 20), none⟩] [])
       (.cond (.t 17) (.seq (.ops 5 false [
          ⟨some 4, .val (.c (.int .i64 84)), none⟩] [])
         (.ret))
        (.skip))))))
   (.seq (.ops 6 false [
     ⟨some 21, .fieldA 1 (.t 5), none⟩,
     ⟨none, .store 1 (.t 21) (.c (.bool false)), none⟩] [])
    (.seq (.ops 7 false [
      ⟨some 22, .val (.t 0), none⟩,
      ⟨some 23, .val (.t 1), none⟩,
      ⟨some 24, .loadN 6 (.t 5), none⟩,
      ⟨some 25, .call 47 [(.t 22), (.t 23), (.t 24)], none⟩,
      ⟨some 4, .val (.t 25), none⟩] [])
     (.ret)))))
def rs65 : List RR := [.tmp 4]
theorem fun65 : FunR Tryd.prog 65 rc65 rs65 26 := ⟨Tryd.f65, Tryd.func65, by kernel_rfl, by kernel_rfl, by kernel_rfl⟩
/-- causeway/ticket.Open -/
def rc69 : RC :=
 .seq (.ops 0 false [
  ⟨some 3, .box 82 (.t 1), none⟩,
  ⟨some 4, .val (.c (.int .i64 0)), none⟩,
  ⟨some 5, .val (.c (.int .i64 0)), none⟩] [])
 (.seq (.block 0 (.seq (.ops 1 false [
     ⟨some 10, .val (.t 0), none⟩,
     ⟨some 11, .eqp .ptr false (.t 10) (.c (.pointer none)), none⟩,
     ⟨some 9, .val (.t 11), none⟩] [])
    (.cond (.t 9) (.seq (.ops 2 false [
       ⟨some 4, .val (.c (.int .i64 0)), none⟩,
       ⟨some 5, .val (.c (.int .i64 1)), none⟩] [])
      (.ret))
     (.seq (.ops 3 false [
       ⟨some 13, .fieldA 0 (.t 3), none⟩,
       ⟨some 14, .load (.t 13), none⟩,
       ⟨some 15, .bin .neq (.t 14) (.c (.int .i64 0)), none⟩,
       ⟨some 16, .val (.t 15), none⟩,
       ⟨some 17, .loadN 47 (.t 3), some (16, false)⟩,
       ⟨some 18, .call 100 [(.t 17)], some (16, false)⟩,
       ⟨some 19, .not (.t 18), some (16, false)⟩,
       ⟨some 20, .pick (.t 16) (.c (.bool true)) (.t 19), none⟩,
       ⟨some 12, .val (.t 20), none⟩] [])
      (.cond (.t 12) (.seq (.ops 4 false [
         ⟨some 4, .val (.c (.int .i64 0)), none⟩,
         ⟨some 5, .val (.c (.int .i64 93)), none⟩] [])
        (.ret))
       (.skip))))))
  (.seq (.ops 5 false [
    ⟨some 22, .val (.t 0), none⟩,
    ⟨some 23, .call 82 [(.t 22)], none⟩,
    ⟨some 21, .val (.t 23), none⟩,
    ⟨some 24, .extract 0 (.t 21), none⟩,
    ⟨some 25, .extract 1 (.t 21), none⟩,
    ⟨some 6, .val (.t 24), none⟩,
    ⟨some 7, .val (.t 25), none⟩] [])
   (.seq (.block 1 (.seq (.ops 6 false [
       ⟨some 27, .val (.t 7), none⟩,
       ⟨some 28, .bin .neq (.t 27) (.c (.int .i64 0)), none⟩,
       ⟨some 26, .val (.t 28), none⟩] [])
      (.cond (.t 26) (.seq (.ops 7 false [
         ⟨some 29, .val (.t 7), none⟩,
         ⟨some 4, .val (.c (.int .i64 0)), none⟩,
         ⟨some 5, .val (.t 29), none⟩] [])
        (.ret))
       (.seq (.ops 8 false [
         ⟨some 31, .val (.t 6), none⟩,
         ⟨some 32, .bin .geq (.t 31) (.c (.int .i64 1099511627776)), none⟩,
         ⟨some 30, .val (.t 32), none⟩] [])
        (.cond (.t 30) (.seq (.ops 9 false [
           ⟨some 4, .val (.c (.int .i64 0)), none⟩,
           ⟨some 5, .val (.c (.int .i64 92)), none⟩] [])
          (.ret))
         (.skip))))))
    (.seq (.ops 10 false [
      ⟨some 33, .val (.t 6), none⟩,
      ⟨some 34, .bin .add (.t 33) (.c (.int .i64 1)), none⟩,
      ⟨some 6, .val (.t 34), none⟩] [])
     (.seq (.seq (.ops 11 true [
        ⟨some 35, .val (.t 0), none⟩,
        ⟨some 36, .val (.t 6), none⟩,
        ⟨some 37, .call 101 [(.t 36)], none⟩,
        ⟨some 38, .loadN 47 (.t 3), none⟩,
        ⟨some 39, .call 102 [(.t 38)], none⟩,
        ⟨some 40, .call 39 [(.t 35), (.t 37), (.t 39)], none⟩,
        ⟨some 8, .val (.t 40), none⟩] [([], []), ([], []), ([1], [1]), ([], []), ([3, 2], [3]), ([0, 2, 4, 4], [0, 2, 4]), ([5, 5, 0, 1, 2, 3, 4, 5], [5])])
       (.seq (.ops 12 false [
         ⟨some 41, .val (.t 8), none⟩,
         ⟨some 42, .bin .neq (.t 41) (.c (.int .i64 0)), none⟩] [])
        (.cond (.t 42) (.seq (.ops 13 false [
           ⟨some 43, .val (.t 8), none⟩,
           ⟨some 4, .val (.c (.int .i64 0)), none⟩,
           ⟨some 5, .val (.t 43), none⟩] [])
          (.ret))
         (.skip))))
      (.seq (.ops 14 false [
        ⟨some 44, .val (.t 6), none⟩,
        ⟨some 45, .val (.t 0), none⟩,
        ⟨some 46, .val (.t 6), none⟩,
        ⟨some 47, .call 103 [(.t 46)], none⟩,
        ⟨some 48, .call 39 [(.t 45), (.c (.string ⟨#[110, 116]⟩)), (.t 47)], none⟩,
        ⟨some 4, .val (.t 44), none⟩,
        ⟨some 5, .val (.t 48), none⟩] [])
       (.ret)))))))
def rs69 : List RR := [.tmp 4, .tmp 5]
theorem fun69 : FunR Tryd.prog 69 rc69 rs69 49 := ⟨Tryd.f69, Tryd.func69, by kernel_rfl, by kernel_rfl, by kernel_rfl⟩
/-- causeway/ticket.Find -/
def rc70 : RC :=
 .seq (.ops 0 false [
  ⟨some 4, .alloc 82 [(.int .i64 0), (.int .i64 0), (.int .u8 0), (.int .u8 0), (.int .u8 0), (.int .u8 0), (.int .u8 0), (.int .u8 0), (.int .u8 0), (.int .u8 0), (.int .u8 0), (.int .u8 0), (.int .u8 0), (.int .u8 0), (.int .u8 0), (.int .u8 0), (.int .u8 0), (.int .u8 0), (.int .u8 0), (.int .u8 0), (.int .u8 0), (.int .u8 0), (.int .i64 0), (.int .u8 0), (.int .u8 0), (.int .u8 0), (.int .u8 0), (.int .u8 0), (.int .u8 0), (.int .u8 0), (.int .u8 0), (.int .u8 0), (.int .u8 0), (.int .u8 0), (.int .u8 0), (.int .u8 0), (.int .u8 0), (.int .u8 0), (.int .u8 0), (.int .u8 0), (.int .u8 0), (.int .u8 0), (.int .u8 0), (.int .u64 0), (.int .u64 0), (.int .u64 0), (.int .u64 0)], none⟩,
  ⟨some 5, .val (.c (.int .i64 0)), none⟩] [])
 (.seq (.block 0 (.seq (.ops 1 false [
     ⟨some 11, .val (.t 0), none⟩,
     ⟨some 12, .eqp .ptr false (.t 11) (.c (.pointer none)), none⟩,
     ⟨some 10, .val (.t 12), none⟩] [])
    (.cond (.t 10) (.seq (.ops 2 false [
       ⟨some 13, .build [(.int .i64 0), (.int .i64 0), (.int .u8 0), (.int .u8 0), (.int .u8 0), (.int .u8 0), (.int .u8 0), (.int .u8 0), (.int .u8 0), (.int .u8 0), (.int .u8 0), (.int .u8 0), (.int .u8 0), (.int .u8 0), (.int .u8 0), (.int .u8 0), (.int .u8 0), (.int .u8 0), (.int .u8 0), (.int .u8 0), (.int .u8 0), (.int .u8 0), (.int .i64 0), (.int .u8 0), (.int .u8 0), (.int .u8 0), (.int .u8 0), (.int .u8 0), (.int .u8 0), (.int .u8 0), (.int .u8 0), (.int .u8 0), (.int .u8 0), (.int .u8 0), (.int .u8 0), (.int .u8 0), (.int .u8 0), (.int .u8 0), (.int .u8 0), (.int .u8 0), (.int .u8 0), (.int .u8 0), (.int .u8 0), (.int .u64 0), (.int .u64 0), (.int .u64 0), (.int .u64 0)] [], none⟩,
       ⟨none, .store 47 (.t 4) (.t 13), none⟩,
       ⟨some 5, .val (.c (.int .i64 1)), none⟩] [])
      (.ret))
     (.seq (.ops 3 false [
       ⟨some 15, .val (.t 1), none⟩,
       ⟨some 16, .bin .lss (.t 15) (.c (.int .i64 1)), none⟩,
       ⟨some 17, .val (.t 16), none⟩,
       ⟨some 18, .val (.t 1), some (17, false)⟩,
       ⟨some 19, .bin .gtr (.t 18) (.c (.int .i64 1099511627776)), some (17, false)⟩,
       ⟨some 20, .pick (.t 17) (.c (.bool true)) (.t 19), none⟩,
       ⟨some 14, .val (.t 20), none⟩] [])
      (.cond (.t 14) (.seq (.ops 4 false [
         ⟨some 21, .build [(.int .i64 0), (.int .i64 0), (.int .u8 0), (.int .u8 0), (.int .u8 0), (.int .u8 0), (.int .u8 0), (.int .u8 0), (.int .u8 0), (.int .u8 0), (.int .u8 0), (.int .u8 0), (.int .u8 0), (.int .u8 0), (.int .u8 0), (.int .u8 0), (.int .u8 0), (.int .u8 0), (.int .u8 0), (.int .u8 0), (.int .u8 0), (.int .u8 0), (.int .i64 0), (.int .u8 0), (.int .u8 0), (.int .u8 0), (.int .u8 0), (.int .u8 0), (.int .u8 0), (.int .u8 0), (.int .u8 0), (.int .u8 0), (.int .u8 0), (.int .u8 0), (.int .u8 0), (.int .u8 0), (.int .u8 0), (.int .u8 0), (.int .u8 0), (.int .u8 0), (.int .u8 0), (.int .u8 0), (.int .u8 0), (.int .u64 0), (.int .u64 0), (.int .u64 0), (.int .u64 0)] [], none⟩,
         ⟨none, .store 47 (.t 4) (.t 21), none⟩,
         ⟨some 5, .val (.c (.int .i64 90)), none⟩] [])
        (.ret))
       (.skip))))))
  (.seq (.ops 5 false [
    ⟨some 23, .val (.t 0), none⟩,
    ⟨some 24, .val (.t 1), none⟩,
    ⟨some 25, .call 101 [(.t 24)], none⟩,
    ⟨some 26, .call 40 [(.t 23), (.t 25)], none⟩,
    ⟨some 22, .val (.t 26), none⟩,
    ⟨some 27, .extract 0 (.t 22), none⟩,
    ⟨some 28, .extract 1 (.t 22), none⟩,
    ⟨some 6, .val (.t 27), none⟩,
    ⟨some 7, .val (.t 28), none⟩] [])
   (.seq (.block 1 (.seq (.ops 6 false [
       ⟨some 30, .val (.t 7), none⟩,
       ⟨some 31, .bin .neq (.t 30) (.c (.int .i64 0)), none⟩,
       ⟨some 29, .val (.t 31), none⟩] [])
      (.cond (.t 29) (.seq (.ops 7 false [
         ⟨some 32, .build [(.int .i64 0), (.int .i64 0), (.int .u8 0), (.int .u8 0), (.int .u8 0), (.int .u8 0), (.int .u8 0), (.int .u8 0), (.int .u8 0), (.int .u8 0), (.int .u8 0), (.int .u8 0), (.int .u8 0), (.int .u8 0), (.int .u8 0), (.int .u8 0), (.int .u8 0), (.int .u8 0), (.int .u8 0), (.int .u8 0), (.int .u8 0), (.int .u8 0), (.int .i64 0), (.int .u8 0), (.int .u8 0), (.int .u8 0), (.int .u8 0), (.int .u8 0), (.int .u8 0), (.int .u8 0), (.int .u8 0), (.int .u8 0), (.int .u8 0), (.int .u8 0), (.int .u8 0), (.int .u8 0), (.int .u8 0), (.int .u8 0), (.int .u8 0), (.int .u8 0), (.int .u8 0), (.int .u8 0), (.int .u8 0), (.int .u64 0), (.int .u64 0), (.int .u64 0), (.int .u64 0)] [], none⟩,
         ⟨some 33, .val (.t 7), none⟩,
         ⟨none, .store 47 (.t 4) (.t 32), none⟩,
         ⟨some 5, .val (.t 33), none⟩] [])
        (.ret))
       (.seq (.ops 8 false [
         ⟨some 35, .val (.t 6), none⟩,
         ⟨some 36, .len (.t 35), none⟩,
         ⟨some 37, .bin .eql (.t 36) (.c (.int .i64 0)), none⟩,
         ⟨some 34, .val (.t 37), none⟩] [])
        (.cond (.t 34) (.seq (.ops 9 false [
           ⟨some 38, .build [(.int .i64 0), (.int .i64 0), (.int .u8 0), (.int .u8 0), (.int .u8 0), (.int .u8 0), (.int .u8 0), (.int .u8 0), (.int .u8 0), (.int .u8 0), (.int .u8 0), (.int .u8 0), (.int .u8 0), (.int .u8 0), (.int .u8 0), (.int .u8 0), (.int .u8 0), (.int .u8 0), (.int .u8 0), (.int .u8 0), (.int .u8 0), (.int .u8 0), (.int .i64 0), (.int .u8 0), (.int .u8 0), (.int .u8 0), (.int .u8 0), (.int .u8 0), (.int .u8 0), (.int .u8 0), (.int .u8 0), (.int .u8 0), (.int .u8 0), (.int .u8 0), (.int .u8 0), (.int .u8 0), (.int .u8 0), (.int .u8 0), (.int .u8 0), (.int .u8 0), (.int .u8 0), (.int .u8 0), (.int .u8 0), (.int .u64 0), (.int .u64 0), (.int .u64 0), (.int .u64 0)] [], none⟩,
           ⟨none, .store 47 (.t 4) (.t 38), none⟩,
           ⟨some 5, .val (.c (.int .i64 90)), none⟩] [])
          (.ret))
         (.skip))))))
    (.seq (.ops 10 false [
      ⟨some 40, .val (.t 1), none⟩,
      ⟨some 41, .val (.t 6), none⟩,
      ⟨some 42, .call 104 [(.t 40), (.t 41)], none⟩,
      ⟨some 39, .val (.t 42), none⟩,
      ⟨some 43, .extract 0 (.t 39), none⟩,
      ⟨some 44, .extract 1 (.t 39), none⟩,
      ⟨some 8, .alloc 82 [(.int .i64 0), (.int .i64 0), (.int .u8 0), (.int .u8 0), (.int .u8 0), (.int .u8 0), (.int .u8 0), (.int .u8 0), (.int .u8 0), (.int .u8 0), (.int .u8 0), (.int .u8 0), (.int .u8 0), (.int .u8 0), (.int .u8 0), (.int .u8 0), (.int .u8 0), (.int .u8 0), (.int .u8 0), (.int .u8 0), (.int .u8 0), (.int .u8 0), (.int .i64 0), (.int .u8 0), (.int .u8 0), (.int .u8 0), (.int .u8 0), (.int .u8 0), (.int .u8 0), (.int .u8 0), (.int .u8 0), (.int .u8 0), (.int .u8 0), (.int .u8 0), (.int .u8 0), (.int .u8 0), (.int .u8 0), (.int .u8 0), (.int .u8 0), (.int .u8 0), (.int .u8 0), (.int .u8 0), (.int .u8 0), (.int .u64 0), (.int .u64 0), (.int .u64 0), (.int .u64 0)], none⟩,
      ⟨none, .store 47 (.t 8) (.t 43), none⟩,
      ⟨some 9, .val (.t 44), none⟩] [])
     (.seq (.seq (.ops 11 false [
        ⟨some 45, .val (.t 9), none⟩,
        ⟨some 46, .not (.t 45), none⟩] [])
       (.cond (.t 46) (.seq (.ops 12 false [
          ⟨some 47, .build [(.int .i64 0), (.int .i64 0), (.int .u8 0), (.int .u8 0), (.int .u8 0), (.int .u8 0), (.int .u8 0), (.int .u8 0), (.int .u8 0), (.int .u8 0), (.int .u8 0), (.int .u8 0), (.int .u8 0), (.int .u8 0), (.int .u8 0), (.int .u8 0), (.int .u8 0), (.int .u8 0), (.int .u8 0), (.int .u8 0), (.int .u8 0), (.int .u8 0), (.int .i64 0), (.int .u8 0), (.int .u8 0), (.int .u8 0), (.int .u8 0), (.int .u8 0), (.int .u8 0), (.int .u8 0), (.int .u8 0), (.int .u8 0), (.int .u8 0), (.int .u8 0), (.int .u8 0), (.int .u8 0), (.int .u8 0), (.int .u8 0), (.int .u8 0), (.int .u8 0), (.int .u8 0), (.int .u8 0), (.int .u8 0), (.int .u64 0), (.int .u64 0), (.int .u64 0), (.int .u64 0)] [], none⟩,
          ⟨none, .store 47 (.t 4) (.t 47), none⟩,
          ⟨some 5, .val (.c (.int .i64 75)), none⟩] [])
         (.ret))
        (.skip)))
      (.seq (.ops 13 false [
        ⟨some 48, .loadN 47 (.t 8), none⟩,
        ⟨none, .store 47 (.t 4) (.t 48), none⟩,
        ⟨some 5, .val (.c (.int .i64 0)), none⟩] [])
       (.ret)))))))
def rs70 : List RR := [.cell 4 (some 47), .tmp 5]
theorem fun70 : FunR Tryd.prog 70 rc70 rs70 49 := ⟨Tryd.f70, Tryd.func70, by kernel_rfl, by kernel_rfl, by kernel_rfl⟩
/-- causeway/ticket.Cancel -/
def rc71 : RC :=
 .seq (.ops 0 false [
  ⟨some 5, .box 33 (.t 2), none⟩,
  ⟨some 6, .alloc 82 [(.int .i64 0), (.int .i64 0), (.int .u8 0), (.int .u8 0), (.int .u8 0), (.int .u8 0), (.int .u8 0), (.int .u8 0), (.int .u8 0), (.int .u8 0), (.int .u8 0), (.int .u8 0), (.int .u8 0), (.int .u8 0), (.int .u8 0), (.int .u8 0), (.int .u8 0), (.int .u8 0), (.int .u8 0), (.int .u8 0), (.int .u8 0), (.int .u8 0), (.int .i64 0), (.int .u8 0), (.int .u8 0), (.int .u8 0), (.int .u8 0), (.int .u8 0), (.int .u8 0), (.int .u8 0), (.int .u8 0), (.int .u8 0), (.int .u8 0), (.int .u8 0), (.int .u8 0), (.int .u8 0), (.int .u8 0), (.int .u8 0), (.int .u8 0), (.int .u8 0), (.int .u8 0), (.int .u8 0), (.int .u8 0), (.int .u64 0), (.int .u64 0), (.int .u64 0), (.int .u64 0)], none⟩,
  ⟨some 7, .val (.c (.int .i64 0)), none⟩] [])
 (.seq (.ops 1 false [
   ⟨some 12, .val (.t 0), none⟩,
   ⟨some 13, .val (.t 1), none⟩,
   ⟨some 14, .call 70 [(.t 12), (.t 13)], none⟩,
   ⟨some 11, .val (.t 14), none⟩,
   ⟨some 15, .extract 0 (.t 11), none⟩,
   ⟨some 16, .extract 1 (.t 11), none⟩,
   ⟨some 8, .alloc 82 [(.int .i64 0), (.int .i64 0), (.int .u8 0), (.int .u8 0), (.int .u8 0), (.int .u8 0), (.int .u8 0), (.int .u8 0), (.int .u8 0), (.int .u8 0), (.int .u8 0), (.int .u8 0), (.int .u8 0), (.int .u8 0), (.int .u8 0), (.int .u8 0), (.int .u8 0), (.int .u8 0), (.int .u8 0), (.int .u8 0), (.int .u8 0), (.int .u8 0), (.int .i64 0), (.int .u8 0), (.int .u8 0), (.int .u8 0), (.int .u8 0), (.int .u8 0), (.int .u8 0), (.int .u8 0), (.int .u8 0), (.int .u8 0), (.int .u8 0), (.int .u8 0), (.int .u8 0), (.int .u8 0), (.int .u8 0), (.int .u8 0), (.int .u8 0), (.int .u8 0), (.int .u8 0), (.int .u8 0), (.int .u8 0), (.int .u64 0), (.int .u64 0), (.int .u64 0), (.int .u64 0)], none⟩,
   ⟨none, .store 47 (.t 8) (.t 15), none⟩,
   ⟨some 9, .val (.t 16), none⟩] [])
  (.seq (.block 0 (.seq (.ops 2 false [
      ⟨some 18, .val (.t 9), none⟩,
      ⟨some 19, .bin .neq (.t 18) (.c (.int .i64 0)), none⟩,
      ⟨some 17, .val (.t 19), none⟩] [])
     (.cond (.t 17) (.seq (.ops 3 false [
        ⟨some 20, .build [(.int .i64 0), (.int .i64 0), (.int .u8 0), (.int .u8 0), (.int .u8 0), (.int .u8 0), (.int .u8 0), (.int .u8 0), (.int .u8 0), (.int .u8 0), (.int .u8 0), (.int .u8 0), (.int .u8 0), (.int .u8 0), (.int .u8 0), (.int .u8 0), (.int .u8 0), (.int .u8 0), (.int .u8 0), (.int .u8 0), (.int .u8 0), (.int .u8 0), (.int .i64 0), (.int .u8 0), (.int .u8 0), (.int .u8 0), (.int .u8 0), (.int .u8 0), (.int .u8 0), (.int .u8 0), (.int .u8 0), (.int .u8 0), (.int .u8 0), (.int .u8 0), (.int .u8 0), (.int .u8 0), (.int .u8 0), (.int .u8 0), (.int .u8 0), (.int .u8 0), (.int .u8 0), (.int .u8 0), (.int .u8 0), (.int .u64 0), (.int .u64 0), (.int .u64 0), (.int .u64 0)] [], none⟩,
        ⟨some 21, .val (.t 9), none⟩,
        ⟨none, .store 47 (.t 6) (.t 20), none⟩,
        ⟨some 7, .val (.t 21), none⟩] [])
       (.ret))
      (.seq (.ops 4 false [
        ⟨some 23, .fieldA 2 (.t 8), none⟩,
        ⟨some 24, .loadN 20 (.t 23), none⟩,
        ⟨some 25, .loadN 20 (.t 5), none⟩,
        ⟨some 26, .eqn true 33 (.t 24) (.t 25), none⟩,
        ⟨some 22, .val (.t 26), none⟩] [])
       (.cond (.t 22) (.seq (.ops 5 false [
          ⟨some 27, .build [(.int .i64 0), (.int .i64 0), (.int .u8 0), (.int .u8 0), (.int .u8 0), (.int .u8 0), (.int .u8 0), (.int .u8 0), (.int .u8 0), (.int .u8 0), (.int .u8 0), (.int .u8 0), (.int .u8 0), (.int .u8 0), (.int .u8 0), (.int .u8 0), (.int .u8 0), (.int .u8 0), (.int .u8 0), (.int .u8 0), (.int .u8 0), (.int .u8 0), (.int .i64 0), (.int .u8 0), (.int .u8 0), (.int .u8 0), (.int .u8 0), (.int .u8 0), (.int .u8 0), (.int .u8 0), (.int .u8 0), (.int .u8 0), (.int .u8 0), (.int .u8 0), (.int .u8 0), (.int .u8 0), (.int .u8 0), (.int .u8 0), (.int .u8 0), (.int .u8 0), (.int .u8 0), (.int .u8 0), (.int .u8 0), (.int .u64 0), (.int .u64 0), (.int .u64 0), (.int .u64 0)] [], none⟩,
          ⟨none, .store 47 (.t 6) (.t 27), none⟩,
          ⟨some 7, .val (.c (.int .i64 91)), none⟩] [])
         (.ret))
        (.skip))))))
   (.seq (.seq (.ops 6 false [
      ⟨some 28, .val (.t 0), none⟩,
      ⟨some 29, .val (.t 1), none⟩,
      ⟨some 30, .call 101 [(.t 29)], none⟩,
      ⟨some 31, .call 39 [(.t 28), (.t 30), (.c (.slice none 0 0))], none⟩,
      ⟨some 10, .val (.t 31), none⟩] [])
     (.seq (.ops 7 false [
       ⟨some 32, .val (.t 10), none⟩,
       ⟨some 33, .bin .neq (.t 32) (.c (.int .i64 0)), none⟩] [])
      (.cond (.t 33) (.seq (.ops 8 false [
         ⟨some 34, .build [(.int .i64 0), (.int .i64 0), (.int .u8 0), (.int .u8 0), (.int .u8 0), (.int .u8 0), (.int .u8 0), (.int .u8 0), (.int .u8 0), (.int .u8 0), (.int .u8 0), (.int .u8 0), (.int .u8 0), (.int .u8 0), (.int .u8 0), (.int .u8 0), (.int .u8 0), (.int .u8 0), (.int .u8 0), (.int .u8 0), (.int .u8 0), (.int .u8 0), (.int .i64 0), (.int .u8 0), (.int .u8 0), (.int .u8 0), (.int .u8 0), (.int .u8 0), (.int .u8 0), (.int .u8 0), (.int .u8 0), (.int .u8 0), (.int .u8 0), (.int .u8 0), (.int .u8 0), (.int .u8 0), (.int .u8 0), (.int .u8 0), (.int .u8 0), (.int .u8 0), (.int .u8 0), (.int .u8 0), (.int .u8 0), (.int .u64 0), (.int .u64 0), (.int .u64 0), (.int .u64 0)] [], none⟩,
         ⟨some 35, .val (.t 10), none⟩,
         ⟨none, .store 47 (.t 6) (.t 34), none⟩,
         ⟨some 7, .val (.t 35), none⟩] [])
        (.ret))
       (.skip))))
    (.seq (.ops 9 false [
      ⟨some 36, .loadN 47 (.t 8), none⟩,
      ⟨none, .store 47 (.t 6) (.t 36), none⟩,
      ⟨some 7, .val (.c (.int .i64 0)), none⟩] [])
     (.ret)))))
def rs71 : List RR := [.cell 6 (some 47), .tmp 7]
theorem fun71 : FunR Tryd.prog 71 rc71 rs71 37 := ⟨Tryd.f71, Tryd.func71, by kernel_rfl, by kernel_rfl, by kernel_rfl⟩
/-- causeway/causewaylaw09.fit -/
def rc72 : RC :=
 .seq (.ops 0 false [
  ⟨some 1, .box 82 (.t 0), none⟩,
  ⟨some 2, .alloc 82 [(.int .i64 0), (.int .i64 0), (.int .u8 0), (.int .u8 0), (.int .u8 0), (.int .u8 0), (.int .u8 0), (.int .u8 0), (.int .u8 0), (.int .u8 0), (.int .u8 0), (.int .u8 0), (.int .u8 0), (.int .u8 0), (.int .u8 0), (.int .u8 0), (.int .u8 0), (.int .u8 0), (.int .u8 0), (.int .u8 0), (.int .u8 0), (.int .u8 0), (.int .i64 0), (.int .u8 0), (.int .u8 0), (.int .u8 0), (.int .u8 0), (.int .u8 0), (.int .u8 0), (.int .u8 0), (.int .u8 0), (.int .u8 0), (.int .u8 0), (.int .u8 0), (.int .u8 0), (.int .u8 0), (.int .u8 0), (.int .u8 0), (.int .u8 0), (.int .u8 0), (.int .u8 0), (.int .u8 0), (.int .u8 0), (.int .u64 0), (.int .u64 0), (.int .u64 0), (.int .u64 0)], none⟩] [])
 (.seq (.ops 1 false [
   ⟨some 3, .fieldA 0 (.t 1), none⟩,
   ⟨none, .store 1 (.t 3) (.c (.int .i64 0)), none⟩] [])
  (.seq (.ops 2 false [
    ⟨some 4, .fieldA 1 (.t 1), none⟩,
    ⟨some 5, .load (.t 4), none⟩,
    ⟨some 6, .call 74 [(.t 5), (.c (.int .i64 1099511627776))], none⟩,
    ⟨some 7, .fieldA 1 (.t 1), none⟩,
    ⟨none, .store 1 (.t 7) (.t 6), none⟩] [])
   (.seq (.ops 3 false [
     ⟨some 8, .fieldA 22 (.t 1), none⟩,
     ⟨some 9, .load (.t 8), none⟩,
     ⟨some 10, .call 74 [(.t 9), (.c (.int .i64 3))], none⟩,
     ⟨some 11, .fieldA 22 (.t 1), none⟩,
     ⟨none, .store 1 (.t 11) (.t 10), none⟩] [])
    (.seq (.seq (.ops 4 false [
       ⟨some 12, .fieldA 43 (.t 1), none⟩,
       ⟨some 13, .loadN 4 (.t 12), none⟩,
       ⟨some 14, .build [(.int .u64 0), (.int .u64 0), (.int .u64 0), (.int .u64 0)] [], none⟩,
       ⟨some 15, .eqn false 25 (.t 13) (.t 14), none⟩] [])
      (.cond (.t 15) (.ops 5 false [
        ⟨some 16, .fieldA 43 (.t 1), none⟩,
        ⟨some 17, .indexA 4 1 (.t 16) (.c (.int .i64 2)), none⟩,
        ⟨none, .store 1 (.t 17) (.c (.int .u64 5)), none⟩] [])
       (.skip)))
     (.seq (.ops 6 false [
       ⟨some 18, .loadN 47 (.t 1), none⟩,
       ⟨none, .store 47 (.t 2) (.t 18), none⟩] [])
      (.ret))))))
def rs72 : List RR := [.cell 2 (some 47)]
theorem fun72 : FunR Tryd.prog 72 rc72 rs72 19 := ⟨Tryd.f72, Tryd.func72, by kernel_rfl, by kernel_rfl, by kernel_rfl⟩
/-- (*causeway/causewaylaw09.holder).number -/
def rc73 : RC :=
 .seq (.ops 0 false [
  ⟨some 4, .val (.c (.int .i64 0)), none⟩] [])
 (.seq (.seq (.ops 1 false [
    ⟨some 5, .val (.t 0), none⟩,
    ⟨some 6, .nilCheck (.t 5), none⟩,
    ⟨some 7, .fieldA 1 (.t 6), none⟩,
    ⟨some 8, .load (.t 7), none⟩,
    ⟨some 9, .len (.t 8), none⟩,
    ⟨some 10, .bin .eql (.t 9) (.c (.int .i64 0)), none⟩,
    ⟨some 11, .val (.t 10), none⟩,
    ⟨some 12, .val (.t 1), some (11, false)⟩,
    ⟨some 13, .call 74 [(.t 12), (.c (.int .i64 7))], some (11, false)⟩,
    ⟨some 14, .bin .eql (.t 13) (.c (.int .i64 0)), some (11, false)⟩,
    ⟨some 15, .pick (.t 11) (.c (.bool true)) (.t 14), none⟩] [])
   (.cond (.t 15) (.seq (.ops 2 false [
      ⟨some 16, .val (.t 1), none⟩,
      ⟨some 4, .val (.t 16), none⟩] [])
     (.ret))
    (.skip)))
  (.seq (.ops 3 false [
    ⟨some 17, .val (.t 1), none⟩,
    ⟨some 18, .val (.t 0), none⟩,
    ⟨some 19, .nilCheck (.t 18), none⟩,
    ⟨some 20, .fieldA 1 (.t 19), none⟩,
    ⟨some 21, .load (.t 20), none⟩,
    ⟨some 22, .len (.t 21), none⟩,
    ⟨some 23, .call 74 [(.t 17), (.t 22)], none⟩,
    ⟨some 24, .bin .add (.c (.int .i64 1)) (.t 23), none⟩,
    ⟨some 4, .val (.t 24), none⟩] [])
   (.ret)))
def rs73 : List RR := [.tmp 4]
theorem fun73 : FunR Tryd.prog 73 rc73 rs73 25 := ⟨Tryd.f73, Tryd.func73, by kernel_rfl, by kernel_rfl, by kernel_rfl⟩
/-- causeway/causewaylaw09.pick -/
def rc74 : RC :=
 .seq (.ops 0 false [
  ⟨some 4, .val (.c (.int .i64 0)), none⟩] [])
 (.seq (.seq (.ops 1 false [
    ⟨some 5, .val (.t 0), none⟩,
    ⟨some 6, .bin .lss (.t 5) (.c (.int .i64 0)), none⟩] [])
   (.cond (.t 6) (.ops 2 false [
     ⟨some 7, .val (.t 0), none⟩,
     ⟨some 8, .bin .add (.t 7) (.c (.int .i64 1)), none⟩,
     ⟨some 9, .neg (.t 8), none⟩,
     ⟨some 0, .val (.t 9), none⟩] [])
    (.skip)))
  (.seq (.ops 3 false [
    ⟨some 10, .val (.t 0), none⟩,
    ⟨some 11, .val (.t 1), none⟩,
    ⟨some 12, .bin .rem (.t 10) (.t 11), none⟩,
    ⟨some 4, .val (.t 12), none⟩] [])
   (.ret)))
def rs74 : List RR := [.tmp 4]
theorem fun74 : FunR Tryd.prog 74 rc74 rs74 13 := ⟨Tryd.f74, Tryd.func74, by kernel_rfl, by kernel_rfl, by kernel_rfl⟩
/-- (*causeway/causewaylaw09.holder).opens -/
def rc75 : RC :=
 .seq (.ops 0 false [
  ⟨some 3, .box 82 (.t 1), none⟩,
  ⟨some 4, .val (.c (.bool false)), none⟩] [])
 (.seq (.ops 1 true [
   ⟨some 8, .val (.t 0), none⟩,
   ⟨some 9, .nilCheck (.t 8), none⟩,
   ⟨some 10, .fieldA 0 (.t 9), none⟩,
   ⟨some 11, .load (.t 10), none⟩,
   ⟨some 12, .loadN 47 (.t 3), none⟩,
   ⟨some 13, .call 69 [(.t 11), (.t 12)], none⟩,
   ⟨some 7, .val (.t 13), none⟩,
   ⟨some 14, .extract 0 (.t 7), none⟩,
   ⟨some 15, .extract 1 (.t 7), none⟩,
   ⟨some 5, .val (.t 14), none⟩,
   ⟨some 6, .val (.t 15), none⟩] [([], []), ([0], [0]), ([1], [1]), ([2], [2]), ([], []), ([3, 4], [3, 4]), ([5], [5]), ([6], [6]), ([6], [6]), ([7, 5, 0, 1, 2, 3, 4, 5, 6, 7], [7]), ([8, 9, 0, 1, 2, 3, 4, 5, 6, 7, 8, 9], [8])])
  (.seq (.seq (.ops 2 false [
     ⟨some 16, .val (.t 6), none⟩,
     ⟨some 17, .bin .neq (.t 16) (.c (.int .i64 0)), none⟩,
     ⟨some 18, .val (.t 17), none⟩,
     ⟨some 19, .val (.t 5), some (18, false)⟩,
     ⟨some 20, .val (.t 0), some (18, false)⟩,
     ⟨some 21, .nilCheck (.t 20), some (18, false)⟩,
     ⟨some 22, .fieldA 1 (.t 21), some (18, false)⟩,
     ⟨some 23, .load (.t 22), some (18, false)⟩,
     ⟨some 24, .len (.t 23), some (18, false)⟩,
     ⟨some 25, .bin .add (.t 24) (.c (.int .i64 1)), some (18, false)⟩,
     ⟨some 26, .bin .neq (.t 19) (.t 25), some (18, false)⟩,
     ⟨some 27, .pick (.t 18) (.c (.bool true)) (.t 26), none⟩] [])
    (.cond (.t 27) (.seq (.ops 3 false [
       ⟨some 4, .val (.c (.bool false)), none⟩] [])
      (.ret))
     (.skip)))
   (.seq (.ops 4 false [
     ⟨some 28, .val (.t 5), none⟩,
     ⟨some 29, .fieldA 0 (.t 3), none⟩,
     ⟨none, .store 1 (.t 29) (.t 28), none⟩] [])
    (.seq (.ops 5 true [
      ⟨some 30, .val (.t 0), none⟩,
      ⟨some 31, .val (.t 0), none⟩,
      ⟨some 32, .nilCheck (.t 31), none⟩,
      ⟨some 33, .fieldA 1 (.t 32), none⟩,
      ⟨some 34, .load (.t 33), none⟩,
      ⟨some 35, .loadN 47 (.t 3), none⟩,
      ⟨some 36, .buildS 82 1 [(.int .i64 0), (.int .i64 0), (.int .u8 0), (.int .u8 0), (.int .u8 0), (.int .u8 0), (.int .u8 0), (.int .u8 0), (.int .u8 0), (.int .u8 0), (.int .u8 0), (.int .u8 0), (.int .u8 0), (.int .u8 0), (.int .u8 0), (.int .u8 0), (.int .u8 0), (.int .u8 0), (.int .u8 0), (.int .u8 0), (.int .u8 0), (.int .u8 0), (.int .i64 0), (.int .u8 0), (.int .u8 0), (.int .u8 0), (.int .u8 0), (.int .u8 0), (.int .u8 0), (.int .u8 0), (.int .u8 0), (.int .u8 0), (.int .u8 0), (.int .u8 0), (.int .u8 0), (.int .u8 0), (.int .u8 0), (.int .u8 0), (.int .u8 0), (.int .u8 0), (.int .u8 0), (.int .u8 0), (.int .u8 0), (.int .u64 0), (.int .u64 0), (.int .u64 0), (.int .u64 0)] [(0, 47, (.t 35))], none⟩,
      ⟨some 37, .blt .append #[75, 75] 75 [(.t 34), (.t 36)], none⟩,
      ⟨some 38, .nilCheck (.t 30), none⟩,
      ⟨some 39, .fieldA 1 (.t 38), none⟩,
      ⟨none, .store 1 (.t 39) (.t 37), none⟩] [([], []), ([], []), ([1], [1]), ([2], [2]), ([3], [3]), ([], []), ([5], [5]), ([4, 6], [4, 6]), ([0, 0, 1, 2, 3, 4, 5, 6, 7], [0]), ([8, 0, 1, 2, 3, 4, 5, 6, 7], [8]), ([9, 7, 7, 0, 1, 2, 3, 4, 5, 6, 7], [7, 9])])
     (.seq (.ops 6 false [
       ⟨some 40, .val (.t 0), none⟩,
       ⟨some 41, .val (.t 0), none⟩,
       ⟨some 42, .nilCheck (.t 41), none⟩,
       ⟨some 43, .fieldA 2 (.t 42), none⟩,
       ⟨some 44, .load (.t 43), none⟩,
       ⟨some 45, .buildS 4 1 [(.bool false)] [(0, 1, (.c (.bool false)))], none⟩,
       ⟨some 46, .blt .append #[73, 73] 73 [(.t 44), (.t 45)], none⟩,
       ⟨some 47, .nilCheck (.t 40), none⟩,
       ⟨some 48, .fieldA 2 (.t 47), none⟩,
       ⟨none, .store 1 (.t 48) (.t 46), none⟩] [])
      (.seq (.ops 7 true [
        ⟨some 49, .val (.t 0), none⟩,
        ⟨some 50, .fieldA 22 (.t 3), none⟩,
        ⟨some 51, .load (.t 50), none⟩,
        ⟨some 52, .val (.t 0), none⟩,
        ⟨some 53, .fieldA 22 (.t 3), none⟩,
        ⟨some 54, .load (.t 53), none⟩,
        ⟨some 55, .nilCheck (.t 52), none⟩,
        ⟨some 56, .fieldA 3 (.t 55), none⟩,
        ⟨some 57, .indexA 3 5 (.t 56) (.t 54), none⟩,
        ⟨some 58, .loadN 5 (.t 57), none⟩,
        ⟨some 59, .fieldA 43 (.t 3), none⟩,
        ⟨some 60, .loadN 4 (.t 59), none⟩,
        ⟨some 61, .call 81 [(.t 58), (.t 60), (.c (.bool false))], none⟩,
        ⟨some 62, .nilCheck (.t 49), none⟩,
        ⟨some 63, .fieldA 3 (.t 62), none⟩,
        ⟨some 64, .indexA 3 5 (.t 63) (.t 51), none⟩,
        ⟨none, .store 5 (.t 64) (.t 61), none⟩] [([], []), ([], []), ([1], [1]), ([], []), ([], []), ([4], [4]), ([3], [3]), ([6], [6]), ([7, 5], [5, 7]), ([8], [8]), ([], []), ([10], [10]), ([9, 11], [9, 11]), ([0], [0]), ([13], [13]), ([14, 2, 0, 1, 2, 3, 4, 5, 6, 7, 8, 9, 10, 11, 12], [2, 14]), ([15, 12, 12, 0, 1, 2, 3, 4, 5, 6, 7, 8, 9, 10, 11, 12], [12, 15])])
       (.seq (.ops 8 false [
         ⟨some 4, .val (.c (.bool true)), none⟩] [])
        (.ret))))))))
def rs75 : List RR := [.tmp 4]
theorem fun75 : FunR Tryd.prog 75 rc75 rs75 65 := ⟨Tryd.f75, Tryd.func75, by kernel_rfl, by kernel_rfl, by kernel_rfl⟩
/-- (*causeway/causewaylaw09.holder).retries -/
def rc76 : RC :=
 .seq (.ops 0 false [
  ⟨some 4, .val (.c (.bool false)), none⟩] [])
 (.seq (.ops 1 false [
   ⟨some 6, .val (.t 0), none⟩,
   ⟨some 7, .nilCheck (.t 6), none⟩,
   ⟨some 8, .fieldA 0 (.t 7), none⟩,
   ⟨some 9, .load (.t 8), none⟩,
   ⟨some 10, .val (.t 1), none⟩,
   ⟨some 11, .call 105 [(.t 9), (.t 10)], none⟩,
   ⟨some 5, .val (.t 11), none⟩] [])
  (.seq (.seq (.ops 2 false [
     ⟨some 12, .val (.t 0), none⟩,
     ⟨some 13, .val (.t 1), none⟩,
     ⟨some 14, .call 77 [(.t 12), (.t 13)], none⟩,
     ⟨some 15, .not (.t 14), none⟩] [])
    (.cond (.t 15) (.seq (.ops 3 false [
       ⟨some 16, .val (.t 5), none⟩,
       ⟨some 17, .bin .eql (.t 16) (.c (.int .i64 90)), none⟩,
       ⟨some 4, .val (.t 17), none⟩] [])
      (.ret))
     (.skip)))
   (.seq (.seq (.ops 4 false [
      ⟨some 18, .val (.t 5), none⟩,
      ⟨some 19, .bin .eql (.t 18) (.c (.int .i64 0)), none⟩] [])
     (.cond (.t 19) (.seq (.ops 5 false [
        ⟨some 20, .val (.t 0), none⟩,
        ⟨some 21, .nilCheck (.t 20), none⟩,
        ⟨some 22, .fieldA 2 (.t 21), none⟩,
        ⟨some 23, .load (.t 22), none⟩,
        ⟨some 24, .val (.t 1), none⟩,
        ⟨some 25, .bin .sub (.t 24) (.c (.int .i64 1)), none⟩,
        ⟨some 26, .indexS 1 (.t 23) (.t 25), none⟩,
        ⟨none, .store 1 (.t 26) (.c (.bool true)), none⟩] [])
       (.seq (.ops 6 false [
         ⟨some 4, .val (.c (.bool true)), none⟩] [])
        (.ret)))
      (.skip)))
    (.seq (.ops 7 false [
      ⟨some 27, .val (.t 5), none⟩,
      ⟨some 28, .bin .eql (.t 27) (.c (.int .i64 81)), none⟩,
      ⟨some 29, .val (.t 28), none⟩,
      ⟨some 30, .val (.t 5), some (29, false)⟩,
      ⟨some 31, .bin .eql (.t 30) (.c (.int .i64 83)), some (29, false)⟩,
      ⟨some 32, .pick (.t 29) (.c (.bool true)) (.t 31), none⟩,
      ⟨some 33, .val (.t 32), none⟩,
      ⟨some 34, .val (.t 5), some (33, false)⟩,
      ⟨some 35, .bin .eql (.t 34) (.c (.int .i64 87)), some (33, false)⟩,
      ⟨some 36, .pick (.t 33) (.c (.bool true)) (.t 35), none⟩,
      ⟨some 4, .val (.t 36), none⟩] [])
     (.ret)))))
def rs76 : List RR := [.tmp 4]
theorem fun76 : FunR Tryd.prog 76 rc76 rs76 37 := ⟨Tryd.f76, Tryd.func76, by kernel_rfl, by kernel_rfl, by kernel_rfl⟩
/-- (*causeway/causewaylaw09.holder).open -/
def rc77 : RC :=
 .seq (.ops 0 false [
  ⟨some 4, .val (.c (.bool false)), none⟩] [])
 (.seq (.ops 1 false [
   ⟨some 5, .val (.t 1), none⟩,
   ⟨some 6, .bin .geq (.t 5) (.c (.int .i64 1)), none⟩,
   ⟨some 7, .val (.t 6), none⟩,
   ⟨some 8, .val (.t 1), some (7, true)⟩,
   ⟨some 9, .val (.t 0), some (7, true)⟩,
   ⟨some 10, .nilCheck (.t 9), some (7, true)⟩,
   ⟨some 11, .fieldA 1 (.t 10), some (7, true)⟩,
   ⟨some 12, .load (.t 11), some (7, true)⟩,
   ⟨some 13, .len (.t 12), some (7, true)⟩,
   ⟨some 14, .bin .leq (.t 8) (.t 13), some (7, true)⟩,
   ⟨some 15, .pick (.t 7) (.t 14) (.c (.bool false)), none⟩,
   ⟨some 16, .val (.t 15), none⟩,
   ⟨some 17, .val (.t 0), some (16, true)⟩,
   ⟨some 18, .nilCheck (.t 17), some (16, true)⟩,
   ⟨some 19, .fieldA 2 (.t 18), some (16, true)⟩,
   ⟨some 20, .load (.t 19), some (16, true)⟩,
   ⟨some 21, .val (.t 1), some (16, true)⟩,
   ⟨some 22, .bin .sub (.t 21) (.c (.int .i64 1)), some (16, true)⟩,
   ⟨some 23, .indexS 1 (.t 20) (.t 22), some (16, true)⟩,
   ⟨some 24, .load (.t 23), some (16, true)⟩,
   ⟨some 25, .not (.t 24), some (16, true)⟩,
   ⟨some 26, .pick (.t 16) (.t 25) (.c (.bool false)), none⟩,
   ⟨some 4, .val (.t 26), none⟩] [])
  (.ret))
def rs77 : List RR := [.tmp 4]
theorem fun77 : FunR Tryd.prog 77 rc77 rs77 27 := ⟨Tryd.f77, Tryd.func77, by kernel_rfl, by kernel_rfl, by kernel_rfl⟩
/-- (*causeway/causewaylaw09.holder).cancels -/
def rc78 : RC :=
 .seq (.ops 0 false [
  ⟨some 5, .box 33 (.t 2), none⟩,
  ⟨some 6, .val (.c (.bool false)), none⟩] [])
 (.seq (.ops 1 true [
   ⟨some 11, .val (.t 0), none⟩,
   ⟨some 12, .nilCheck (.t 11), none⟩,
   ⟨some 13, .fieldA 0 (.t 12), none⟩,
   ⟨some 14, .load (.t 13), none⟩,
   ⟨some 15, .val (.t 1), none⟩,
   ⟨some 16, .loadN 20 (.t 5), none⟩,
   ⟨some 17, .call 71 [(.t 14), (.t 15), (.t 16)], none⟩,
   ⟨some 10, .val (.t 17), none⟩,
   ⟨some 18, .extract 0 (.t 10), none⟩,
   ⟨some 19, .extract 1 (.t 10), none⟩,
   ⟨some 7, .alloc 82 [(.int .i64 0), (.int .i64 0), (.int .u8 0), (.int .u8 0), (.int .u8 0), (.int .u8 0), (.int .u8 0), (.int .u8 0), (.int .u8 0), (.int .u8 0), (.int .u8 0), (.int .u8 0), (.int .u8 0), (.int .u8 0), (.int .u8 0), (.int .u8 0), (.int .u8 0), (.int .u8 0), (.int .u8 0), (.int .u8 0), (.int .u8 0), (.int .u8 0), (.int .i64 0), (.int .u8 0), (.int .u8 0), (.int .u8 0), (.int .u8 0), (.int .u8 0), (.int .u8 0), (.int .u8 0), (.int .u8 0), (.int .u8 0), (.int .u8 0), (.int .u8 0), (.int .u8 0), (.int .u8 0), (.int .u8 0), (.int .u8 0), (.int .u8 0), (.int .u8 0), (.int .u8 0), (.int .u8 0), (.int .u8 0), (.int .u64 0), (.int .u64 0), (.int .u64 0), (.int .u64 0)], none⟩,
   ⟨none, .store 47 (.t 7) (.t 18), none⟩,
   ⟨some 8, .val (.t 19), none⟩] [([], []), ([0], [0]), ([1], [1]), ([2], [2]), ([], []), ([], []), ([3, 4, 5], [3, 4, 5]), ([6], [6]), ([7], [7]), ([7], [7]), ([], []), ([10, 8, 6, 0, 1, 2, 3, 4, 5, 6, 7, 8, 10], [8, 10]), ([9, 11, 0, 1, 2, 3, 4, 5, 6, 7, 8, 9, 10, 11], [9])])
  (.seq (.seq (.ops 2 false [
     ⟨some 20, .val (.t 0), none⟩,
     ⟨some 21, .val (.t 1), none⟩,
     ⟨some 22, .call 77 [(.t 20), (.t 21)], none⟩,
     ⟨some 23, .not (.t 22), none⟩] [])
    (.cond (.t 23) (.seq (.ops 3 false [
       ⟨some 24, .val (.t 8), none⟩,
       ⟨some 25, .bin .eql (.t 24) (.c (.int .i64 90)), none⟩,
       ⟨some 26, .val (.t 25), none⟩,
       ⟨some 27, .loadN 47 (.t 7), some (26, true)⟩,
       ⟨some 28, .build [(.int .i64 0), (.int .i64 0), (.int .u8 0), (.int .u8 0), (.int .u8 0), (.int .u8 0), (.int .u8 0), (.int .u8 0), (.int .u8 0), (.int .u8 0), (.int .u8 0), (.int .u8 0), (.int .u8 0), (.int .u8 0), (.int .u8 0), (.int .u8 0), (.int .u8 0), (.int .u8 0), (.int .u8 0), (.int .u8 0), (.int .u8 0), (.int .u8 0), (.int .i64 0), (.int .u8 0), (.int .u8 0), (.int .u8 0), (.int .u8 0), (.int .u8 0), (.int .u8 0), (.int .u8 0), (.int .u8 0), (.int .u8 0), (.int .u8 0), (.int .u8 0), (.int .u8 0), (.int .u8 0), (.int .u8 0), (.int .u8 0), (.int .u8 0), (.int .u8 0), (.int .u8 0), (.int .u8 0), (.int .u8 0), (.int .u64 0), (.int .u64 0), (.int .u64 0), (.int .u64 0)] [], some (26, true)⟩,
       ⟨some 29, .eqn false 82 (.t 27) (.t 28), some (26, true)⟩,
       ⟨some 30, .pick (.t 26) (.t 29) (.c (.bool false)), none⟩,
       ⟨some 6, .val (.t 30), none⟩] [])
      (.ret))
     (.skip)))
   (.seq (.ops 4 false [
     ⟨some 31, .val (.t 0), none⟩,
     ⟨some 32, .nilCheck (.t 31), none⟩,
     ⟨some 33, .fieldA 1 (.t 32), none⟩,
     ⟨some 34, .load (.t 33), none⟩,
     ⟨some 35, .val (.t 1), none⟩,
     ⟨some 36, .bin .sub (.t 35) (.c (.int .i64 1)), none⟩,
     ⟨some 37, .indexS 47 (.t 34) (.t 36), none⟩,
     ⟨some 38, .loadN 47 (.t 37), none⟩,
     ⟨some 9, .alloc 82 [(.int .i64 0), (.int .i64 0), (.int .u8 0), (.int .u8 0), (.int .u8 0), (.int .u8 0), (.int .u8 0), (.int .u8 0), (.int .u8 0), (.int .u8 0), (.int .u8 0), (.int .u8 0), (.int .u8 0), (.int .u8 0), (.int .u8 0), (.int .u8 0), (.int .u8 0), (.int .u8 0), (.int .u8 0), (.int .u8 0), (.int .u8 0), (.int .u8 0), (.int .i64 0), (.int .u8 0), (.int .u8 0), (.int .u8 0), (.int .u8 0), (.int .u8 0), (.int .u8 0), (.int .u8 0), (.int .u8 0), (.int .u8 0), (.int .u8 0), (.int .u8 0), (.int .u8 0), (.int .u8 0), (.int .u8 0), (.int .u8 0), (.int .u8 0), (.int .u8 0), (.int .u8 0), (.int .u8 0), (.int .u8 0), (.int .u64 0), (.int .u64 0), (.int .u64 0), (.int .u64 0)], none⟩,
     ⟨none, .store 47 (.t 9) (.t 38), none⟩] [])
    (.seq (.seq (.ops 5 false [
       ⟨some 39, .loadN 20 (.t 5), none⟩,
       ⟨some 40, .fieldA 2 (.t 9), none⟩,
       ⟨some 41, .loadN 20 (.t 40), none⟩,
       ⟨some 42, .eqn true 33 (.t 39) (.t 41), none⟩] [])
      (.cond (.t 42) (.seq (.ops 6 false [
         ⟨some 43, .val (.t 8), none⟩,
         ⟨some 44, .bin .eql (.t 43) (.c (.int .i64 91)), none⟩,
         ⟨some 45, .val (.t 44), none⟩,
         ⟨some 46, .loadN 47 (.t 7), some (45, true)⟩,
         ⟨some 47, .build [(.int .i64 0), (.int .i64 0), (.int .u8 0), (.int .u8 0), (.int .u8 0), (.int .u8 0), (.int .u8 0), (.int .u8 0), (.int .u8 0), (.int .u8 0), (.int .u8 0), (.int .u8 0), (.int .u8 0), (.int .u8 0), (.int .u8 0), (.int .u8 0), (.int .u8 0), (.int .u8 0), (.int .u8 0), (.int .u8 0), (.int .u8 0), (.int .u8 0), (.int .i64 0), (.int .u8 0), (.int .u8 0), (.int .u8 0), (.int .u8 0), (.int .u8 0), (.int .u8 0), (.int .u8 0), (.int .u8 0), (.int .u8 0), (.int .u8 0), (.int .u8 0), (.int .u8 0), (.int .u8 0), (.int .u8 0), (.int .u8 0), (.int .u8 0), (.int .u8 0), (.int .u8 0), (.int .u8 0), (.int .u8 0), (.int .u64 0), (.int .u64 0), (.int .u64 0), (.int .u64 0)] [], some (45, true)⟩,
         ⟨some 48, .eqn false 82 (.t 46) (.t 47), some (45, true)⟩,
         ⟨some 49, .pick (.t 45) (.t 48) (.c (.bool false)), none⟩,
         ⟨some 6, .val (.t 49), none⟩] [])
        (.ret))
       (.skip)))
     (.seq (.ops 7 false [
       ⟨some 50, .val (.t 0), none⟩,
       ⟨some 51, .nilCheck (.t 50), none⟩,
       ⟨some 52, .fieldA 2 (.t 51), none⟩,
       ⟨some 53, .load (.t 52), none⟩,
       ⟨some 54, .val (.t 1), none⟩,
       ⟨some 55, .bin .sub (.t 54) (.c (.int .i64 1)), none⟩,
       ⟨some 56, .indexS 1 (.t 53) (.t 55), none⟩,
       ⟨none, .store 1 (.t 56) (.c (.bool true)), none⟩] [])
      (.seq (.ops 8 true [
        ⟨some 57, .val (.t 0), none⟩,
        ⟨some 58, .fieldA 22 (.t 9), none⟩,
        ⟨some 59, .load (.t 58), none⟩,
        ⟨some 60, .val (.t 0), none⟩,
        ⟨some 61, .fieldA 22 (.t 9), none⟩,
        ⟨some 62, .load (.t 61), none⟩,
        ⟨some 63, .nilCheck (.t 60), none⟩,
        ⟨some 64, .fieldA 3 (.t 63), none⟩,
        ⟨some 65, .indexA 3 5 (.t 64) (.t 62), none⟩,
        ⟨some 66, .loadN 5 (.t 65), none⟩,
        ⟨some 67, .fieldA 43 (.t 9), none⟩,
        ⟨some 68, .loadN 4 (.t 67), none⟩,
        ⟨some 69, .call 81 [(.t 66), (.t 68), (.c (.bool true))], none⟩,
        ⟨some 70, .nilCheck (.t 57), none⟩,
        ⟨some 71, .fieldA 3 (.t 70), none⟩,
        ⟨some 72, .indexA 3 5 (.t 71) (.t 59), none⟩,
        ⟨none, .store 5 (.t 72) (.t 69), none⟩] [([], []), ([], []), ([1], [1]), ([], []), ([], []), ([4], [4]), ([3], [3]), ([6], [6]), ([7, 5], [5, 7]), ([8], [8]), ([], []), ([10], [10]), ([9, 11], [9, 11]), ([0], [0]), ([13], [13]), ([14, 2, 0, 1, 2, 3, 4, 5, 6, 7, 8, 9, 10, 11, 12], [2, 14]), ([15, 12, 12, 0, 1, 2, 3, 4, 5, 6, 7, 8, 9, 10, 11, 12], [12, 15])])
       (.seq (.ops 9 false [
         ⟨some 73, .val (.t 8), none⟩,
         ⟨some 74, .bin .eql (.t 73) (.c (.int .i64 0)), none⟩,
         ⟨some 75, .val (.t 74), none⟩,
         ⟨some 76, .loadN 47 (.t 7), some (75, true)⟩,
         ⟨some 77, .loadN 47 (.t 9), some (75, true)⟩,
         ⟨some 78, .eqn false 82 (.t 76) (.t 77), some (75, true)⟩,
         ⟨some 79, .pick (.t 75) (.t 78) (.c (.bool false)), none⟩,
         ⟨some 6, .val (.t 79), none⟩] [])
        (.ret))))))))
def rs78 : List RR := [.tmp 6]
theorem fun78 : FunR Tryd.prog 78 rc78 rs78 80 := ⟨Tryd.f78, Tryd.func78, by kernel_rfl, by kernel_rfl, by kernel_rfl⟩
/-- (*causeway/causewaylaw09.holder).mints -/
def rc79 : RC :=
 .seq (.ops 0 false [
  ⟨some 3, .box 82 (.t 1), none⟩] [])
 (.seq (.ops 1 true [
   ⟨some 5, .val (.t 0), none⟩,
   ⟨some 6, .nilCheck (.t 5), none⟩,
   ⟨some 7, .fieldA 0 (.t 6), none⟩,
   ⟨some 8, .load (.t 7), none⟩,
   ⟨some 9, .fieldA 22 (.t 3), none⟩,
   ⟨some 10, .load (.t 9), none⟩,
   ⟨some 11, .fieldA 23 (.t 3), none⟩,
   ⟨some 12, .loadN 20 (.t 11), none⟩,
   ⟨some 13, .fieldA 43 (.t 3), none⟩,
   ⟨some 14, .loadN 4 (.t 13), none⟩,
   ⟨some 15, .call 13 [(.t 8), (.t 10), (.t 12), (.t 14)], none⟩,
   ⟨some 4, .val (.t 15), none⟩] [([], []), ([0], [0]), ([1], [1]), ([2], [2]), ([], []), ([4], [4]), ([], []), ([6], [6]), ([], []), ([8], [8]), ([3, 5, 7, 9], [3, 5, 7, 9]), ([10, 10, 0, 1, 2, 3, 4, 5, 6, 7, 8, 9, 10], [10])])
  (.seq (.ops 2 false [
    ⟨some 16, .val (.t 4), none⟩,
    ⟨some 17, .bin .eql (.t 16) (.c (.int .i64 0)), none⟩] [])
   (.cond (.t 17) (.ops 3 true [
     ⟨some 18, .val (.t 0), none⟩,
     ⟨some 19, .fieldA 22 (.t 3), none⟩,
     ⟨some 20, .load (.t 19), none⟩,
     ⟨some 21, .val (.t 0), none⟩,
     ⟨some 22, .fieldA 22 (.t 3), none⟩,
     ⟨some 23, .load (.t 22), none⟩,
     ⟨some 24, .nilCheck (.t 21), none⟩,
     ⟨some 25, .fieldA 3 (.t 24), none⟩,
     ⟨some 26, .indexA 3 5 (.t 25) (.t 23), none⟩,
     ⟨some 27, .loadN 5 (.t 26), none⟩,
     ⟨some 28, .fieldA 43 (.t 3), none⟩,
     ⟨some 29, .loadN 4 (.t 28), none⟩,
     ⟨some 30, .call 81 [(.t 27), (.t 29), (.c (.bool false))], none⟩,
     ⟨some 31, .nilCheck (.t 18), none⟩,
     ⟨some 32, .fieldA 3 (.t 31), none⟩,
     ⟨some 33, .indexA 3 5 (.t 32) (.t 20), none⟩,
     ⟨none, .store 5 (.t 33) (.t 30), none⟩] [([], []), ([], []), ([1], [1]), ([], []), ([], []), ([4], [4]), ([3], [3]), ([6], [6]), ([7, 5], [5, 7]), ([8], [8]), ([], []), ([10], [10]), ([9, 11], [9, 11]), ([0], [0]), ([13], [13]), ([14, 2, 0, 1, 2, 3, 4, 5, 6, 7, 8, 9, 10, 11, 12], [2, 14]), ([15, 12, 12, 0, 1, 2, 3, 4, 5, 6, 7, 8, 9, 10, 11, 12], [12, 15])])
    (.skip))))
def rs79 : List RR := []
theorem fun79 : FunR Tryd.prog 79 rc79 rs79 34 := ⟨Tryd.f79, Tryd.func79, by kernel_rfl, by kernel_rfl, by kernel_rfl⟩
/-- (*causeway/causewaylaw09.holder).burns -/
def rc80 : RC :=
 .seq (.ops 0 false [
  ⟨some 3, .box 82 (.t 1), none⟩] [])
 (.seq (.ops 1 true [
   ⟨some 5, .val (.t 0), none⟩,
   ⟨some 6, .nilCheck (.t 5), none⟩,
   ⟨some 7, .fieldA 0 (.t 6), none⟩,
   ⟨some 8, .load (.t 7), none⟩,
   ⟨some 9, .fieldA 22 (.t 3), none⟩,
   ⟨some 10, .load (.t 9), none⟩,
   ⟨some 11, .fieldA 23 (.t 3), none⟩,
   ⟨some 12, .loadN 20 (.t 11), none⟩,
   ⟨some 13, .fieldA 43 (.t 3), none⟩,
   ⟨some 14, .loadN 4 (.t 13), none⟩,
   ⟨some 15, .call 20 [(.t 8), (.t 10), (.t 12), (.t 14)], none⟩,
   ⟨some 4, .val (.t 15), none⟩] [([], []), ([0], [0]), ([1], [1]), ([2], [2]), ([], []), ([4], [4]), ([], []), ([6], [6]), ([], []), ([8], [8]), ([3, 5, 7, 9], [3, 5, 7, 9]), ([10, 10, 0, 1, 2, 3, 4, 5, 6, 7, 8, 9, 10], [10])])
  (.seq (.ops 2 false [
    ⟨some 16, .val (.t 4), none⟩,
    ⟨some 17, .bin .eql (.t 16) (.c (.int .i64 0)), none⟩] [])
   (.cond (.t 17) (.ops 3 true [
     ⟨some 18, .val (.t 0), none⟩,
     ⟨some 19, .fieldA 22 (.t 3), none⟩,
     ⟨some 20, .load (.t 19), none⟩,
     ⟨some 21, .val (.t 0), none⟩,
     ⟨some 22, .fieldA 22 (.t 3), none⟩,
     ⟨some 23, .load (.t 22), none⟩,
     ⟨some 24, .nilCheck (.t 21), none⟩,
     ⟨some 25, .fieldA 3 (.t 24), none⟩,
     ⟨some 26, .indexA 3 5 (.t 25) (.t 23), none⟩,
     ⟨some 27, .loadN 5 (.t 26), none⟩,
     ⟨some 28, .fieldA 43 (.t 3), none⟩,
     ⟨some 29, .loadN 4 (.t 28), none⟩,
     ⟨some 30, .call 81 [(.t 27), (.t 29), (.c (.bool true))], none⟩,
     ⟨some 31, .nilCheck (.t 18), none⟩,
     ⟨some 32, .fieldA 3 (.t 31), none⟩,
     ⟨some 33, .indexA 3 5 (.t 32) (.t 20), none⟩,
     ⟨none, .store 5 (.t 33) (.t 30), none⟩] [([], []), ([], []), ([1], [1]), ([], []), ([], []), ([4], [4]), ([3], [3]), ([6], [6]), ([7, 5], [5, 7]), ([8], [8]), ([], []), ([10], [10]), ([9, 11], [9, 11]), ([0], [0]), ([13], [13]), ([14, 2, 0, 1, 2, 3, 4, 5, 6, 7, 8, 9, 10, 11, 12], [2, 14]), ([15, 12, 12, 0, 1, 2, 3, 4, 5, 6, 7, 8, 9, 10, 11, 12], [12, 15])])
    (.skip))))
def rs80 : List RR := []
theorem fun80 : FunR Tryd.prog 80 rc80 rs80 34 := ⟨Tryd.f80, Tryd.func80, by kernel_rfl, by kernel_rfl, by kernel_rfl⟩
/-- causeway/causewaylaw09.grown -/
def rc81 : RC :=
 .seq (.ops 0 false [
  ⟨some 3, .box 76 (.t 0), none⟩,
  ⟨some 4, .box 25 (.t 1), none⟩,
  ⟨some 6, .alloc 76 (List.replicate 5 (.int .u64 0)), none⟩] [])
 (.seq (.ops 1 false [
   ⟨some 7, .val (.c (.int .u64 0)), none⟩] [])
  (.seq (.seq (.ops 2 false [
     ⟨some 8, .val (.c (.int .i64 0)), none⟩] [])
    (.block 0 (.loop (.seq (.seq (.ops 3 false [
         ⟨some 11, .val (.t 8), none⟩,
         ⟨some 12, .bin .lss (.t 11) (.c (.int .i64 5)), none⟩] [])
        (.cond (.t 12) (.skip)
         (.exit 0)))
       (.seq (.block 1 (.seq (.ops 5 false [
           ⟨some 15, .val (.t 7), none⟩,
           ⟨some 9, .val (.t 15), none⟩] [])
          (.seq (.seq (.ops 6 false [
             ⟨some 16, .val (.t 8), none⟩,
             ⟨some 17, .bin .lss (.t 16) (.c (.int .i64 4)), none⟩] [])
            (.cond (.t 17) (.seq (.ops 7 false [
               ⟨some 18, .val (.t 8), none⟩,
               ⟨some 19, .indexA 4 1 (.t 4) (.t 18), none⟩,
               ⟨some 20, .load (.t 19), none⟩,
               ⟨some 10, .val (.t 20), none⟩] [])
              (.seq (.ops 8 false [
                ⟨some 21, .val (.t 10), none⟩,
                ⟨some 22, .val (.t 7), none⟩,
                ⟨some 23, .bin .add (.t 21) (.t 22), none⟩,
                ⟨some 9, .val (.t 23), none⟩] [])
               (.seq (.ops 9 false [
                 ⟨some 24, .val (.t 9), none⟩,
                 ⟨some 25, .val (.t 10), none⟩,
                 ⟨some 26, .bin .lss (.t 24) (.t 25), none⟩] [])
                (.cond (.t 26) (.exit 1)
                 (.skip)))))
             (.skip)))
           (.seq (.ops 10 false [
             ⟨some 27, .val (.t 2), none⟩] [])
            (.cond (.t 27) (.seq (.ops 11 false [
               ⟨some 7, .val (.c (.int .u64 0)), none⟩] [])
              (.seq (.seq (.ops 12 false [
                 ⟨some 28, .val (.t 8), none⟩,
                 ⟨some 29, .indexA 5 1 (.t 3) (.t 28), none⟩,
                 ⟨some 30, .load (.t 29), none⟩,
                 ⟨some 31, .val (.t 9), none⟩,
                 ⟨some 32, .bin .lss (.t 30) (.t 31), none⟩] [])
                (.cond (.t 32) (.ops 13 false [
                  ⟨some 7, .val (.c (.int .u64 1)), none⟩] [])
                 (.skip)))
               (.ops 14 false [
                ⟨some 33, .val (.t 8), none⟩,
                ⟨some 34, .val (.t 8), none⟩,
                ⟨some 35, .indexA 5 1 (.t 3) (.t 34), none⟩,
                ⟨some 36, .load (.t 35), none⟩,
                ⟨some 37, .val (.t 9), none⟩,
                ⟨some 38, .bin .sub (.t 36) (.t 37), none⟩,
                ⟨some 39, .indexA 5 1 (.t 3) (.t 33), none⟩,
                ⟨none, .store 1 (.t 39) (.t 38), none⟩] [])))
             (.seq (.ops 15 false [
               ⟨some 40, .val (.t 8), none⟩,
               ⟨some 41, .val (.t 8), none⟩,
               ⟨some 42, .indexA 5 1 (.t 3) (.t 41), none⟩,
               ⟨some 43, .load (.t 42), none⟩,
               ⟨some 44, .val (.t 9), none⟩,
               ⟨some 45, .bin .add (.t 43) (.t 44), none⟩,
               ⟨some 46, .indexA 5 1 (.t 3) (.t 40), none⟩,
               ⟨none, .store 1 (.t 46) (.t 45), none⟩] [])
              (.seq (.ops 16 false [
                ⟨some 7, .val (.c (.int .u64 0)), none⟩] [])
               (.seq (.ops 17 false [
                 ⟨some 47, .val (.t 8), none⟩,
                 ⟨some 48, .indexA 5 1 (.t 3) (.t 47), none⟩,
                 ⟨some 49, .load (.t 48), none⟩,
                 ⟨some 50, .val (.t 9), none⟩,
                 ⟨some 51, .bin .lss (.t 49) (.t 50), none⟩] [])
                (.cond (.t 51) (.ops 18 false [
                  ⟨some 7, .val (.c (.int .u64 1)), none⟩] [])
                 (.skip))))))))))
        (.ops 4 false [
         ⟨some 13, .val (.t 8), none⟩,
         ⟨some 14, .bin .add (.t 13) (.c (.int .i64 1)), none⟩,
         ⟨some 8, .val (.t 14), none⟩] []))))))
   (.seq (.ops 19 false [
     ⟨some 52, .loadN 5 (.t 3), none⟩,
     ⟨none, .store 5 (.t 6) (.t 52), none⟩] [])
    (.ret))))
def rs81 : List RR := [.cell 6 (some 5)]
theorem fun81 : FunR Tryd.prog 81 rc81 rs81 53 := ⟨Tryd.f81, Tryd.func81, by kernel_rfl, by kernel_rfl, by kernel_rfl⟩
/-- causeway/ticket.Made -/
def rc82 : RC :=
 .seq (.ops 0 false [
  ⟨some 2, .val (.c (.int .i64 0)), none⟩,
  ⟨some 3, .val (.c (.int .i64 0)), none⟩] [])
 (.seq (.seq (.ops 1 false [
    ⟨some 7, .val (.t 0), none⟩,
    ⟨some 8, .eqp .ptr false (.t 7) (.c (.pointer none)), none⟩] [])
   (.cond (.t 8) (.seq (.ops 2 false [
      ⟨some 2, .val (.c (.int .i64 0)), none⟩,
      ⟨some 3, .val (.c (.int .i64 1)), none⟩] [])
     (.ret))
    (.skip)))
  (.seq (.ops 3 false [
    ⟨some 10, .val (.t 0), none⟩,
    ⟨some 11, .call 40 [(.t 10), (.c (.string ⟨#[110, 116]⟩))], none⟩,
    ⟨some 9, .val (.t 11), none⟩,
    ⟨some 12, .extract 0 (.t 9), none⟩,
    ⟨some 13, .extract 1 (.t 9), none⟩,
    ⟨some 4, .val (.t 12), none⟩,
    ⟨some 5, .val (.t 13), none⟩] [])
   (.seq (.seq (.ops 4 false [
      ⟨some 14, .val (.t 5), none⟩,
      ⟨some 15, .bin .neq (.t 14) (.c (.int .i64 0)), none⟩,
      ⟨some 16, .val (.t 15), none⟩,
      ⟨some 17, .val (.t 4), some (16, false)⟩,
      ⟨some 18, .len (.t 17), some (16, false)⟩,
      ⟨some 19, .bin .eql (.t 18) (.c (.int .i64 0)), some (16, false)⟩,
      ⟨some 20, .pick (.t 16) (.c (.bool true)) (.t 19), none⟩] [])
     (.cond (.t 20) (.seq (.ops 5 false [
        ⟨some 21, .val (.t 5), none⟩,
        ⟨some 2, .val (.c (.int .i64 0)), none⟩,
        ⟨some 3, .val (.t 21), none⟩] [])
       (.ret))
      (.skip)))
    (.seq (.ops 6 false [
      ⟨some 22, .val (.t 4), none⟩,
      ⟨some 23, .call 106 [(.t 22)], none⟩,
      ⟨some 6, .val (.t 23), none⟩] [])
     (.seq (.seq (.ops 7 false [
        ⟨some 24, .val (.t 4), none⟩,
        ⟨some 25, .len (.t 24), none⟩,
        ⟨some 26, .bin .neq (.t 25) (.c (.int .i64 8)), none⟩,
        ⟨some 27, .val (.t 26), none⟩,
        ⟨some 28, .val (.t 6), some (27, false)⟩,
        ⟨some 29, .bin .lss (.t 28) (.c (.int .i64 1)), some (27, false)⟩,
        ⟨some 30, .pick (.t 27) (.c (.bool true)) (.t 29), none⟩,
        ⟨some 31, .val (.t 30), none⟩,
        ⟨some 32, .val (.t 6), some (31, false)⟩,
        ⟨some 33, .bin .gtr (.t 32) (.c (.int .i64 1099511627776)), some (31, false)⟩,
        ⟨some 34, .pick (.t 31) (.c (.bool true)) (.t 33), none⟩] [])
       (.cond (.t 34) (.seq (.ops 8 false [
          ⟨some 2, .val (.c (.int .i64 0)), none⟩,
          ⟨some 3, .val (.c (.int .i64 75)), none⟩] [])
         (.ret))
        (.skip)))
      (.seq (.ops 9 false [
        ⟨some 35, .val (.t 6), none⟩,
        ⟨some 2, .val (.t 35), none⟩,
        ⟨some 3, .val (.c (.int .i64 0)), none⟩] [])
       (.ret)))))))
def rs82 : List RR := [.tmp 2, .tmp 3]
theorem fun82 : FunR Tryd.prog 82 rc82 rs82 36 := ⟨Tryd.f82, Tryd.func82, by kernel_rfl, by kernel_rfl, by kernel_rfl⟩
/-- causeway/store.may -/
def rc85 : RC :=
 .seq (.ops 0 false [
  ⟨some 4, .val (.c (.int .i64 0)), none⟩] [])
 (.seq (.block 0 (.seq (.ops 1 false [
     ⟨some 6, .val (.t 0), none⟩,
     ⟨some 7, .eqp .str false (.t 6) (.c (.string ⟨#[]⟩)), none⟩,
     ⟨some 8, .val (.t 7), none⟩,
     ⟨some 9, .val (.t 0), some (8, false)⟩,
     ⟨some 10, .lenT (.t 9), some (8, false)⟩,
     ⟨some 11, .bin .gtr (.t 10) (.c (.int .i64 128)), some (8, false)⟩,
     ⟨some 12, .pick (.t 8) (.c (.bool true)) (.t 11), none⟩,
     ⟨some 5, .val (.t 12), none⟩] [])
    (.cond (.t 5) (.seq (.ops 2 false [
       ⟨some 4, .val (.c (.int .i64 70)), none⟩] [])
      (.ret))
     (.seq (.ops 3 false [
       ⟨some 14, .val (.t 1), none⟩,
       ⟨some 15, .len (.t 14), none⟩,
       ⟨some 16, .bin .gtr (.t 15) (.c (.int .i64 4096)), none⟩,
       ⟨some 13, .val (.t 16), none⟩] [])
      (.cond (.t 13) (.seq (.ops 4 false [
         ⟨some 4, .val (.c (.int .i64 71)), none⟩] [])
        (.ret))
       (.skip))))))
  (.seq (.ops 5 false [
    ⟨some 4, .val (.c (.int .i64 0)), none⟩] [])
   (.ret)))
def rs85 : List RR := [.tmp 4]
theorem fun85 : FunR Tryd.prog 85 rc85 rs85 17 := ⟨Tryd.f85, Tryd.func85, by kernel_rfl, by kernel_rfl, by kernel_rfl⟩
/-- (*causeway/store.State).ask -/
def rc86 : RC :=
 .seq (.ops 0 false [
  ⟨some 4, .val (.c (.int .i64 0)), none⟩] [])
 (.seq (.seq (.ops 1 false [
    ⟨some 10, .val (.t 0), none⟩,
    ⟨some 11, .nilCheck (.t 10), none⟩,
    ⟨some 12, .fieldA 1 (.t 11), none⟩,
    ⟨some 13, .load (.t 12), none⟩,
    ⟨some 14, .val (.t 1), none⟩,
    ⟨some 15, .look 124 (.t 13) (.t 14) true, none⟩,
    ⟨some 9, .val (.t 15), none⟩,
    ⟨some 16, .extract 0 (.t 9), none⟩,
    ⟨some 17, .extract 1 (.t 9), none⟩,
    ⟨some 5, .val (.t 16), none⟩,
    ⟨some 6, .val (.t 17), none⟩] [])
   (.seq (.ops 2 false [
     ⟨some 18, .val (.t 6), none⟩] [])
    (.cond (.t 18) (.seq (.ops 3 false [
       ⟨some 4, .val (.c (.int .i64 0)), none⟩] [])
      (.ret))
     (.skip))))
  (.seq (.ops 4 false [
    ⟨some 20, .val (.t 0), none⟩,
    ⟨some 21, .nilCheck (.t 20), none⟩,
    ⟨some 22, .fieldA 0 (.t 21), none⟩,
    ⟨some 23, .load (.t 22), none⟩,
    ⟨some 24, .val (.t 1), none⟩,
    ⟨some 25, .inv (.t 23) "Find" [(.t 24)], none⟩,
    ⟨some 19, .val (.t 25), none⟩,
    ⟨some 26, .extract 0 (.t 19), none⟩,
    ⟨some 27, .extract 1 (.t 19), none⟩,
    ⟨some 7, .val (.t 26), none⟩,
    ⟨some 8, .val (.t 27), none⟩] [])
   (.seq (.seq (.ops 5 false [
      ⟨some 28, .val (.t 8), none⟩,
      ⟨some 29, .bin .neq (.t 28) (.c (.int .i64 0)), none⟩] [])
     (.cond (.t 29) (.seq (.ops 6 false [
        ⟨some 30, .val (.t 8), none⟩,
        ⟨some 4, .val (.t 30), none⟩] [])
       (.ret))
      (.skip)))
    (.seq (.seq (.ops 7 false [
       ⟨some 31, .val (.t 7), none⟩,
       ⟨some 32, .len (.t 31), none⟩,
       ⟨some 33, .bin .gtr (.t 32) (.c (.int .i64 4096)), none⟩] [])
      (.cond (.t 33) (.seq (.ops 8 false [
         ⟨some 4, .val (.c (.int .i64 71)), none⟩] [])
        (.ret))
       (.skip)))
     (.seq (.ops 9 true [
       ⟨some 34, .val (.t 0), none⟩,
       ⟨some 35, .nilCheck (.t 34), none⟩,
       ⟨some 36, .fieldA 1 (.t 35), none⟩,
       ⟨some 37, .load (.t 36), none⟩,
       ⟨some 38, .val (.t 1), none⟩,
       ⟨some 39, .val (.t 7), none⟩,
       ⟨some 40, .call 87 [(.t 39)], none⟩,
       ⟨none, .upd 124 (.t 37) (.t 38) (.t 40), none⟩] [([], []), ([0], [0]), ([1], [1]), ([2], [2]), ([], []), ([], []), ([5], [5]), ([3, 4, 6, 6, 0, 1, 2, 3, 4, 5, 6], [3, 4, 6])])
      (.seq (.ops 10 false [
        ⟨some 4, .val (.c (.int .i64 0)), none⟩] [])
       (.ret)))))))
def rs86 : List RR := [.tmp 4]
theorem fun86 : FunR Tryd.prog 86 rc86 rs86 41 := ⟨Tryd.f86, Tryd.func86, by kernel_rfl, by kernel_rfl, by kernel_rfl⟩
/-- slices.Clone[[]byte,byte] -/
def rc87 : RC :=
 .seq (.ops 0 false [
  ⟨some 2, .val (.c (.slice none 0 0)), none⟩] [])
 (.seq (.seq (.ops 1 false [
    ⟨some 3, .val (.t 0), none⟩,
    ⟨some 4, .eqp .slc false (.t 3) (.c (.slice none 0 0)), none⟩] [])
   (.cond (.t 4) (.seq (.ops 2 false [
      ⟨some 2, .val (.c (.slice none 0 0)), none⟩] [])
     (.ret))
    (.skip)))
  (.seq (.ops 3 false [
    ⟨some 5, .buildS 5 0 [] [], none⟩,
    ⟨some 6, .val (.t 0), none⟩,
    ⟨some 7, .blt .append #[91, 91] 91 [(.t 5), (.t 6)], none⟩,
    ⟨some 2, .val (.t 7), none⟩] [])
   (.ret)))
def rs87 : List RR := [.tmp 2]
theorem fun87 : FunR Tryd.prog 87 rc87 rs87 8 := ⟨Tryd.f87, Tryd.func87, by kernel_rfl, by kernel_rfl, by kernel_rfl⟩
/-- (*causeway/store.State).value -/
def rc88 : RC :=
 .seq (.ops 0 false [
  ⟨some 4, .val (.c (.slice none 0 0)), none⟩] [])
 (.seq (.seq (.ops 1 false [
    ⟨some 8, .val (.t 0), none⟩,
    ⟨some 9, .nilCheck (.t 8), none⟩,
    ⟨some 10, .fieldA 2 (.t 9), none⟩,
    ⟨some 11, .load (.t 10), none⟩,
    ⟨some 12, .val (.t 1), none⟩,
    ⟨some 13, .look 124 (.t 11) (.t 12) true, none⟩,
    ⟨some 7, .val (.t 13), none⟩,
    ⟨some 14, .extract 0 (.t 7), none⟩,
    ⟨some 15, .extract 1 (.t 7), none⟩,
    ⟨some 5, .val (.t 14), none⟩,
    ⟨some 6, .val (.t 15), none⟩] [])
   (.seq (.ops 2 false [
     ⟨some 16, .val (.t 6), none⟩] [])
    (.cond (.t 16) (.seq (.ops 3 false [
       ⟨some 17, .val (.t 5), none⟩,
       ⟨some 4, .val (.t 17), none⟩] [])
      (.ret))
     (.skip))))
  (.seq (.ops 4 false [
    ⟨some 18, .val (.t 0), none⟩,
    ⟨some 19, .nilCheck (.t 18), none⟩,
    ⟨some 20, .fieldA 1 (.t 19), none⟩,
    ⟨some 21, .load (.t 20), none⟩,
    ⟨some 22, .val (.t 1), none⟩,
    ⟨some 23, .look 124 (.t 21) (.t 22) false, none⟩,
    ⟨some 4, .val (.t 23), none⟩] [])
   (.ret)))
def rs88 : List RR := [.tmp 4]
theorem fun88 : FunR Tryd.prog 88 rc88 rs88 24 := ⟨Tryd.f88, Tryd.func88, by kernel_rfl, by kernel_rfl, by kernel_rfl⟩
/-- causeway/sparse.New -/
def rc91 : RC :=
 .seq (.ops 0 false [
  ⟨some 0, .val (.c (.pointer none)), none⟩] [])
 (.seq (.ops 1 false [
   ⟨some 1, .build [(.pointer none), (.int .i64 0)] [], none⟩,
   ⟨some 2, .box 177 (.t 1), none⟩,
   ⟨some 0, .val (.t 2), none⟩] [])
  (.ret))
def rs91 : List RR := [.tmp 0]
theorem fun91 : FunR Tryd.prog 91 rc91 rs91 3 := ⟨Tryd.f91, Tryd.func91, by kernel_rfl, by kernel_rfl, by kernel_rfl⟩
/-- causeway/wide.Bytes -/
def rc93 : RC :=
 .seq (.ops 0 false [
  ⟨some 1, .box 25 (.t 0), none⟩,
  ⟨some 2, .val (.c (.slice none 0 0)), none⟩] [])
 (.seq (.ops 1 false [
   ⟨some 6, .mkS 91 (.c (.int .i64 0)) (.c (.int .i64 32)), none⟩,
   ⟨some 3, .val (.t 6), none⟩] [])
  (.seq (.seq (.ops 2 false [
     ⟨some 4, .val (.c (.int .i64 3)), none⟩] [])
    (.block 0 (.loop (.seq (.seq (.ops 3 false [
         ⟨some 7, .val (.t 4), none⟩,
         ⟨some 8, .bin .geq (.t 7) (.c (.int .i64 0)), none⟩] [])
        (.cond (.t 8) (.skip)
         (.exit 0)))
       (.seq (.block 1 (.seq (.ops 5 false [
           ⟨some 5, .val (.c (.int .i64 56)), none⟩] [])
          (.block 2 (.loop (.seq (.seq (.ops 6 false [
               ⟨some 11, .val (.t 5), none⟩,
               ⟨some 12, .bin .geq (.t 11) (.c (.int .i64 0)), none⟩] [])
              (.cond (.t 12) (.skip)
               (.exit 2)))
             (.seq (.block 3 (.ops 8 false [
                ⟨some 15, .val (.t 3), none⟩,
                ⟨some 16, .val (.t 4), none⟩,
                ⟨some 17, .indexA 4 1 (.t 1) (.t 16), none⟩,
                ⟨some 18, .load (.t 17), none⟩,
                ⟨some 19, .val (.t 5), none⟩,
                ⟨some 20, .bin .shr (.t 18) (.t 19), none⟩,
                ⟨some 21, .conv .u8 (.t 20), none⟩,
                ⟨some 22, .buildS 5 1 [(.int .u8 0)] [(0, 1, (.t 21))], none⟩,
                ⟨some 23, .blt .append #[91, 91] 91 [(.t 15), (.t 22)], none⟩,
                ⟨some 3, .val (.t 23), none⟩] []))
              (.ops 7 false [
               ⟨some 13, .val (.t 5), none⟩,
               ⟨some 14, .bin .sub (.t 13) (.c (.int .i64 8)), none⟩,
               ⟨some 5, .val (.t 14), none⟩] [])))))))
        (.ops 4 false [
         ⟨some 9, .val (.t 4), none⟩,
         ⟨some 10, .bin .sub (.t 9) (.c (.int .i64 1)), none⟩,
         ⟨some 4, .val (.t 10), none⟩] []))))))
   (.seq (.ops 9 false [
     ⟨some 24, .val (.t 3), none⟩,
     ⟨some 2, .val (.t 24), none⟩] [])
    (.ret))))
def rs93 : List RR := [.tmp 2]
theorem fun93 : FunR Tryd.prog 93 rc93 rs93 25 := ⟨Tryd.f93, Tryd.func93, by kernel_rfl, by kernel_rfl, by kernel_rfl⟩
/-- causeway/ticket.may -/
def rc100 : RC :=
 .seq (.ops 0 false [
  ⟨some 1, .box 82 (.t 0), none⟩,
  ⟨some 2, .val (.c (.bool false)), none⟩] [])
 (.seq (.ops 1 false [
   ⟨some 3, .fieldA 1 (.t 1), none⟩,
   ⟨some 4, .load (.t 3), none⟩,
   ⟨some 5, .bin .geq (.t 4) (.c (.int .i64 0)), none⟩,
   ⟨some 6, .val (.t 5), none⟩,
   ⟨some 7, .fieldA 1 (.t 1), some (6, true)⟩,
   ⟨some 8, .load (.t 7), some (6, true)⟩,
   ⟨some 9, .bin .lss (.t 8) (.c (.int .i64 1099511627776)), some (6, true)⟩,
   ⟨some 10, .pick (.t 6) (.t 9) (.c (.bool false)), none⟩,
   ⟨some 11, .val (.t 10), none⟩,
   ⟨some 12, .fieldA 22 (.t 1), some (11, true)⟩,
   ⟨some 13, .load (.t 12), some (11, true)⟩,
   ⟨some 14, .bin .geq (.t 13) (.c (.int .i64 0)), some (11, true)⟩,
   ⟨some 15, .pick (.t 11) (.t 14) (.c (.bool false)), none⟩,
   ⟨some 16, .val (.t 15), none⟩,
   ⟨some 17, .fieldA 22 (.t 1), some (16, true)⟩,
   ⟨some 18, .load (.t 17), some (16, true)⟩,
   ⟨some 19, .bin .lss (.t 18) (.c (.int .i64 64)), some (16, true)⟩,
   ⟨some 20, .pick (.t 16) (.t 19) (.c (.bool false)), none⟩,
   ⟨some 21, .val (.t 20), none⟩,
   ⟨some 22, .fieldA 43 (.t 1), some (21, true)⟩,
   ⟨some 23, .loadN 4 (.t 22), some (21, true)⟩,
   ⟨some 24, .call 52 [(.t 23)], some (21, true)⟩,
   ⟨some 25, .not (.t 24), some (21, true)⟩,
   ⟨some 26, .pick (.t 21) (.t 25) (.c (.bool false)), none⟩,
   ⟨some 2, .val (.t 26), none⟩] [])
  (.ret))
def rs100 : List RR := [.tmp 2]
theorem fun100 : FunR Tryd.prog 100 rc100 rs100 27 := ⟨Tryd.f100, Tryd.func100, by kernel_rfl, by kernel_rfl, by kernel_rfl⟩
/-- causeway/ticket.key -/
def rc101 : RC :=
 .seq (.ops 0 false [
  ⟨some 2, .val (.c (.string ⟨#[]⟩)), none⟩] [])
 (.seq (.ops 1 false [
   ⟨some 3, .val (.t 0), none⟩,
   ⟨some 4, .call 103 [(.t 3)], none⟩,
   ⟨some 5, .cvt 91 9 (.t 4), none⟩,
   ⟨some 6, .sbin .add (.c (.string ⟨#[107]⟩)) (.t 5), none⟩,
   ⟨some 2, .val (.t 6), none⟩] [])
  (.ret))
def rs101 : List RR := [.tmp 2]
theorem fun101 : FunR Tryd.prog 101 rc101 rs101 7 := ⟨Tryd.f101, Tryd.func101, by kernel_rfl, by kernel_rfl, by kernel_rfl⟩
/-- causeway/ticket.value -/
def rc102 : RC :=
 .seq (.ops 0 false [
  ⟨some 1, .box 82 (.t 0), none⟩,
  ⟨some 2, .val (.c (.slice none 0 0)), none⟩] [])
 (.seq (.ops 1 true [
   ⟨some 4, .fieldA 1 (.t 1), none⟩,
   ⟨some 5, .load (.t 4), none⟩,
   ⟨some 6, .call 103 [(.t 5)], none⟩,
   ⟨some 7, .fieldA 2 (.t 1), none⟩,
   ⟨some 8, .sliceA 20 1 (.t 7) none none, none⟩,
   ⟨some 9, .blt .append #[91, 91] 91 [(.t 6), (.t 8)], none⟩,
   ⟨some 3, .val (.t 9), none⟩] [([], []), ([0], [0]), ([1], [1]), ([], []), ([3], [3]), ([2, 4, 2], [2, 4]), ([5, 5, 0, 1, 2, 3, 4, 5], [5])])
  (.seq (.ops 2 true [
    ⟨some 10, .val (.t 3), none⟩,
    ⟨some 11, .fieldA 22 (.t 1), none⟩,
    ⟨some 12, .load (.t 11), none⟩,
    ⟨some 13, .conv .u8 (.t 12), none⟩,
    ⟨some 14, .buildS 5 1 [(.int .u8 0)] [(0, 1, (.t 13))], none⟩,
    ⟨some 15, .blt .append #[91, 91] 91 [(.t 10), (.t 14)], none⟩,
    ⟨some 16, .fieldA 23 (.t 1), none⟩,
    ⟨some 17, .sliceA 20 1 (.t 16) none none, none⟩,
    ⟨some 18, .blt .append #[91, 91] 91 [(.t 15), (.t 17)], none⟩,
    ⟨some 3, .val (.t 18), none⟩] [([], []), ([], []), ([1], [1]), ([2], [2]), ([3], [3]), ([0, 4], [0, 4]), ([], []), ([6], [6]), ([5, 7, 5], [5, 7]), ([8, 8, 0, 1, 2, 3, 4, 5, 6, 7, 8], [0, 8])])
   (.seq (.ops 3 false [
     ⟨some 19, .val (.t 3), none⟩,
     ⟨some 20, .fieldA 43 (.t 1), none⟩,
     ⟨some 21, .loadN 4 (.t 20), none⟩,
     ⟨some 22, .call 93 [(.t 21)], none⟩,
     ⟨some 23, .blt .append #[91, 91] 91 [(.t 19), (.t 22)], none⟩,
     ⟨some 2, .val (.t 23), none⟩] [])
    (.ret))))
def rs102 : List RR := [.tmp 2]
theorem fun102 : FunR Tryd.prog 102 rc102 rs102 24 := ⟨Tryd.f102, Tryd.func102, by kernel_rfl, by kernel_rfl, by kernel_rfl⟩
/-- causeway/ticket.eight -/
def rc103 : RC :=
 .seq (.ops 0 false [
  ⟨some 2, .val (.c (.slice none 0 0)), none⟩] [])
 (.seq (.ops 1 false [
   ⟨some 3, .alloc 190 (List.replicate 8 (.int .u8 0)), none⟩] [])
  (.seq (.seq (.ops 2 false [
     ⟨some 5, .val (.c (.int .i64 0)), none⟩] [])
    (.block 0 (.loop (.seq (.ops 3 false [
        ⟨some 6, .bin .lss (.t 5) (.c (.int .i64 8)), none⟩] [])
       (.seq (.cond (.t 6) (.skip)
         (.exit 0))
        (.seq (.block 1 (.seq (.ops 4 false [
            ⟨some 7, .val (.t 5), none⟩,
            ⟨some 4, .val (.t 7), none⟩] [])
           (.ops 5 false [
            ⟨some 8, .val (.t 4), none⟩,
            ⟨some 9, .val (.t 0), none⟩,
            ⟨some 10, .val (.t 4), none⟩,
            ⟨some 11, .bin .mul (.c (.int .i64 8)) (.t 10), none⟩,
            ⟨some 12, .bin .sub (.c (.int .i64 56)) (.t 11), none⟩,
            ⟨some 13, .bin .shr (.t 9) (.t 12), none⟩,
            ⟨some 14, .conv .u8 (.t 13), none⟩,
            ⟨some 15, .indexA 8 1 (.t 3) (.t 8), none⟩,
            ⟨none, .store 1 (.t 15) (.t 14), none⟩] [])))
         (.ops 6 false [
          ⟨some 16, .bin .add (.t 5) (.c (.int .i64 1)), none⟩,
          ⟨some 5, .val (.t 16), none⟩] [])))))))
   (.seq (.ops 7 false [
     ⟨some 17, .sliceA 8 1 (.t 3) none none, none⟩,
     ⟨some 2, .val (.t 17), none⟩] [])
    (.ret))))
def rs103 : List RR := [.tmp 2]
theorem fun103 : FunR Tryd.prog 103 rc103 rs103 18 := ⟨Tryd.f103, Tryd.func103, by kernel_rfl, by kernel_rfl, by kernel_rfl⟩
/-- causeway/ticket.ticketOf -/
def rc104 : RC :=
 .seq (.ops 0 false [
  ⟨some 3, .box 91 (.t 1), none⟩,
  ⟨some 4, .alloc 82 [(.int .i64 0), (.int .i64 0), (.int .u8 0), (.int .u8 0), (.int .u8 0), (.int .u8 0), (.int .u8 0), (.int .u8 0), (.int .u8 0), (.int .u8 0), (.int .u8 0), (.int .u8 0), (.int .u8 0), (.int .u8 0), (.int .u8 0), (.int .u8 0), (.int .u8 0), (.int .u8 0), (.int .u8 0), (.int .u8 0), (.int .u8 0), (.int .u8 0), (.int .i64 0), (.int .u8 0), (.int .u8 0), (.int .u8 0), (.int .u8 0), (.int .u8 0), (.int .u8 0), (.int .u8 0), (.int .u8 0), (.int .u8 0), (.int .u8 0), (.int .u8 0), (.int .u8 0), (.int .u8 0), (.int .u8 0), (.int .u8 0), (.int .u8 0), (.int .u8 0), (.int .u8 0), (.int .u8 0), (.int .u8 0), (.int .u64 0), (.int .u64 0), (.int .u64 0), (.int .u64 0)], none⟩,
  ⟨some 5, .val (.c (.bool false)), none⟩] [])
 (.seq (.seq (.ops 1 false [
    ⟨some 10, .load (.t 3), none⟩,
    ⟨some 11, .len (.t 10), none⟩,
    ⟨some 12, .bin .neq (.t 11) (.c (.int .i64 81)), none⟩] [])
   (.cond (.t 12) (.seq (.ops 2 false [
      ⟨some 13, .build [(.int .i64 0), (.int .i64 0), (.int .u8 0), (.int .u8 0), (.int .u8 0), (.int .u8 0), (.int .u8 0), (.int .u8 0), (.int .u8 0), (.int .u8 0), (.int .u8 0), (.int .u8 0), (.int .u8 0), (.int .u8 0), (.int .u8 0), (.int .u8 0), (.int .u8 0), (.int .u8 0), (.int .u8 0), (.int .u8 0), (.int .u8 0), (.int .u8 0), (.int .i64 0), (.int .u8 0), (.int .u8 0), (.int .u8 0), (.int .u8 0), (.int .u8 0), (.int .u8 0), (.int .u8 0), (.int .u8 0), (.int .u8 0), (.int .u8 0), (.int .u8 0), (.int .u8 0), (.int .u8 0), (.int .u8 0), (.int .u8 0), (.int .u8 0), (.int .u8 0), (.int .u8 0), (.int .u8 0), (.int .u8 0), (.int .u64 0), (.int .u64 0), (.int .u64 0), (.int .u64 0)] [], none⟩,
      ⟨none, .store 47 (.t 4) (.t 13), none⟩,
      ⟨some 5, .val (.c (.bool false)), none⟩] [])
     (.ret))
    (.skip)))
  (.seq (.ops 3 false [
    ⟨some 14, .func 117 [(.t 3)], none⟩,
    ⟨some 6, .val (.t 14), none⟩] [])
   (.seq (.ops 4 false [
     ⟨some 15, .val (.t 0), none⟩,
     ⟨some 16, .val (.t 6), none⟩,
     ⟨some 17, .callv (.t 16) [(.c (.int .i64 8))], none⟩,
     ⟨some 18, .call 106 [(.t 17)], none⟩,
     ⟨some 19, .build [(.int .i64 0), (.int .i64 0), (.int .u8 0), (.int .u8 0), (.int .u8 0), (.int .u8 0), (.int .u8 0), (.int .u8 0), (.int .u8 0), (.int .u8 0), (.int .u8 0), (.int .u8 0), (.int .u8 0), (.int .u8 0), (.int .u8 0), (.int .u8 0), (.int .u8 0), (.int .u8 0), (.int .u8 0), (.int .u8 0), (.int .u8 0), (.int .u8 0), (.int .i64 0), (.int .u8 0), (.int .u8 0), (.int .u8 0), (.int .u8 0), (.int .u8 0), (.int .u8 0), (.int .u8 0), (.int .u8 0), (.int .u8 0), (.int .u8 0), (.int .u8 0), (.int .u8 0), (.int .u8 0), (.int .u8 0), (.int .u8 0), (.int .u8 0), (.int .u8 0), (.int .u8 0), (.int .u8 0), (.int .u8 0), (.int .u64 0), (.int .u64 0), (.int .u64 0), (.int .u64 0)] [(0, 1, (.t 15)), (1, 1, (.t 18))], none⟩,
     ⟨some 7, .alloc 82 [(.int .i64 0), (.int .i64 0), (.int .u8 0), (.int .u8 0), (.int .u8 0), (.int .u8 0), (.int .u8 0), (.int .u8 0), (.int .u8 0), (.int .u8 0), (.int .u8 0), (.int .u8 0), (.int .u8 0), (.int .u8 0), (.int .u8 0), (.int .u8 0), (.int .u8 0), (.int .u8 0), (.int .u8 0), (.int .u8 0), (.int .u8 0), (.int .u8 0), (.int .i64 0), (.int .u8 0), (.int .u8 0), (.int .u8 0), (.int .u8 0), (.int .u8 0), (.int .u8 0), (.int .u8 0), (.int .u8 0), (.int .u8 0), (.int .u8 0), (.int .u8 0), (.int .u8 0), (.int .u8 0), (.int .u8 0), (.int .u8 0), (.int .u8 0), (.int .u8 0), (.int .u8 0), (.int .u8 0), (.int .u8 0), (.int .u64 0), (.int .u64 0), (.int .u64 0), (.int .u64 0)], none⟩,
     ⟨none, .store 47 (.t 7) (.t 19), none⟩] [])
    (.seq (.ops 5 false [
      ⟨some 20, .val (.t 6), none⟩,
      ⟨some 21, .callv (.t 20) [(.c (.int .i64 20))], none⟩,
      ⟨some 22, .arrp 33 (.t 21), none⟩,
      ⟨some 23, .loadN 20 (.t 22), none⟩,
      ⟨some 24, .fieldA 2 (.t 7), none⟩,
      ⟨none, .store 20 (.t 24) (.t 23), none⟩] [])
     (.seq (.ops 6 false [
       ⟨some 25, .val (.t 6), none⟩,
       ⟨some 26, .callv (.t 25) [(.c (.int .i64 1))], none⟩,
       ⟨some 27, .call 106 [(.t 26)], none⟩,
       ⟨some 28, .fieldA 22 (.t 7), none⟩,
       ⟨none, .store 1 (.t 28) (.t 27), none⟩] [])
      (.seq (.ops 7 false [
        ⟨some 29, .val (.t 6), none⟩,
        ⟨some 30, .callv (.t 29) [(.c (.int .i64 20))], none⟩,
        ⟨some 31, .arrp 33 (.t 30), none⟩,
        ⟨some 32, .loadN 20 (.t 31), none⟩,
        ⟨some 33, .fieldA 23 (.t 7), none⟩,
        ⟨none, .store 20 (.t 33) (.t 32), none⟩] [])
       (.seq (.ops 8 false [
         ⟨some 35, .val (.t 6), none⟩,
         ⟨some 36, .callv (.t 35) [(.c (.int .i64 32))], none⟩,
         ⟨some 37, .call 63 [(.t 36)], none⟩,
         ⟨some 34, .val (.t 37), none⟩,
         ⟨some 38, .extract 0 (.t 34), none⟩,
         ⟨some 39, .extract 1 (.t 34), none⟩,
         ⟨some 8, .alloc 25 [(.int .u64 0), (.int .u64 0), (.int .u64 0), (.int .u64 0)], none⟩,
         ⟨none, .store 4 (.t 8) (.t 38), none⟩,
         ⟨some 9, .val (.t 39), none⟩] [])
        (.seq (.ops 9 false [
          ⟨some 40, .loadN 4 (.t 8), none⟩,
          ⟨some 41, .fieldA 43 (.t 7), none⟩,
          ⟨none, .store 4 (.t 41) (.t 40), none⟩] [])
         (.seq (.ops 10 true [
           ⟨some 42, .loadN 47 (.t 7), none⟩,
           ⟨some 43, .val (.t 9), none⟩,
           ⟨some 44, .bin .eql (.t 43) (.c (.int .i64 0)), none⟩,
           ⟨some 45, .val (.t 44), none⟩,
           ⟨some 46, .loadN 47 (.t 7), some (45, true)⟩,
           ⟨some 47, .call 100 [(.t 46)], some (45, true)⟩,
           ⟨some 48, .pick (.t 45) (.t 47) (.c (.bool false)), none⟩,
           ⟨none, .store 47 (.t 4) (.t 42), none⟩,
           ⟨some 5, .val (.t 48), none⟩] [([], []), ([], []), ([1], [1]), ([2], [2]), ([3], [3]), ([4, 3, 3], [3, 4]), ([3, 5], [3, 5]), ([0, 5, 0], [0]), ([6, 7, 0, 1, 2, 3, 4, 5, 6, 7], [6])])
          (.ret))))))))))
def rs104 : List RR := [.cell 4 (some 47), .tmp 5]
theorem fun104 : FunR Tryd.prog 104 rc104 rs104 49 := ⟨Tryd.f104, Tryd.func104, by kernel_rfl, by kernel_rfl, by kernel_rfl⟩
/-- causeway/ticket.Retry -/
def rc105 : RC :=
 .seq (.ops 0 false [
  ⟨some 4, .val (.c (.int .i64 0)), none⟩] [])
 (.seq (.ops 1 false [
   ⟨some 9, .val (.t 0), none⟩,
   ⟨some 10, .val (.t 1), none⟩,
   ⟨some 11, .call 70 [(.t 9), (.t 10)], none⟩,
   ⟨some 8, .val (.t 11), none⟩,
   ⟨some 12, .extract 0 (.t 8), none⟩,
   ⟨some 13, .extract 1 (.t 8), none⟩,
   ⟨some 5, .alloc 82 [(.int .i64 0), (.int .i64 0), (.int .u8 0), (.int .u8 0), (.int .u8 0), (.int .u8 0), (.int .u8 0), (.int .u8 0), (.int .u8 0), (.int .u8 0), (.int .u8 0), (.int .u8 0), (.int .u8 0), (.int .u8 0), (.int .u8 0), (.int .u8 0), (.int .u8 0), (.int .u8 0), (.int .u8 0), (.int .u8 0), (.int .u8 0), (.int .u8 0), (.int .i64 0), (.int .u8 0), (.int .u8 0), (.int .u8 0), (.int .u8 0), (.int .u8 0), (.int .u8 0), (.int .u8 0), (.int .u8 0), (.int .u8 0), (.int .u8 0), (.int .u8 0), (.int .u8 0), (.int .u8 0), (.int .u8 0), (.int .u8 0), (.int .u8 0), (.int .u8 0), (.int .u8 0), (.int .u8 0), (.int .u8 0), (.int .u64 0), (.int .u64 0), (.int .u64 0), (.int .u64 0)], none⟩,
   ⟨none, .store 47 (.t 5) (.t 12), none⟩,
   ⟨some 6, .val (.t 13), none⟩] [])
  (.seq (.seq (.ops 2 false [
     ⟨some 14, .val (.t 6), none⟩,
     ⟨some 15, .bin .neq (.t 14) (.c (.int .i64 0)), none⟩] [])
    (.cond (.t 15) (.seq (.ops 3 false [
       ⟨some 16, .val (.t 6), none⟩,
       ⟨some 4, .val (.t 16), none⟩] [])
      (.ret))
     (.skip)))
   (.seq (.seq (.ops 4 false [
      ⟨some 17, .val (.t 0), none⟩,
      ⟨some 18, .fieldA 22 (.t 5), none⟩,
      ⟨some 19, .load (.t 18), none⟩,
      ⟨some 20, .fieldA 23 (.t 5), none⟩,
      ⟨some 21, .loadN 20 (.t 20), none⟩,
      ⟨some 22, .fieldA 43 (.t 5), none⟩,
      ⟨some 23, .loadN 4 (.t 22), none⟩,
      ⟨some 24, .call 13 [(.t 17), (.t 19), (.t 21), (.t 23)], none⟩,
      ⟨some 7, .val (.t 24), none⟩] [])
     (.seq (.ops 5 false [
       ⟨some 25, .val (.t 7), none⟩,
       ⟨some 26, .bin .neq (.t 25) (.c (.int .i64 0)), none⟩] [])
      (.cond (.t 26) (.seq (.ops 6 false [
         ⟨some 27, .val (.t 7), none⟩,
         ⟨some 4, .val (.t 27), none⟩] [])
        (.ret))
       (.skip))))
    (.seq (.ops 7 false [
      ⟨some 28, .val (.t 0), none⟩,
      ⟨some 29, .val (.t 1), none⟩,
      ⟨some 30, .call 101 [(.t 29)], none⟩,
      ⟨some 31, .call 39 [(.t 28), (.t 30), (.c (.slice none 0 0))], none⟩,
      ⟨some 4, .val (.t 31), none⟩] [])
     (.ret)))))
def rs105 : List RR := [.tmp 4]
theorem fun105 : FunR Tryd.prog 105 rc105 rs105 32 := ⟨Tryd.f105, Tryd.func105, by kernel_rfl, by kernel_rfl, by kernel_rfl⟩
/-- causeway/ticket.number -/
def rc106 : RC :=
 .seq (.ops 0 false [
  ⟨some 2, .val (.c (.int .i64 0)), none⟩] [])
 (.seq (.ops 1 false [
   ⟨some 3, .val (.c (.int .i64 0)), none⟩] [])
  (.seq (.seq (.ops 2 false [
     ⟨some 6, .val (.t 0), none⟩,
     ⟨some 7, .len (.t 6), none⟩,
     ⟨some 8, .val (.c (.int .i64 0)), none⟩] [])
    (.block 0 (.loop (.seq (.ops 3 false [
        ⟨some 9, .bin .lss (.t 8) (.t 7), none⟩] [])
       (.seq (.cond (.t 9) (.skip)
         (.exit 0))
        (.seq (.block 1 (.seq (.ops 4 false [
            ⟨some 10, .indexS 1 (.t 6) (.t 8), none⟩,
            ⟨some 11, .load (.t 10), none⟩,
            ⟨some 5, .val (.t 11), none⟩] [])
           (.ops 5 false [
            ⟨some 12, .val (.t 3), none⟩,
            ⟨some 13, .bin .shl (.t 12) (.c (.int .u64 8)), none⟩,
            ⟨some 14, .val (.t 5), none⟩,
            ⟨some 15, .conv .i64 (.t 14), none⟩,
            ⟨some 16, .bin .or (.t 13) (.t 15), none⟩,
            ⟨some 3, .val (.t 16), none⟩] [])))
         (.ops 6 false [
          ⟨some 17, .bin .add (.t 8) (.c (.int .i64 1)), none⟩,
          ⟨some 8, .val (.t 17), none⟩] [])))))))
   (.seq (.ops 7 false [
     ⟨some 18, .val (.t 3), none⟩,
     ⟨some 2, .val (.t 18), none⟩] [])
    (.ret))))
def rs106 : List RR := [.tmp 2]
theorem fun106 : FunR Tryd.prog 106 rc106 rs106 19 := ⟨Tryd.f106, Tryd.func106, by kernel_rfl, by kernel_rfl, by kernel_rfl⟩
/-- causeway/ticket.ticketOf$1 -/
def rc117 : RC :=
 .seq (.ops 0 false [
  ⟨some 3, .val (.c (.slice none 0 0)), none⟩] [])
 (.seq (.ops 1 false [
   ⟨some 5, .load (.t 1), none⟩,
   ⟨some 6, .val (.t 0), none⟩,
   ⟨some 7, .slice 1 (.t 5) none (some (.t 6)) none, none⟩,
   ⟨some 4, .val (.t 7), none⟩] [])
  (.seq (.ops 2 false [
    ⟨some 8, .load (.t 1), none⟩,
    ⟨some 9, .val (.t 0), none⟩,
    ⟨some 10, .slice 1 (.t 8) (some (.t 9)) none none, none⟩,
    ⟨none, .store 1 (.t 1) (.t 10), none⟩] [])
   (.seq (.ops 3 false [
     ⟨some 11, .val (.t 4), none⟩,
     ⟨some 3, .val (.t 11), none⟩] [])
    (.ret))))
def rs117 : List RR := [.tmp 3]
theorem fun117 : FunR Tryd.prog 117 rc117 rs117 12 := ⟨Tryd.f117, Tryd.func117, by kernel_rfl, by kernel_rfl, by kernel_rfl⟩
end Go.Proofs.YtnbcbdlbejdkpaaDoor
