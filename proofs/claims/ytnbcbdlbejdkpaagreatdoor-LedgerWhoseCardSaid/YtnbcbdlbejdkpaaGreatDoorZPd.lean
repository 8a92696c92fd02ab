import Derived.Test.YtnbcbdlbejdkpaaGreatDoorZCp
namespace Go.Sl
open Go
def padZ (m : List Nat) : Nat := if m.length % 64 < 56 then 55 - m.length % 64 else 119 - m.length % 64
def padL (m : List Nat) : List Nat := m ++ (128 :: List.replicate (padZ m) 0 ++ be (m.length * 8) 8)
end Go.Sl
