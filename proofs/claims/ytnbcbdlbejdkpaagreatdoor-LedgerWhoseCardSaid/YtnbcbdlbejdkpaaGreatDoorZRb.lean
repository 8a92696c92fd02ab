import Derived.Test.YtnbcbdlbejdkpaaGreatDoorZBk
import Derived.Test.YtnbcbdlbejdkpaaGreatDoorZDg
namespace Go.Sl
open Go
def tailN (l : List Nat) (i : Nat) : List Nat := List.replicate i 0 ++ l.drop i
end Go.Sl
