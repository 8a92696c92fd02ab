import Derived.Test.YtjacolfhlfogkabGreatDoorZWh
import Derived.Test.YtjacolfhlfogkabGreatDoorZMk
namespace Go.Sl
open Go
/-! Numbers by eight bytes, there and back -/
/-! Keys of tickets are no keys of the ledger -/
theorem strB_app (a b : List Nat) : strB a ++ strB b = strB (a ++ b) := by
 apply ByteArray.ext
 simp [strB, ByteArray.data_append]
section
variable {V : View} {k : ByteArray}
end
/-! Supplies -/
section
variable {m : Md} {W : List (List Nat)}
end
/-! Open tickets -/
section
variable {W : List (List Nat)} {V : View} {m : Md} {op : List TicketD} {cl : List Bool} {all : Nat → Nat}
end
end Go.Sl
