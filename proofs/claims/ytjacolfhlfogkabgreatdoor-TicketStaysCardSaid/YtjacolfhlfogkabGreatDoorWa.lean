import Derived.Test.YtjacolfhlfogkabGreatDoorLz
import Derived.Test.YtjacolfhlfogkabGreatDoorZKp
import Derived.Test.YtjacolfhlfogkabGreatDoorZWh
import Derived.Test.YtjacolfhlfogkabGreatDoorZMk
import Derived.Test.YtjacolfhlfogkabGreatDoorZLm
import Derived.Test.YtjacolfhlfogkabGreatDoorZCh
namespace Go.Proofs.YtjacolfhlfogkabGreatDoor
open Go Go.Sl
def kB : List Nat := 2 :: List.replicate 19 0
end Go.Proofs.YtjacolfhlfogkabGreatDoor
namespace Go.Proofs.YtjacolfhlfogkabGreatDoor
open Go Go.Sl
end Go.Proofs.YtjacolfhlfogkabGreatDoor
namespace Go.Proofs.YtjacolfhlfogkabGreatDoor
open Go Go.Sl
end Go.Proofs.YtjacolfhlfogkabGreatDoor
namespace Go.Proofs.YtjacolfhlfogkabGreatDoor
open Go Go.Sl
end Go.Proofs.YtjacolfhlfogkabGreatDoor
