import Derived.Test.YtmfonkklmndhjaaGreatDoorGp
import Derived.Test.YtmfonkklmndhjaaGreatDoorZKc
import Derived.Test.YtmfonkklmndhjaaGreatDoorZWh
import Derived.Test.YtmfonkklmndhjaaGreatDoorZKy
import Derived.Test.YtmfonkklmndhjaaGreatDoorZTt
namespace Go.Proofs.YtmfonkklmndhjaaGreatDoor
open Go Go.Sl
def kB : List Nat := 2 :: List.replicate 19 0
end Go.Proofs.YtmfonkklmndhjaaGreatDoor
namespace Go.Proofs.YtmfonkklmndhjaaGreatDoor
open Go Go.Sl
end Go.Proofs.YtmfonkklmndhjaaGreatDoor
namespace Go.Proofs.YtmfonkklmndhjaaGreatDoor
open Go Go.Sl
end Go.Proofs.YtmfonkklmndhjaaGreatDoor
namespace Go.Proofs.YtmfonkklmndhjaaGreatDoor
open Go Go.Sl
end Go.Proofs.YtmfonkklmndhjaaGreatDoor
