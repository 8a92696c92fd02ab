import Derived.Test.YtjkldhalmglkpaaDoorZSp
namespace Go.Sl
open Go
structure TicketD where
 num : Int
 ent : Int
 snd : List Nat
 tok : Int
 to : List Nat
 amt : List Nat
end Go.Sl
