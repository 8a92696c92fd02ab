import Derived.Test.YtjkldhalmglkpaaDoorZSp
namespace Go.Sl
open Go
structure TicketD where
 num : Int
 ent : Int
 snd : List Nat
 tok : Int
 to : List Nat
 amt : List Nat
def ivs (l : List Int) : List Value := l.map fun n => Value.int .u64 n
end Go.Sl
