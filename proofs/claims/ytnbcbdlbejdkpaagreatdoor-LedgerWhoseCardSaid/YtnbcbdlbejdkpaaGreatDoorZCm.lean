import Derived.Test.YtnbcbdlbejdkpaaGreatDoorZCk
namespace Go.Sl
open Go
end Go.Sl
