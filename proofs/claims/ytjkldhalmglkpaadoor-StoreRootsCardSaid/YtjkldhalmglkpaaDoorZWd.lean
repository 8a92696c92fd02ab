import Derived.Test.YtjkldhalmglkpaaDoorZLv
namespace Go.Sl
open Go
def m64 : Nat := 18446744073709551616
def w4 (n : Nat) : List Nat := [n % m64, n / m64 % m64, n / m64 / m64 % m64, n / m64 / m64 / m64 % m64]
/-! What the text's loops reckon. -/
/-! Words out of bytes, and back. -/
end Go.Sl
