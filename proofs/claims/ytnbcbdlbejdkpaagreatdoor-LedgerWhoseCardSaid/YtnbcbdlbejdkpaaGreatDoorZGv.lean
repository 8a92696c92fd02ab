import Derived.Test.YtnbcbdlbejdkpaaGreatDoorZLp
namespace Go.Sl
open Go
def Good (m : Md) (t s : Nat) : Prop := m.T t = ⟨true, false, s⟩
section
variable {m : Md} {t s : Nat} (ht : t < 64) (h : Good m t s)
include ht
include h
omit ht in
end
structure Gives3 (V2 : View) (t : Int) (x y z a b : List Nat) : Prop where
  g : (moveL V2 t x y b).1 = 0
  h : (moveL (moveL V2 t x y b).2 t y x b).1 = 0
  p : balL (moveL (moveL V2 t x y b).2 t y x b).2 t x = (a, 0)
  j : (pullL (moveL (moveL V2 t x y b).2 t y x b).2 t z x y b).1 = if b = z4 then 0 else 86
  m : (allowL (pullL (moveL (moveL V2 t x y b).2 t y x b).2 t z x y b).2 t x z b).1 = 0
  n : (pullL (allowL (pullL (moveL (moveL V2 t x y b).2 t y x b).2 t z x y b).2 t x z b).2 t z x y b).1 = 0
structure Gives7 (V7 : View) (t : Int) (x y z : List Nat) : Prop where
  left : allowedL V7 t x z = (z4, 0)
  c : (balL V7 t x).2 = 0
  d : (balL V7 t y).2 = 0
  u : (burnL V7 t x (balL V7 t x).1).1 = 0
  v : x ≠ y → (burnL (burnL V7 t x (balL V7 t x).1).2 t y (balL V7 t y).1).1 = 0
  w : tokenL (if x = y then (burnL V7 t x (balL V7 t x).1).2 else (burnL (burnL V7 t x (balL V7 t x).1).2 t y (balL V7 t y).1).2) t = (⟨true, false, z4⟩, 0)
end Go.Sl
