import Derived.Test.YtnbcbdlbejdkpaaGreatDoorZRb
namespace Go.Sl
open Go
/-! A leaf's bytes tell the leaf. -/
/-! The path, its last digest first. -/
def shownR (K : List W32) : List (List Nat) → Nat → Nat → List Nat → List Nat × Bool
  | [], n, _, leaf => if n = 1 then (leaf, true) else (List.replicate 32 0, false)
  | d :: r, n, i, leaf => if n = 1 then (leaf, false) else
    if i < half n then (nodeD K (shownR K r (half n) i leaf).1 d, (shownR K r (half n) i leaf).2)
    else (nodeD K d (shownR K r (n - half n) (i - half n) leaf).1, (shownR K r (n - half n) (i - half n) leaf).2)
def sidesF : Nat → Nat → Nat → List Bool
  | 0, _, _ => []
  | f + 1, n, i => if n < 2 then [] else if i < half n then sidesF f (half n) i ++ [true] else sidesF f (n - half n) (i - half n) ++ [false]
def sides (n i : Nat) : List Bool := sidesF n n i
def nodeT (r : Bool) (p d : List Nat) : List Nat := if r then 1 :: (d ++ p) else 1 :: (p ++ d)
def topL (K : List W32) : List Nat → List (Bool × List Nat) → List Nat
  | t, [] => dig K t
  | t, (r, p) :: l => topL K (nodeT r p (dig K t)) l
def walkL (K : List W32) : List Nat → List (Bool × List Nat) → List (List Nat)
  | t, [] => [t]
  | t, (r, p) :: l => t :: walkL K (nodeT r p (dig K t)) l
/-! Two texts that lead to one root. -/
def ClP (K : List W32) (ls : List (List Nat)) (a b : Nat) : Prop := ls.getD a [] ≠ ls.getD b [] ∧ dig K (ls.getD a []) = dig K (ls.getD b [])
end Go.Sl
