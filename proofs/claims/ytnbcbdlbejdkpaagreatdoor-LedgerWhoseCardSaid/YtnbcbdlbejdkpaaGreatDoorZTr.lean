import Derived.Test.YtnbcbdlbejdkpaaGreatDoorZPd
namespace Go.Sl
open Go
def half (n : Nat) : Nat := 2 ^ (n - 1).log2
def nodeD (K : List W32) (a b : List Nat) : List Nat := dig K (1 :: (a ++ b))
def leafT (K : List W32) (a : List Nat) : List Nat := dig K (0 :: a)
def rootF (K : List W32) : Nat → List (List Nat) → List Nat
  | 0, _ => dig K []
  | f + 1, ls => match ls with
    | [] => dig K []
    | [l] => leafT K l
    | l => nodeD K (rootF K f (l.take (half l.length))) (rootF K f (l.drop (half l.length)))
def rootD (K : List W32) (ls : List (List Nat)) : List Nat := rootF K ls.length ls
def pathF (K : List W32) : Nat → List (List Nat) → Nat → List (List Nat)
  | 0, _, _ => []
  | f + 1, ls, i => if ls.length < 2 then [] else
    if i < half ls.length then pathF K f (ls.take (half ls.length)) i ++ [rootD K (ls.drop (half ls.length))]
    else pathF K f (ls.drop (half ls.length)) (i - half ls.length) ++ [rootD K (ls.take (half ls.length))]
def pathD (K : List W32) (ls : List (List Nat)) (i : Nat) : List (List Nat) := pathF K ls.length ls i
def digsC (ds : List (List Nat)) : List Value := ds.flatMap bvs
structure RdT (L : List HP) (v : Value) (ls : List (List Nat)) : Prop where
  out : ∃ us : List Value, us.length = ls.length ∧ RdS L v ls.length us ∧ ∀ (i : Nat) (x : Value) (l : List Nat), us[i]? = some x → ls[i]? = some l → RdS L x l.length (bvs l)
theorem RdT.left {L : List HP} {v : Value} {ls : List (List Nat)} (h : RdT L v ls) (M : List HP) : RdT (L ++ M) v ls := by
  obtain ⟨us, h1, h2, h3⟩ := h.out
  exact ⟨us, h1, h2.left M, fun i x l hx hl => (h3 i x l hx hl).left M⟩
theorem RdT.right {L : List HP} {v : Value} {ls : List (List Nat)} (h : RdT L v ls) (M : List HP) : RdT (M ++ L) v ls := by
  obtain ⟨us, h1, h2, h3⟩ := h.out
  exact ⟨us, h1, h2.right M, fun i x l hx hl => (h3 i x l hx hl).right M⟩
end Go.Sl
