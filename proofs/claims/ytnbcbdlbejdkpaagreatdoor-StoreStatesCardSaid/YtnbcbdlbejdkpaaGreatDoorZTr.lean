/-
  The tree over leaves, as plain data. A library of this session's own.
-/
import Derived.Test.YtnbcbdlbejdkpaaGreatDoorZPd
namespace Go.Sl
open Go
def half (n : Nat) : Nat := 2 ^ (n - 1).log2
theorem half_pos (n : Nat) : 0 < half n := Nat.two_pow_pos _
theorem half_lt {n : Nat} (h : 2 ≤ n) : half n < n := by
  have := Nat.log2_self_le (n := n - 1) (by omega)
  unfold half
  omega
def nodeD (K : List W32) (a b : List Nat) : List Nat := dig K (1 :: (a ++ b))
def leafT (K : List W32) (a : List Nat) : List Nat := dig K (0 :: a)
def rootF (K : List W32) : Nat → List (List Nat) → List Nat
  | 0, _ => dig K []
  | f + 1, ls => match ls with
    | [] => dig K []
    | [l] => leafT K l
    | l => nodeD K (rootF K f (l.take (half l.length))) (rootF K f (l.drop (half l.length)))
def rootD (K : List W32) (ls : List (List Nat)) : List Nat := rootF K ls.length ls
theorem rootF_more (K : List W32) : ∀ (f g : Nat) (ls : List (List Nat)), ls.length ≤ f → ls.length ≤ g → rootF K f ls = rootF K g ls
  | 0, 0, _, _, _ => rfl
  | 0, g + 1, ls, h, _ => by
    obtain rfl : ls = [] := List.eq_nil_of_length_eq_zero (by omega)
    rfl
  | f + 1, 0, ls, _, h => by
    obtain rfl : ls = [] := List.eq_nil_of_length_eq_zero (by omega)
    rfl
  | f + 1, g + 1, ls, h1, h2 => by
    match ls with
    | [] => rfl
    | [l] => rfl
    | a :: b :: r =>
      have hp := half_pos (a :: b :: r).length
      have hl := half_lt (n := (a :: b :: r).length) (by simp)
      simp only [rootF]
      rw [rootF_more K f g ((a :: b :: r).take _) (by rw [List.length_take]; omega) (by rw [List.length_take]; omega), rootF_more K f g ((a :: b :: r).drop _) (by rw [List.length_drop]; omega) (by rw [List.length_drop]; omega)]
theorem rootD_two (K : List W32) (ls : List (List Nat)) (h : 2 ≤ ls.length) : rootD K ls = nodeD K (rootD K (ls.take (half ls.length))) (rootD K (ls.drop (half ls.length))) := by
  have hp := half_pos ls.length
  have hl := half_lt h
  match ls, h, hp, hl with
  | a :: b :: r, h, hp, hl =>
    show rootF K ((b :: r).length + 1) _ = _
    simp only [rootF]
    rw [rootF_more K _ _ ((a :: b :: r).take _) (by rw [List.length_take]; simp only [List.length_cons] at hp hl ⊢; omega) (Nat.le_refl _), rootF_more K _ _ ((a :: b :: r).drop _) (by rw [List.length_drop]; simp only [List.length_cons] at hp hl ⊢; omega) (Nat.le_refl _)]
    rfl
theorem rootD_len (K : List W32) (ls : List (List Nat)) : (rootD K ls).length = 32 := by
  match ls with
  | [] => exact dig_len _ _
  | [l] => exact dig_len _ _
  | a :: b :: r => rw [rootD_two K _ (by simp)]; exact dig_len _ _
theorem rootD_byte (K : List W32) (ls : List (List Nat)) : ∀ x ∈ rootD K ls, x < 256 := by
  match ls with
  | [] => exact dig_byte _ _
  | [l] => exact dig_byte _ _
  | a :: b :: r => rw [rootD_two K _ (by simp)]; exact dig_byte _ _
/-- The path of a leaf. -/
def pathF (K : List W32) : Nat → List (List Nat) → Nat → List (List Nat)
  | 0, _, _ => []
  | f + 1, ls, i => if ls.length < 2 then [] else
    if i < half ls.length then pathF K f (ls.take (half ls.length)) i ++ [rootD K (ls.drop (half ls.length))]
    else pathF K f (ls.drop (half ls.length)) (i - half ls.length) ++ [rootD K (ls.take (half ls.length))]
def pathD (K : List W32) (ls : List (List Nat)) (i : Nat) : List (List Nat) := pathF K ls.length ls i
theorem pathF_more (K : List W32) : ∀ (f g : Nat) (ls : List (List Nat)) (i : Nat), ls.length ≤ f → ls.length ≤ g → pathF K f ls i = pathF K g ls i
  | 0, 0, _, _, _, _ => rfl
  | 0, g + 1, ls, i, h, _ => by
    obtain rfl : ls = [] := List.eq_nil_of_length_eq_zero (by omega)
    rfl
  | f + 1, 0, ls, i, _, h => by
    obtain rfl : ls = [] := List.eq_nil_of_length_eq_zero (by omega)
    rfl
  | f + 1, g + 1, ls, i, h1, h2 => by
    have hp := half_pos ls.length
    unfold pathF
    split
    · rfl
    · rename_i h
      have hl := half_lt (n := ls.length) (by omega)
      rw [pathF_more K f g (ls.take _) _ (by rw [List.length_take]; omega) (by rw [List.length_take]; omega), pathF_more K f g (ls.drop _) _ (by rw [List.length_drop]; omega) (by rw [List.length_drop]; omega)]
theorem pathD_two (K : List W32) (ls : List (List Nat)) (i : Nat) (h : 2 ≤ ls.length) : pathD K ls i =
    if i < half ls.length then pathD K (ls.take (half ls.length)) i ++ [rootD K (ls.drop (half ls.length))] else pathD K (ls.drop (half ls.length)) (i - half ls.length) ++ [rootD K (ls.take (half ls.length))] := by
  have hp := half_pos ls.length
  have hl := half_lt h
  have e : ∃ f, ls.length = f + 1 := ⟨ls.length - 1, by omega⟩
  obtain ⟨f, hf⟩ := e
  show pathF K ls.length ls i = _
  rw [hf, pathF, if_neg (by omega), pathD, pathD]
  rw [pathF_more K f _ (ls.take _) _ (by rw [List.length_take]; omega) (Nat.le_refl _), pathF_more K f _ (ls.drop _) _ (by rw [List.length_drop]; omega) (Nat.le_refl _), ← hf]
theorem pathD_one (K : List W32) (l : List Nat) (i : Nat) : pathD K [l] i = [] := rfl
theorem pathD_len (K : List W32) : ∀ (n : Nat) (ls : List (List Nat)) (i : Nat), ls.length ≤ n → (pathD K ls i).length ≤ ls.length
  | 0, ls, i, h => by
    obtain rfl : ls = [] := List.eq_nil_of_length_eq_zero (by omega)
    exact Nat.le_refl 0
  | n + 1, ls, i, h => by
    rcases Nat.lt_or_ge ls.length 2 with h2 | h2
    · match ls, h2 with
      | [], _ => exact Nat.le_refl 0
      | [l], _ => rw [pathD_one]; simp
    · have hp := half_pos ls.length
      have hl := half_lt h2
      rw [pathD_two K ls i h2]
      split
      · have := pathD_len K n (ls.take (half ls.length)) i (by rw [List.length_take]; omega)
        rw [List.length_take] at this
        rw [List.length_append, List.length_singleton]
        omega
      · have := pathD_len K n (ls.drop (half ls.length)) (i - half ls.length) (by rw [List.length_drop]; omega)
        rw [List.length_drop] at this
        rw [List.length_append, List.length_singleton]
        omega
theorem pathD_each (K : List W32) : ∀ (n : Nat) (ls : List (List Nat)) (i : Nat), ls.length ≤ n → ∀ d ∈ pathD K ls i, d.length = 32
  | 0, ls, i, h, d, hd => by
    obtain rfl : ls = [] := List.eq_nil_of_length_eq_zero (by omega)
    simp [pathD, pathF] at hd
  | n + 1, ls, i, h, d, hd => by
    rcases Nat.lt_or_ge ls.length 2 with h2 | h2
    · match ls, h2, hd with
      | [], _, hd => simp [pathD, pathF] at hd
      | [l], _, hd => rw [pathD_one] at hd; simp at hd
    · have hp := half_pos ls.length
      have hl := half_lt h2
      rw [pathD_two K ls i h2] at hd
      split at hd
      · rcases List.mem_append.1 hd with hd | hd
        · exact pathD_each K n _ _ (by rw [List.length_take]; omega) d hd
        · rw [List.mem_singleton.1 hd]; exact rootD_len _ _
      · rcases List.mem_append.1 hd with hd | hd
        · exact pathD_each K n _ _ (by rw [List.length_drop]; omega) d hd
        · rw [List.mem_singleton.1 hd]; exact rootD_len _ _
/-- A slice of digests. -/
def digsC (ds : List (List Nat)) : List Value := ds.flatMap bvs
/-- Texts that are read: a slice of slices of bytes. -/
structure RdT (L : List HP) (v : Value) (ls : List (List Nat)) : Prop where
  out : ∃ us : List Value, us.length = ls.length ∧ RdS L v ls.length us ∧ ∀ (i : Nat) (x : Value) (l : List Nat), us[i]? = some x → ls[i]? = some l → RdS L x l.length (bvs l)
theorem RdT.left {L : List HP} {v : Value} {ls : List (List Nat)} (h : RdT L v ls) (M : List HP) : RdT (L ++ M) v ls := by
  obtain ⟨us, h1, h2, h3⟩ := h.out
  exact ⟨us, h1, h2.left M, fun i x l hx hl => (h3 i x l hx hl).left M⟩
theorem RdT.right {L : List HP} {v : Value} {ls : List (List Nat)} (h : RdT L v ls) (M : List HP) : RdT (M ++ L) v ls := by
  obtain ⟨us, h1, h2, h3⟩ := h.out
  exact ⟨us, h1, h2.right M, fun i x l hx hl => (h3 i x l hx hl).right M⟩
end Go.Sl
