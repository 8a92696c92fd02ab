/-
  A path of the right length is shown; what a check answers. A library of this session's own.
-/
import Derived.Test.YtnbcbdlbejdkpaaGreatDoorZCk
namespace Go.Sl
open Go
theorem shown_of (K : List W32) (leaf : List Nat) : ∀ (p : List (List Nat)) (n i : Nat), 1 ≤ n → p.length = (sides n i).length → (shownR K p n i leaf).2 = true
  | [], n, i, hn, h => by
    rcases Nat.lt_or_ge n 2 with h2 | h2
    · obtain rfl : n = 1 := by omega
      rfl
    · rw [sides_two i h2] at h
      split at h <;> simp at h
  | d :: r, n, i, hn, h => by
    rcases Nat.lt_or_ge n 2 with h2 | h2
    · obtain rfl : n = 1 := by omega
      simp [sides_one] at h
    · have hp := half_pos n
      have hl := half_lt h2
      rw [sides_two i h2] at h
      unfold shownR
      rw [if_neg (by omega)]
      by_cases h3 : i < half n
      · rw [if_pos h3, List.length_append, List.length_singleton] at h
        rw [if_pos h3]
        exact shown_of K leaf r (half n) i (by omega) (by simpa using h)
      · rw [if_neg h3, List.length_append, List.length_singleton] at h
        rw [if_neg h3]
        exact shown_of K leaf r (n - half n) (i - half n) (by omega) (by simpa using h)
end Go.Sl
