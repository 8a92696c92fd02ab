/-
  The text laid out whole, taken in piece by piece, has the same digest. A library of this session's own.
-/
import Derived.Test.YtnbcbdlbejdkpaaGreatDoorZCp
namespace Go.Sl
open Go
def padZ (m : List Nat) : Nat := if m.length % 64 < 56 then 55 - m.length % 64 else 119 - m.length % 64
def padL (m : List Nat) : List Nat := m ++ (128 :: List.replicate (padZ m) 0 ++ be (m.length * 8) 8)
theorem padL_len (m : List Nat) : (padL m).length = 64 * (if m.length % 64 < 56 then m.length / 64 + 1 else m.length / 64 + 2) := by
  have hdm := Nat.div_add_mod m.length 64
  have hlt := Nat.mod_lt m.length (show 0 < 64 by decide)
  simp only [padL, padZ, List.length_append, List.length_cons, List.length_replicate, be_len]
  split <;> omega
theorem padL_drop (m : List Nat) : (padL m).drop (64 * (m.length / 64)) = m.drop (64 * (m.length / 64)) ++ (128 :: List.replicate (padZ m) 0 ++ be (m.length * 8) 8) := by
  have hdm := Nat.div_add_mod m.length 64
  unfold padL
  rw [List.drop_append_of_le_length (by omega)]
theorem dig_pad (K : List W32) (m : List Nat) : dig K m = digB (stN K (padL m) ((padL m).length / 64)) := by
  have hdm := Nat.div_add_mod m.length 64
  have hlt := Nat.mod_lt m.length (show 0 < 64 by decide)
  have hrl : (m.drop (64 * (m.length / 64))).length = m.length % 64 := by simp; omega
  have hq : stN K (padL m) (m.length / 64) = stN K m (m.length / 64) := stN_app K m _ _ (by omega)
  unfold dig
  congr 1
  by_cases h : m.length % 64 < 56
  · have hl : (padL m).length / 64 = m.length / 64 + 1 := by rw [padL_len, if_pos h]; omega
    rw [hl, stN, hq, padL_drop]
    have he : endS K m = stN K m (m.length / 64) := by unfold endS; rw [if_neg (by omega)]
    rw [he]
    congr 1
    have hp : endP m = padP m := by unfold endP; rw [if_neg (by omega)]
    have hz : padZ m = 55 - m.length % 64 := by unfold padZ; rw [if_pos h]
    rw [endQ, hp, padP, hz]
    have hll : (m.drop (64 * (m.length / 64)) ++ (128 :: List.replicate (55 - m.length % 64) 0 ++ be (m.length * 8) 8)).length = 64 := by
      simp only [List.length_append, List.length_cons, List.length_replicate, be_len, hrl]; omega
    have hR : (m.drop (64 * (m.length / 64)) ++ (128 :: List.replicate (55 - m.length % 64) 0 ++ be (m.length * 8) 8)).take 64 = m.drop (64 * (m.length / 64)) ++ (128 :: List.replicate (55 - m.length % 64) 0 ++ be (m.length * 8) 8) := List.take_of_length_le (by omega)
    rw [hR]
    have e1 : (128 :: List.replicate (63 - m.length % 64) 0).take (56 - m.length % 64) = 128 :: List.replicate (55 - m.length % 64) 0 := by
      obtain ⟨k, hk⟩ : ∃ k, 56 - m.length % 64 = k + 1 := ⟨55 - m.length % 64, by omega⟩
      rw [hk, List.take_succ_cons, List.take_replicate]
      congr 2
      omega
    have hL : (m.drop (64 * (m.length / 64)) ++ 128 :: List.replicate (63 - m.length % 64) 0).take 56 = m.drop (64 * (m.length / 64)) ++ 128 :: List.replicate (55 - m.length % 64) 0 := by
      have h1 : (m.drop (64 * (m.length / 64))).take 56 = m.drop (64 * (m.length / 64)) := List.take_of_length_le (by omega)
      rw [List.take_append, h1, hrl, e1]
    rw [hL]
    simp
  · have hl : (padL m).length / 64 = m.length / 64 + 1 + 1 := by rw [padL_len, if_neg h]; omega
    have he : endS K m = takeS K (stN K m (m.length / 64)) (padP m) := by unfold endS; rw [if_pos (by omega)]
    have hz : padZ m = (63 - m.length % 64) + 56 := by unfold padZ; rw [if_neg h]; omega
    have hp : endP m = List.replicate 64 0 := by unfold endP; rw [if_pos (by omega)]
    have e0 : m.drop (64 * (m.length / 64)) ++ (128 :: List.replicate (padZ m) 0 ++ be (m.length * 8) 8) = padP m ++ (List.replicate 56 0 ++ be (m.length * 8) 8) := by
      rw [hz, ← List.replicate_append_replicate, padP]
      simp
    have hd2 : (padL m).drop (64 * (m.length / 64 + 1)) = List.replicate 56 0 ++ be (m.length * 8) 8 := by
      rw [show 64 * (m.length / 64 + 1) = 64 * (m.length / 64) + 64 by omega, ← List.drop_drop, padL_drop, e0]
      have := padP_len m
      rw [← this, List.drop_left]
    rw [hl, stN, stN, hq, padL_drop, e0, hd2, he]
    have t1 : (padP m ++ (List.replicate 56 0 ++ be (m.length * 8) 8)).take 64 = padP m := by
      have := padP_len m
      rw [← this, List.take_left]
    rw [t1, List.take_of_length_le (by simp [be_len]), endQ, hp]
    simp
end Go.Sl
