import Derived.Test.YtjacolfhlfogkabGreatDoorZTq
import Derived.Test.YtjacolfhlfogkabGreatDoorZMk
namespace Go.Sl
open Go
def num9 (bs : List Nat) : Int := if 63 < bs.getD 0 0 then -1 else numF (bs.take 8)
theorem num_lt {bs : List Nat} (h : ∀ b ∈ bs, b < 256) : ∀ i, i < 7 → i < bs.length → ∃ a : Nat, numF (bs.take (i + 1)) = (a : Int) ∧ a < (bs.getD 0 0 + 1) * 256 ^ i ∧ bs.getD 0 0 * 256 ^ i ≤ a
 | 0, _, h1 => by
  have hb := h _ (List.getElem_mem h1)
  refine ⟨bs.getD 0 0, ?_, by omega, by omega⟩
  rw [numF_take bs 0 h1, List.take_zero]
  have e : bs.getD 0 0 = bs[0] := by simp [List.getD, h1]
  rw [e]
  show numStep ((0 : Nat) : Int) bs[0] = _
  rw [numStep_nat 0 _ (by decide) hb]
  simp
 | i + 1, h7, h1 => by
  obtain ⟨a, ha, hlt, hge⟩ := num_lt h i (by omega) (by omega)
  have hb := h _ (List.getElem_mem h1)
  have h0 : bs.getD 0 0 < 256 := by
   have h2 : 0 < bs.length := by omega
   have e : bs.getD 0 0 = bs[0] := by simp [List.getD, h2]
   rw [e]
   exact h _ (List.getElem_mem h2)
  have hp : 256 ^ i ≤ 256 ^ 5 := Nat.pow_le_pow_right (by decide) (by omega)
  have hA : (bs.getD 0 0 + 1) * 256 ^ i ≤ 256 * 256 ^ 5 := Nat.mul_le_mul (by omega) hp
  have e5 : 256 * 256 ^ 5 = 281474976710656 := by decide
  refine ⟨256 * a + bs[i + 1], ?_, ?_, ?_⟩
  ·rw [numF_take bs (i + 1) h1, ha, numStep_nat a _ (by omega) hb]
  ·rw [Nat.pow_succ, ← Nat.mul_assoc]
   omega
  ·rw [Nat.pow_succ, ← Nat.mul_assoc]
   omega
theorem num_small {bs : List Nat} (h : ∀ b ∈ bs, b < 256) (h0 : bs.getD 0 0 ≤ 63) {i : Nat} (hi : i < 8) (hl : i < bs.length) : ∃ a : Nat, numF (bs.take i) = (a : Int) ∧ a < 18014398509481984 := by
 cases i with
 | zero => exact ⟨0, rfl, by decide⟩
 | succ i =>
  obtain ⟨a, ha, hlt, _⟩ := num_lt h i (by omega) (by omega)
  have hp : 256 ^ i ≤ 256 ^ 6 := Nat.pow_le_pow_right (by decide) (by omega)
  have hA : (bs.getD 0 0 + 1) * 256 ^ i ≤ 64 * 256 ^ 6 := Nat.mul_le_mul (by omega) hp
  have e6 : 64 * 256 ^ 6 = 18014398509481984 := by decide
  exact ⟨a, ha, by omega⟩
theorem num_high {bs : List Nat} (h : ∀ b ∈ bs, b < 256) (h0 : 63 < bs.getD 0 0) (hl : 8 ≤ bs.length) : numF (bs.take 8) < 0 ∨ 1099511627776 < numF (bs.take 8) := by
 obtain ⟨a, ha, hlt, hge⟩ := num_lt h 6 (by decide) (by omega)
 have h7 : 7 < bs.length := by omega
 have hb := h _ (List.getElem_mem h7)
 have hb0 : bs.getD 0 0 < 256 := by
  have h2 : 0 < bs.length := by omega
  have e : bs.getD 0 0 = bs[0] := by simp [List.getD, h2]
  rw [e]
  exact h _ (List.getElem_mem h2)
 have e6 : 256 ^ 6 = 281474976710656 := by decide
 rw [e6] at hlt hge
 have hA : a < 72057594037927936 := by omega
 have hB : 18014398509481984 ≤ a := by omega
 rw [numF_take bs 7 h7, ha]
 clear ha hlt hge
 generalize bs[7] = c at hb
 have e1 : (a : Int) * 2 ^ (min (8 : Int).toNat 64) = ((256 * a : Nat) : Int) := by
  show (a : Int) * 2 ^ 8 = _
  omega
 have e3 : IntKind.i64.wrap (c : Int) = (c : Int) := i64_wrap (by omega) (by omega)
 have e2 : (BitVec.ofInt 64 (IntKind.i64.wrap ((256 * a : Nat) : Int))) = BitVec.ofNat 64 (256 * a) := by
  apply BitVec.eq_of_toNat_eq
  rw [BitVec.toNat_ofInt, BitVec.toNat_ofNat]
  have : IntKind.i64.wrap ((256 * a : Nat) : Int) % (2 ^ 64 : Nat) = ((256 * a : Nat) : Int) % (2 ^ 64 : Nat) := by
   show (if (true && decide (((256 * a : Nat) : Int) % (2 ^ 64 : Int) ≥ (2 ^ (64 - 1) : Int))) = true then ((256 * a : Nat) : Int) % (2 ^ 64 : Int) - (2 ^ 64 : Int) else ((256 * a : Nat) : Int) % (2 ^ 64 : Int)) % _ = _
   split <;> omega
  rw [this]
  omega
 have e4 : numStep (a : Int) c = IntKind.i64.wrap ((256 * a + c : Nat) : Int) := by
  unfold numStep
  rw [e1, e2, e3, BitVec.toNat_or, BitVec.ofInt_natCast, BitVec.toNat_ofNat, BitVec.toNat_ofNat, Nat.mod_eq_of_lt (by omega), Nat.mod_eq_of_lt (by omega), or_low a c hb]
 rw [e4]
 show (if (true && decide (((256 * a + c : Nat) : Int) % (2 ^ 64 : Int) ≥ (2 ^ (64 - 1) : Int))) = true then ((256 * a + c : Nat) : Int) % (2 ^ 64 : Int) - (2 ^ 64 : Int) else ((256 * a + c : Nat) : Int) % (2 ^ 64 : Int)) < 0 ∨ 1099511627776 < (if (true && decide (((256 * a + c : Nat) : Int) % (2 ^ 64 : Int) ≥ (2 ^ (64 - 1) : Int))) = true then ((256 * a + c : Nat) : Int) % (2 ^ 64 : Int) - (2 ^ 64 : Int) else ((256 * a + c : Nat) : Int) % (2 ^ 64 : Int))
 split
 ·left; omega
 ·rename_i hc
  simp only [Bool.true_and, decide_eq_true_eq] at hc
  right; omega
theorem made9 {bs : List Nat} (h : ∀ b ∈ bs, b < 256) (hne : bs ≠ []) : madeR bs = if bs.length ≠ 8 then (0, 75) else if num9 bs < 1 ∨ 1099511627776 < num9 bs then (0, 75) else (num9 bs, 0) := by
 unfold madeR
 rw [if_neg hne]
 by_cases h8 : bs.length = 8
 ·have et : bs.take 8 = bs := List.take_of_length_le (by omega)
  simp only [h8, ne_eq, not_true_eq_false, false_or, if_false]
  by_cases h0 : 63 < bs.getD 0 0
  ·have h1 := num_high h h0 (by omega)
   rw [et] at h1
   have e : num9 bs = -1 := by unfold num9; rw [if_pos h0]
   rw [e, if_pos (show (-1 : Int) < 1 ∨ _ from Or.inl (by decide)), if_pos (by omega)]
  ·have e : num9 bs = numF bs := by unfold num9; rw [if_neg h0, et]
   rw [e]
 ·rw [if_pos (Or.inl h8), if_pos h8]
def tk9 (n : Int) (bs : List Nat) : TicketD := { tkOf n bs with ent := num9 bs, tok := (bs.getD 28 0 : Nat) }
theorem tk9_eq {n : Int} {bs : List Nat} (h : ∀ b ∈ bs, b < 256) (h81 : bs.length = 81) : ((tk9 n bs).may ↔ (tkOf n bs).may) ∧ ((tk9 n bs).may → tk9 n bs = tkOf n bs) := by
 have h28 : 28 < bs.length := by omega
 have hk : numF ((bs.drop 28).take 1) = ((bs.getD 28 0 : Nat) : Int) := by
  have e : (bs.drop 28).take 1 = [bs.getD 28 0] := by
   have e2 : bs.getD 28 0 = bs[28] := by simp [List.getD, h28]
   rw [e2, List.drop_eq_getElem_cons h28]
   rfl
  rw [e]
  refine numF_one ?_
  have e : bs.getD 28 0 = bs[28] := by simp [List.getD, h28]
  rw [e]
  exact h _ (List.getElem_mem h28)
 have e1 : tk9 n bs = { tkOf n bs with ent := num9 bs } := by
  unfold tk9 tkOf
  rw [hk]
 rw [e1]
 by_cases h0 : 63 < bs.getD 0 0
 ·have hh := num_high h h0 (by omega)
  have a1 : ¬ ({ tkOf n bs with ent := num9 bs } : TicketD).may := fun hm => by
   have h2 : 0 ≤ num9 bs := hm.1.1
   unfold num9 at h2
   rw [if_pos h0] at h2
   exact absurd h2 (by decide)
  have a2 : ¬ (tkOf n bs).may := fun hm => by
   have h1 : 0 ≤ numF (bs.take 8) := hm.1.1
   have h2 : numF (bs.take 8) < 1099511627776 := hm.1.2
   omega
  exact ⟨⟨fun x => absurd x a1, fun x => absurd x a2⟩, fun x => absurd x a1⟩
 ·have e2 : num9 bs = numF (bs.take 8) := by unfold num9; rw [if_neg h0]
  rw [e2]
  exact ⟨Iff.rfl, fun _ => rfl⟩
end Go.Sl
