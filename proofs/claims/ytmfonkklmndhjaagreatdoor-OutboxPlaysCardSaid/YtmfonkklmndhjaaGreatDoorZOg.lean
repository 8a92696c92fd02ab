import Derived.Test.YtmfonkklmndhjaaGreatDoorZTw
import Derived.Test.YtmfonkklmndhjaaGreatDoorZOl
import Derived.Lib.TrailingZeros
namespace Go.Sl
open Go
def ones (n : Nat) : Nat := if h : n = 0 then 0 else n % 2 + ones (n / 2)
termination_by n
decreasing_by omega
theorem ones_zero : ones 0 = 0 := by rw [ones]; rfl
theorem ones_step (n : Nat) : ones n = n % 2 + ones (n / 2) := by
 by_cases h : n = 0
 ·subst h
  rw [ones_zero]
 ·rw [ones, dif_neg h]
theorem ones_add : ∀ (k a b : Nat), b < 2 ^ k → ones (2 ^ k * a + b) = ones a + ones b
 | 0, a, b, h => by
  obtain rfl : b = 0 := by simpa using h
  rw [ones_zero]
  simp
 | k + 1, a, b, h => by
  have hp : 2 ^ (k + 1) * a = 2 * (2 ^ k * a) := by rw [Nat.pow_succ, Nat.mul_comm (2 ^ k) 2, Nat.mul_assoc]
  have hb : b / 2 < 2 ^ k := by rw [Nat.pow_succ] at h; omega
  have h1 := ones_add k a (b / 2) hb
  rw [ones_step (2 ^ (k + 1) * a + b), ones_step b, hp, show (2 * (2 ^ k * a) + b) % 2 = b % 2 by omega, show (2 * (2 ^ k * a) + b) / 2 = 2 ^ k * a + b / 2 by omega, h1]
  omega
/-! Bytes of a number, each turned by itself -/
def dig9 (g : Nat → Nat) : Nat → Nat → Nat
 | 0, _ => 0
 | k + 1, x => 256 * dig9 g k (x / 256) + g (x % 256)
def mk9 (c : Nat) : Nat → Nat
 | 0 => 0
 | k + 1 => 256 * mk9 c k + c
theorem and_split {a b c d : Nat} (hb : b < 256) (hd : d < 256) : (256 * a + b) &&& (256 * c + d) = 256 * (a &&& c) + (b &&& d) := by
 have hbd : b &&& d < 256 := Nat.lt_of_le_of_lt Nat.and_le_left hb
 apply Nat.eq_of_testBit_eq
 intro i
 rw [Nat.testBit_and, show (256 : Nat) = 2 ^ 8 from rfl, Nat.testBit_two_pow_mul_add a hb, Nat.testBit_two_pow_mul_add c hd, Nat.testBit_two_pow_mul_add (a &&& c) hbd]
 split
 ·rw [Nat.testBit_and]
 ·rw [Nat.testBit_and]
theorem shift_and (s c t y : Nat) (_hs : s = 1 ∧ c = 85 ∧ t < 2 ∧ y < 128 ∨ s = 2 ∧ c = 51 ∧ t < 4 ∧ y < 64) : (2 ^ (8 - s) * t + y) &&& c = y &&& c := by
 have h1 : ∀ t, t < 2 → ∀ y, y < 128 → (2 ^ 7 * t + y) &&& 85 = y &&& 85 := by decide +kernel
 have h2 : ∀ t, t < 4 → ∀ y, y < 64 → (2 ^ 6 * t + y) &&& 51 = y &&& 51 := by decide +kernel
 rcases _hs with ⟨rfl, rfl, ht, hy⟩ | ⟨rfl, rfl, ht, hy⟩
 ·exact h1 t ht y hy
 ·exact h2 t ht y hy
def g1 (b : Nat) : Nat := (b / 2 &&& 85) + (b &&& 85)
def g2 (b : Nat) : Nat := (b / 4 &&& 51) + (b &&& 51)
def g3 (b : Nat) : Nat := (b / 16 + b) &&& 15
theorem swar1 : ∀ (k x : Nat), x < 256 ^ k → (x / 2 &&& mk9 85 k) + (x &&& mk9 85 k) = dig9 g1 k x
 | 0, x, h => by
  obtain rfl : x = 0 := by simpa using h
  rfl
 | k + 1, x, h => by
  have hd : x / 256 < 256 ^ k := by
   rw [Nat.pow_succ] at h
   exact (Nat.div_lt_iff_lt_mul (by decide)).2 h
  have h1 := swar1 k (x / 256) hd
  have e1 : x = 256 * (x / 256) + x % 256 := by omega
  have e2 : x / 2 = 256 * (x / 256 / 2) + (2 ^ (8 - 1) * (x / 256 % 2) + x % 256 / 2) := by
   show x / 2 = 256 * (x / 256 / 2) + (128 * (x / 256 % 2) + x % 256 / 2)
   omega
  have hlt : 2 ^ (8 - 1) * (x / 256 % 2) + x % 256 / 2 < 256 := by
   show 128 * (x / 256 % 2) + x % 256 / 2 < 256
   omega
  have a1 : x / 2 &&& mk9 85 (k + 1) = 256 * (x / 256 / 2 &&& mk9 85 k) + (x % 256 / 2 &&& 85) := by
   rw [mk9, e2, and_split hlt (by decide), shift_and 1 85 _ _ (.inl ⟨rfl, rfl, Nat.mod_lt _ (by decide), by omega⟩)]
  have a2 : x &&& mk9 85 (k + 1) = 256 * (x / 256 &&& mk9 85 k) + (x % 256 &&& 85) := by
   conv => lhs; rw [e1]
   rw [mk9, and_split (Nat.mod_lt _ (by decide)) (by decide)]
  rw [a1, a2, dig9, ← h1, g1]
  omega
theorem swar2 : ∀ (k x : Nat), x < 256 ^ k → (x / 4 &&& mk9 51 k) + (x &&& mk9 51 k) = dig9 g2 k x
 | 0, x, h => by
  obtain rfl : x = 0 := by simpa using h
  rfl
 | k + 1, x, h => by
  have hd : x / 256 < 256 ^ k := by
   rw [Nat.pow_succ] at h
   exact (Nat.div_lt_iff_lt_mul (by decide)).2 h
  have h1 := swar2 k (x / 256) hd
  have e1 : x = 256 * (x / 256) + x % 256 := by omega
  have e2 : x / 4 = 256 * (x / 256 / 4) + (2 ^ (8 - 2) * (x / 256 % 4) + x % 256 / 4) := by
   show x / 4 = 256 * (x / 256 / 4) + (64 * (x / 256 % 4) + x % 256 / 4)
   omega
  have hlt : 2 ^ (8 - 2) * (x / 256 % 4) + x % 256 / 4 < 256 := by
   show 64 * (x / 256 % 4) + x % 256 / 4 < 256
   omega
  have a1 : x / 4 &&& mk9 51 (k + 1) = 256 * (x / 256 / 4 &&& mk9 51 k) + (x % 256 / 4 &&& 51) := by
   rw [mk9, e2, and_split hlt (by decide), shift_and 2 51 _ _ (.inr ⟨rfl, rfl, Nat.mod_lt _ (by decide), by omega⟩)]
  have a2 : x &&& mk9 51 (k + 1) = 256 * (x / 256 &&& mk9 51 k) + (x % 256 &&& 51) := by
   conv => lhs; rw [e1]
   rw [mk9, and_split (Nat.mod_lt _ (by decide)) (by decide)]
  rw [a1, a2, dig9, ← h1, g2]
  omega
def Low4 : Nat → Nat → Prop
 | 0, _ => True
 | k + 1, x => x % 16 ≤ 4 ∧ x / 16 % 16 ≤ 4 ∧ Low4 k (x / 256)
theorem low4_mod : ∀ {k x : Nat}, Low4 k x → x < 256 ^ k → x % 16 ≤ 4
 | 0, x, _, h => by
  obtain rfl : x = 0 := by simpa using h
  decide
 | k + 1, x, h, _ => h.1
theorem swar3 : ∀ (k x : Nat), x < 256 ^ k → Low4 k x → (x / 16 + x) &&& mk9 15 k = dig9 g3 k x
 | 0, x, h, _ => by
  obtain rfl : x = 0 := by simpa using h
  rfl
 | k + 1, x, h, hl => by
  have hd : x / 256 < 256 ^ k := by
   rw [Nat.pow_succ] at h
   exact (Nat.div_lt_iff_lt_mul (by decide)).2 h
  obtain ⟨l1, l2, l3⟩ := hl
  have l4 := low4_mod l3 hd
  have h1 := swar3 k (x / 256) hd l3
  have e2 : x / 16 + x = 256 * (x / 256 / 16 + x / 256) + (16 * (x / 256 % 16) + (x % 256 / 16 + x % 256)) := by omega
  have h3 : ∀ r, r < 5 → ∀ y, y < 256 → (y % 16 ≤ 4 ∧ y / 16 ≤ 4) → (16 * r + (y / 16 + y)) &&& 15 = (y / 16 + y) &&& 15 := by decide +kernel
  rw [e2, mk9, and_split (by omega) (by decide), h1, dig9, g3, h3 _ (by omega) _ (Nat.mod_lt _ (by decide)) ⟨by omega, by omega⟩]
theorem dig9_lt {g : Nat → Nat} (hg : ∀ b, b < 256 → g b < 256) : ∀ (k x : Nat), dig9 g k x < 256 ^ k
 | 0, _ => Nat.zero_lt_one
 | k + 1, x => by
  have h1 := dig9_lt hg k (x / 256)
  have h2 := hg (x % 256) (Nat.mod_lt _ (by decide))
  rw [dig9, Nat.pow_succ]
  omega
theorem dig9_comp {g h : Nat → Nat} (hg : ∀ b, b < 256 → g b < 256) : ∀ (k x : Nat), dig9 h k (dig9 g k x) = dig9 (fun b => h (g b)) k x
 | 0, _ => rfl
 | k + 1, x => by
  have h2 := hg (x % 256) (Nat.mod_lt _ (by decide))
  rw [dig9, dig9, dig9, ← dig9_comp hg k (x / 256)]
  have e1 : (256 * dig9 g k (x / 256) + g (x % 256)) / 256 = dig9 g k (x / 256) := by omega
  have e2 : (256 * dig9 g k (x / 256) + g (x % 256)) % 256 = g (x % 256) := by omega
  rw [e1, e2]
theorem low4_dig {g : Nat → Nat} (hg : ∀ b, b < 256 → g b < 256 ∧ g b % 16 ≤ 4 ∧ g b / 16 ≤ 4) : ∀ (k x : Nat), Low4 k (dig9 g k x)
 | 0, _ => trivial
 | k + 1, x => by
  have h2 := hg (x % 256) (Nat.mod_lt _ (by decide))
  have e1 : (256 * dig9 g k (x / 256) + g (x % 256)) / 256 = dig9 g k (x / 256) := by omega
  refine ⟨?_, ?_, ?_⟩
  ·show (256 * dig9 g k (x / 256) + g (x % 256)) % 16 ≤ 4
   omega
  ·show (256 * dig9 g k (x / 256) + g (x % 256)) / 16 % 16 ≤ 4
   omega
  ·show Low4 k ((256 * dig9 g k (x / 256) + g (x % 256)) / 256)
   rw [e1]
   exact low4_dig hg k _
def pc9 (b : Nat) : Nat := b % 2 + b / 2 % 2 + b / 4 % 2 + b / 8 % 2 + b / 16 % 2 + b / 32 % 2 + b / 64 % 2 + b / 128 % 2
theorem pc9_ones {b : Nat} (h : b < 256) : ones b = pc9 b := by
 rw [ones_step b, ones_step (b / 2), ones_step (b / 2 / 2), ones_step (b / 2 / 2 / 2), ones_step (b / 2 / 2 / 2 / 2), ones_step (b / 2 / 2 / 2 / 2 / 2), ones_step (b / 2 / 2 / 2 / 2 / 2 / 2), ones_step (b / 2 / 2 / 2 / 2 / 2 / 2 / 2), show b / 2 / 2 / 2 / 2 / 2 / 2 / 2 / 2 = 0 by omega, ones_zero]
 unfold pc9
 omega
theorem swar_all : ∀ b, b < 256 → g3 (g2 (g1 b)) = pc9 b := by decide +kernel
theorem g1_ok : ∀ b, b < 256 → g1 b < 256 := by decide +kernel
theorem g21_ok : ∀ b, b < 256 → g2 (g1 b) < 256 ∧ g2 (g1 b) % 16 ≤ 4 ∧ g2 (g1 b) / 16 ≤ 4 := by decide +kernel
theorem dig9_congr {g h : Nat → Nat} (hg : ∀ b, b < 256 → g b = h b) : ∀ (k x : Nat), dig9 g k x = dig9 h k x
 | 0, _ => rfl
 | k + 1, x => by rw [dig9, dig9, dig9_congr hg k, hg _ (Nat.mod_lt _ (by decide))]
def sumD (g : Nat → Nat) : Nat → Nat → Nat
 | 0, _ => 0
 | k + 1, x => sumD g k (x / 256) + g (x % 256)
theorem sum_ones : ∀ (k x : Nat), x < 256 ^ k → sumD pc9 k x = ones x
 | 0, x, h => by
  obtain rfl : x = 0 := by simpa using h
  rw [ones_zero]
  rfl
 | k + 1, x, h => by
  have hd : x / 256 < 256 ^ k := by
   rw [Nat.pow_succ] at h
   exact (Nat.div_lt_iff_lt_mul (by decide)).2 h
  have e1 : x = 2 ^ 8 * (x / 256) + x % 256 := by
   show x = 256 * (x / 256) + x % 256
   omega
  have hb : x % 256 < 2 ^ 8 := Nat.mod_lt _ (by decide)
  have h2 := ones_add 8 (x / 256) (x % 256) hb
  rw [← e1] at h2
  rw [sumD, sum_ones k _ hd, h2, pc9_ones (Nat.mod_lt _ (by decide))]
theorem pc9_le (b : Nat) : pc9 b ≤ 8 := by unfold pc9; omega
def fold9 (x : Nat) : Nat :=
 let y := x + x / 256
 let z := y + y / 65536
 (z + z / 4294967296) % 128
theorem fold_eight {p0 p1 p2 p3 p4 p5 p6 p7 : Nat} (h0 : p0 ≤ 8) (h1 : p1 ≤ 8) (h2 : p2 ≤ 8) (h3 : p3 ≤ 8) (h4 : p4 ≤ 8) (h5 : p5 ≤ 8) (h6 : p6 ≤ 8) (h7 : p7 ≤ 8) :
 fold9 (256 * (256 * (256 * (256 * (256 * (256 * (256 * (256 * 0 + p7) + p6) + p5) + p4) + p3) + p2) + p1) + p0) = p7 + p6 + p5 + p4 + p3 + p2 + p1 + p0 := by
 unfold fold9
 simp only
 generalize hx : 256 * (256 * (256 * (256 * (256 * (256 * (256 * (256 * 0 + p7) + p6) + p5) + p4) + p3) + p2) + p1) + p0 = x
 have e1 : x / 256 = 256 * (256 * (256 * (256 * (256 * (256 * p7 + p6) + p5) + p4) + p3) + p2) + p1 := by omega
 generalize hy : x + x / 256 = y
 have e2 : y = 256 * (256 * (256 * (256 * (256 * (256 * (256 * p7 + (p6 + p7)) + (p5 + p6)) + (p4 + p5)) + (p3 + p4)) + (p2 + p3)) + (p1 + p2)) + (p0 + p1) := by omega
 have e3 : y / 65536 = 256 * (256 * (256 * (256 * (256 * p7 + (p6 + p7)) + (p5 + p6)) + (p4 + p5)) + (p3 + p4)) + (p2 + p3) := by omega
 clear hx e1 hy
 generalize hz : y + y / 65536 = z
 have e4 : z = 4294967296 * (16777216 * p7 + 65536 * (p6 + p7) + 256 * (p5 + p6 + p7) + (p4 + p5 + p6 + p7)) + (16777216 * (p3 + p4 + p5 + p6) + 65536 * (p2 + p3 + p4 + p5) + 256 * (p1 + p2 + p3 + p4) + (p0 + p1 + p2 + p3)) := by omega
 clear e2 e3 hz
 have e5 : z / 4294967296 = 16777216 * p7 + 65536 * (p6 + p7) + 256 * (p5 + p6 + p7) + (p4 + p5 + p6 + p7) := by omega
 rw [e5, e4]
 omega
theorem popcount {x : Nat} (h : x < 18446744073709551616) :
 fold9 (((((x / 2 &&& 6148914691236517205) + (x &&& 6148914691236517205)) / 4 &&& 3689348814741910323) + (((x / 2 &&& 6148914691236517205) + (x &&& 6148914691236517205)) &&& 3689348814741910323)) / 16 + ((((x / 2 &&& 6148914691236517205) + (x &&& 6148914691236517205)) / 4 &&& 3689348814741910323) + (((x / 2 &&& 6148914691236517205) + (x &&& 6148914691236517205)) &&& 3689348814741910323)) &&& 1085102592571150095) = ones x := by
 have m0 : (6148914691236517205 : Nat) = mk9 85 8 := rfl
 have m1 : (3689348814741910323 : Nat) = mk9 51 8 := rfl
 have m2 : (1085102592571150095 : Nat) = mk9 15 8 := rfl
 have hx : x < 256 ^ 8 := h
 rw [m0, m1, m2, swar1 8 x hx, swar2 8 _ (dig9_lt g1_ok 8 x), dig9_comp g1_ok, swar3 8 _ (dig9_lt (fun b hb => (g21_ok b hb).1) 8 x) (low4_dig g21_ok 8 x), dig9_comp (fun b hb => (g21_ok b hb).1), dig9_congr swar_all, ← sum_ones 8 x hx]
 simp only [dig9, sumD]
 exact (fold_eight (pc9_le _) (pc9_le _) (pc9_le _) (pc9_le _) (pc9_le _) (pc9_le _) (pc9_le _) (pc9_le _)).trans (by omega)
theorem dig9_le {g : Nat → Nat} {c : Nat} (hg : ∀ b, b < 256 → g b ≤ c) : ∀ (k x : Nat), dig9 g k x ≤ mk9 c k
 | 0, _ => Nat.le_refl _
 | k + 1, x => by
  have h1 := dig9_le hg k (x / 256)
  have h2 := hg (x % 256) (Nat.mod_lt _ (by decide))
  rw [dig9, mk9]
  omega
def sw1 (x : Nat) : Nat := (x / 2 &&& 6148914691236517205) + (x &&& 6148914691236517205)
def sw2 (x : Nat) : Nat := (x / 4 &&& 3689348814741910323) + (x &&& 3689348814741910323)
def sw3 (x : Nat) : Nat := x / 16 + x &&& 1085102592571150095
theorem swar_bound {x : Nat} (h : x < 18446744073709551616) : sw1 x < 18446744073709551616 ∧ sw2 (sw1 x) ≤ 4919131752989213764 ∧ sw3 (sw2 (sw1 x)) ≤ 578721382704613384 := by
 have m0 : (6148914691236517205 : Nat) = mk9 85 8 := rfl
 have m1 : (3689348814741910323 : Nat) = mk9 51 8 := rfl
 have m2 : (1085102592571150095 : Nat) = mk9 15 8 := rfl
 have hx : x < 256 ^ 8 := h
 have h68 : ∀ b, b < 256 → g2 (g1 b) ≤ 68 := by decide +kernel
 unfold sw1 sw2 sw3
 rw [m0, m1, m2, swar1 8 x hx, swar2 8 _ (dig9_lt g1_ok 8 x), dig9_comp g1_ok, swar3 8 _ (dig9_lt (fun b hb => (g21_ok b hb).1) 8 x) (low4_dig g21_ok 8 x), dig9_comp (fun b hb => (g21_ok b hb).1), dig9_congr swar_all]
 exact ⟨dig9_lt g1_ok 8 x, dig9_le h68 8 x, dig9_le (fun b _ => pc9_le b) 8 x⟩
theorem pop9 {x : Nat} (h : x < 18446744073709551616) : fold9 (sw3 (sw2 (sw1 x))) = ones x := popcount h
theorem ones_le : ∀ (k x : Nat), x < 2 ^ k → ones x ≤ k
 | 0, x, h => by
  obtain rfl : x = 0 := by simpa using h
  rw [ones_zero]
  exact Nat.le_refl _
 | k + 1, x, h => by
  have := ones_le k (x / 2) (by rw [Nat.pow_succ] at h; omega)
  rw [ones_step]
  omega
def trail (n : Nat) : Nat := if h : n % 2 = 1 then 1 + trail (n / 2) else 0
termination_by n
decreasing_by omega
theorem trail_odd {n : Nat} (h : n % 2 = 1) : trail n = 1 + trail (n / 2) := by rw [trail, dif_pos h]
theorem trail_even {n : Nat} (h : ¬ n % 2 = 1) : trail n = 0 := by rw [trail, dif_neg h]
theorem trail_le (n : Nat) : trail n ≤ ones n := by
 induction n using Nat.strongRecOn with
 | ind n ih =>
  by_cases h : n % 2 = 1
  ·have := ih (n / 2) (by omega)
   rw [trail_odd h, ones_step n, h]
   omega
  ·rw [trail_even h]
   exact Nat.zero_le _
theorem trail_ctz : ∀ (k n : Nat), n + 1 < 2 ^ k → Lib.ctzFrom k (2 ^ k - 1 - n) = trail n
 | 0, n, h => by simp at h
 | k + 1, n, h => by
  rw [Nat.pow_succ] at h ⊢
  unfold Lib.ctzFrom
  by_cases h1 : n % 2 = 1
  ·have h2 : ¬ (2 ^ k * 2 - 1 - n) % 2 = 1 := by omega
   have h3 : (2 ^ k * 2 - 1 - n) / 2 = 2 ^ k - 1 - n / 2 := by omega
   rw [if_neg h2, h3, trail_odd h1, trail_ctz k (n / 2) (by omega)]
  ·have h2 : (2 ^ k * 2 - 1 - n) % 2 = 1 := by omega
   rw [if_pos h2, trail_even h1]
theorem trail_ctz64 {n : Nat} (h : n ≤ 1099511627776) : Lib.ctz 64 (18446744073709551615 - n) = trail n := by
 have := trail_ctz 64 n (by show n + 1 < 18446744073709551616; omega)
 rw [show (2 ^ 64 - 1 - n : Nat) = 18446744073709551615 - n from rfl] at this
 unfold Lib.ctz
 rw [if_neg (by omega), this]
end Go.Sl
