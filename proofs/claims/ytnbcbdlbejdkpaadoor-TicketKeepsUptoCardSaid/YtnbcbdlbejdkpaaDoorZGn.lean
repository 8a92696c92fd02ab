/-
  Sums of five words: an amount in, an amount out. A library of this session's own.
-/
import Derived.Test.YtnbcbdlbejdkpaaDoorZKp
namespace Go.Sl
open Go
def valW : List Nat → Nat
  | [] => 0
  | x :: l => x + m64 * valW l
theorem valW_app (a b : List Nat) : valW (a ++ b) = valW a + m64 ^ a.length * valW b := by
  induction a with
  | nil => simp [valW]
  | cons x a ih =>
    simp only [List.cons_append, valW, ih, List.length_cons, Nat.pow_succ, Nat.mul_add]
    have e : m64 * (m64 ^ a.length * valW b) = m64 ^ a.length * m64 * valW b := by ac_rfl
    rw [e]
    omega
theorem valW_take {l : List Nat} {i : Nat} (h : i < l.length) : valW (l.take (i + 1)) = valW (l.take i) + m64 ^ i * l[i] := by
  rw [List.take_succ_eq_append_getElem h, valW_app, List.length_take, Nat.min_eq_left (by omega)]
  simp [valW]
def w5 (n : Nat) : List Nat := [n % m64, n / m64 % m64, n / m64 / m64 % m64, n / m64 / m64 / m64 % m64, n / m64 / m64 / m64 / m64 % m64]
theorem w5_len (n : Nat) : (w5 n).length = 5 := rfl
theorem w5_lt (n : Nat) : ∀ x ∈ w5 n, x < m64 := fun x hx => by
  have hp : 0 < m64 := by decide
  simp only [w5, List.mem_cons, List.not_mem_nil, or_false] at hx
  rcases hx with rfl | rfl | rfl | rfl | rfl <;> exact Nat.mod_lt _ hp
def m320 : Nat := m64 ^ 5
theorem w5_val {n : Nat} (h : n < m320) : valW (w5 n) = n := by
  have e : m320 = m64 * (m64 * (m64 * (m64 * m64))) := by decide
  rw [e] at h
  simp only [w5, valW, Nat.mul_zero, Nat.add_zero]
  have h4 : n / m64 / m64 / m64 / m64 < m64 := by
    rw [Nat.div_div_eq_div_mul, Nat.div_div_eq_div_mul, Nat.div_div_eq_div_mul]
    refine Nat.div_lt_of_lt_mul ?_
    have e2 : m64 * (m64 * (m64 * m64)) * m64 = m64 * (m64 * (m64 * (m64 * m64))) := by ac_rfl
    rw [e2]
    exact h
  rw [Nat.mod_eq_of_lt h4, Nat.mod_add_div, Nat.mod_add_div, Nat.mod_add_div, Nat.mod_add_div]
theorem w5_of {l : List Nat} (hl : l.length = 5) (h : ∀ x ∈ l, x < m64) : l = w5 (valW l) := by
  match l, hl with
  | [a, b, c, d, e], _ =>
    have ha := h a (by simp)
    have hb := h b (by simp)
    have hc := h c (by simp)
    have hd := h d (by simp)
    have he := h e (by simp)
    have hp : 0 < m64 := by decide
    have s : ∀ x y, x < m64 → (x + m64 * y) % m64 = x ∧ (x + m64 * y) / m64 = y := fun x y hx => ⟨by rw [Nat.add_mul_mod_self_left, Nat.mod_eq_of_lt hx], by rw [Nat.add_mul_div_left _ _ hp, Nat.div_eq_of_lt hx, Nat.zero_add]⟩
    simp only [valW, w5, Nat.mul_zero, Nat.add_zero]
    rw [(s a _ ha).1, (s a _ ha).2, (s b _ hb).1, (s b _ hb).2, (s c _ hc).1, (s c _ hc).2, (s d _ hd).1, (s d _ hd).2, Nat.mod_eq_of_lt he]
theorem valW_lt {l : List Nat} (h : ∀ x ∈ l, x < m64) : valW l < m64 ^ l.length := by
  induction l with
  | nil => simp [valW]
  | cons x l ih =>
    have h1 := ih fun y hy => h y (List.mem_cons_of_mem _ hy)
    have h2 := h x List.mem_cons_self
    have h3 : m64 * (valW l + 1) ≤ m64 * m64 ^ l.length := Nat.mul_le_mul_left _ h1
    rw [Nat.mul_add, Nat.mul_one] at h3
    simp only [valW, List.length_cons, Nat.pow_succ]
    rw [Nat.mul_comm (m64 ^ l.length)]
    omega
theorem nat4_valW {w : List Nat} (h : w.length = 4) : nat4 w = valW (w ++ [0]) := by
  match w, h with
  | [a, b, c, d], _ =>
    simp [nat4, valW]
/-- What is known of the sum's lower words, on the way. -/
def RelG (l : Bool) (A P c R Bv : Nat) : Prop := if l = true then A + P * c = R + Bv else R + P * c = A + Bv
theorem RelG.step {l : Bool} {A P c R Bv x y r c' : Nat} (h : RelG l A P c R Bv) (h1 : if l = true then x + m64 * c' = r + y + c else r + m64 * c' = x + y + c) : RelG l (A + P * x) (P * m64) c' (R + P * r) (Bv + P * y) := by
  have d : ∀ u v w s t z : Nat, u + m64 * v = w + s + t → P * u + P * m64 * v = P * w + P * s + P * t := fun u v w s t z e => by
    rw [Nat.mul_assoc, ← Nat.mul_add, e, Nat.mul_add, Nat.mul_add]
  unfold RelG at *
  cases l with
  | true =>
    simp only [if_true] at *
    have := d x c' r y c 0 h1
    omega
  | false =>
    simp only [Bool.false_eq_true, if_false] at *
    have := d r c' x y c 0 h1
    omega
theorem grown_add {a w R : List Nat} {c A : Nat} (hR : R.length = 5) (hRl : ∀ x ∈ R, x < m64) (ha : a = w5 A) (hw : w.length = 4) (hA : A + nat4 w < m320) (h : RelG false (valW a) (m64 ^ 5) c (valW R) (valW (w ++ [0]))) : R = w5 (A + nat4 w) := by
  rw [← nat4_valW hw, ha, w5_val (by omega)] at h
  have h2 : valW R + m64 ^ 5 * c = A + nat4 w := h
  have hc : c = 0 := by
    rcases Nat.eq_zero_or_pos c with e | e
    · exact e
    · exfalso
      have : m64 ^ 5 * 1 ≤ m64 ^ 5 * c := Nat.mul_le_mul_left _ e
      rw [m320] at hA
      omega
  rw [hc, Nat.mul_zero, Nat.add_zero] at h2
  rw [← h2]
  exact w5_of hR hRl
theorem grown_sub {a w R : List Nat} {c A : Nat} (hR : R.length = 5) (hRl : ∀ x ∈ R, x < m64) (ha : a = w5 A) (hw : w.length = 4) (hA : A < m320) (hle : nat4 w ≤ A) (h : RelG true (valW a) (m64 ^ 5) c (valW R) (valW (w ++ [0]))) : R = w5 (A - nat4 w) := by
  rw [← nat4_valW hw, ha, w5_val hA] at h
  have h2 : A + m64 ^ 5 * c = valW R + nat4 w := h
  have hlt := valW_lt hRl
  rw [hR] at hlt
  have hc : c = 0 := by
    rcases Nat.eq_zero_or_pos c with e | e
    · exact e
    · exfalso
      have : m64 ^ 5 * 1 ≤ m64 ^ 5 * c := Nat.mul_le_mul_left _ e
      omega
  rw [hc, Nat.mul_zero, Nat.add_zero] at h2
  have e : A - nat4 w = valW R := by omega
  rw [e]
  exact w5_of hR hRl
theorem u64_sum (x y : Nat) : IntKind.u64.wrap ((x : Int) + (y : Int)) = (((x + y) % m64 : Nat) : Int) := by
  show ((x : Int) + y) % (2 ^ 64 : Int) = _
  simp only [m64]
  omega
theorem u64_dif (x y : Nat) (hx : x < m64) (hy : y < m64) : IntKind.u64.wrap ((x : Int) - (y : Int)) = ((if x < y then x + m64 - y else x - y : Nat) : Int) := by
  show ((x : Int) - y) % (2 ^ 64 : Int) = _
  simp only [m64] at *
  split <;> omega
end Go.Sl
