import Derived.Test.YtjkldhalmglkpaaDoorZWd
namespace Go.Sl
open Go
def val2 : List Nat → Nat
 | [] => 0
 | b :: bs => b + 2 * val2 bs
theorem val2_app (a b : List Nat) : val2 (a ++ b) = val2 a + 2 ^ a.length * val2 b := by
 induction a with
 | nil => simp [val2]
 | cons x a ih => simp only [List.cons_append, val2, ih, List.length_cons, Nat.pow_succ, Nat.mul_add]; rw [Nat.mul_comm (2 ^ a.length) 2, Nat.mul_assoc]; omega
def isBits (l : List Nat) : Prop := ∀ b ∈ l, b < 2
theorem val2_lt {l : List Nat} (h : isBits l) : val2 l < 2 ^ l.length := by
 induction l with
 | nil => simp [val2]
 | cons b l ih =>
  have h1 := h b (by simp)
  have h2 := ih (fun x hx => h x (by simp [hx]))
  simp only [val2, List.length_cons, Nat.pow_succ]
  omega
theorem parts {a b : List Nat} (ha : isBits a) {i : Nat} (h1 : i < a.length) (h2 : i < b.length) (hd : a.drop (i + 1) = b.drop (i + 1)) (hlt : a[i] < b[i]) : val2 a < val2 b := by
 have ea : a = a.take i ++ (a[i] :: a.drop (i + 1)) := by rw [← List.drop_eq_getElem_cons h1, List.take_append_drop]
 have eb : b = b.take i ++ (b[i] :: b.drop (i + 1)) := by rw [← List.drop_eq_getElem_cons h2, List.take_append_drop]
 have la : (a.take i).length = i := by rw [List.length_take]; omega
 have lb : (b.take i).length = i := by rw [List.length_take]; omega
 have hv : val2 (a.take i) < 2 ^ i := by
  have := val2_lt (l := a.take i) (fun x hx => ha x (List.mem_of_mem_take hx))
  rwa [la] at this
 have v1 : val2 a = val2 (a.take i) + 2 ^ i * (a[i] + 2 * val2 (a.drop (i + 1))) := by
  conv => lhs; rw [ea]
  rw [val2_app, la, val2]
 have v2 : val2 b = val2 (b.take i) + 2 ^ i * (b[i] + 2 * val2 (b.drop (i + 1))) := by
  conv => lhs; rw [eb]
  rw [val2_app, lb, val2]
 rw [v1, v2, hd]
 have h3 : 2 ^ i * (a[i] + 2 * val2 (b.drop (i + 1))) + 2 ^ i * 1 ≤ 2 ^ i * (b[i] + 2 * val2 (b.drop (i + 1))) := by
  rw [← Nat.mul_add]
  exact Nat.mul_le_mul_left _ (by omega)
 omega
end Go.Sl
