import Derived.Test.YtjkldhalmglkpaaDoorZSm
namespace Go.Sl
open Go
def bv (b : Nat) : Value := .int .u8 b
def bvs (l : List Nat) : List Value := l.map bv
theorem bvs_len (l : List Nat) : (bvs l).length = l.length := by simp [bvs]
theorem bvs_one (l : List Nat) : ∀ u ∈ bvs l, u.oneCell' = true := fun u hu => by
 obtain ⟨b, _, rfl⟩ := List.mem_map.1 hu
 rfl
theorem bvs_get {l : List Nat} {i : Nat} (h : i < l.length) : (bvs l)[i]? = some (bv l[i]) := by simp [bvs, h]
def be (n : Nat) : Nat → List Nat
 | 0 => []
 | k + 1 => n / 256 ^ k % 256 :: be n k
theorem be_len (n k : Nat) : (be n k).length = k := by induction k with
 | zero => rfl
 | succ k ih => simp [be, ih]
theorem be_get (n : Nat) : ∀ {k i : Nat} (h : i < k), (be n k)[i]? = some (n / 256 ^ (k - 1 - i) % 256)
 | k + 1, 0, _ => by simp [be]
 | k + 1, i + 1, h => by
  have := be_get n (k := k) (i := i) (by omega)
  simp only [be, List.getElem?_cons_succ, this]
  rw [show k + 1 - 1 - (i + 1) = k - 1 - i by omega]
def fillB (f : Nat → Nat) (n i : Nat) : List Nat := (List.range n).map fun j => if j < i then f j else 0
theorem fillB_len (f : Nat → Nat) (n i : Nat) : (fillB f n i).length = n := by simp [fillB]
theorem fillB_zero (f : Nat → Nat) (n : Nat) : fillB f n 0 = List.replicate n 0 := by
 apply List.ext_getElem <;> simp [fillB]
theorem fillB_set (f : Nat → Nat) {n i : Nat} (h : i < n) : (bvs (fillB f n i)).set i (bv (f i)) = bvs (fillB f n (i + 1)) := by
 rw [bvs, bvs, ← List.map_set]
 congr 1
 apply List.ext_getElem
 ·simp [fillB]
 ·intro j h1 h2
  simp only [fillB, List.getElem_set, List.getElem_map, List.getElem_range]
  simp only [fillB, List.length_map, List.length_range] at h2
  by_cases hj : i = j
  ·subst hj; simp
  ·rw [if_neg hj]
   by_cases hl : j < i
   ·rw [if_pos hl, if_pos (by omega)]
   ·rw [if_neg hl, if_neg (by omega)]
theorem fillB_all (f : Nat → Nat) (n : Nat) : fillB f n n = (List.range n).map f := by
 apply List.map_congr_left
 intro j hj
 rw [if_pos (List.mem_range.1 hj)]
theorem wt_rep {k : LK} : ∀ {xs : List Value} (n : Nat), xs.length = n → (∀ u ∈ xs, wtV k u) → wt (List.replicate n k) xs
 | [], _, h, _ => by cases h; exact trivial
 | x :: xs, _, h, hu => by cases h; exact ⟨hu x (by simp), wt_rep _ rfl (fun u h => hu u (by simp [h]))⟩
theorem wt_bvs {ws : List Nat} {n : Nat} (h : ws.length = n) : wt (List.replicate n (.int .u8)) (bvs ws) := wt_rep n (by simp [bvs, h]) fun u hu => by
 obtain ⟨b, _, rfl⟩ := List.mem_map.1 hu
 rfl
theorem bvs_inj {l m : List Nat} : bvs l = bvs m ↔ l = m := by
 constructor
 ·intro h
  induction l generalizing m with
  | nil => cases m <;> simp [bvs] at h ⊢
  | cons a l ih => cases m with
   | nil => simp [bvs] at h
   | cons b m =>
    simp only [bvs, List.map_cons, List.cons.injEq, bv, Value.int.injEq] at h
    rw [ih h.2]
    congr 1
    omega
 ·rintro rfl; rfl
structure LeafD where
 idx : Int
 ent : Int
 tok : Int
 to : List Nat
 amt : List Nat
def mayCount (n : Int) : Prop := 0 ≤ n ∧ n < 1099511627776
instance (n : Int) : Decidable (mayCount n) := inferInstanceAs (Decidable (_ ∧ _))
end Go.Sl
