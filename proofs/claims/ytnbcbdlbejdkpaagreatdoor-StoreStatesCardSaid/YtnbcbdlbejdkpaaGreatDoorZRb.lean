/-
  The document's bytes of numbers, filled from the end. A library of this session's own.
-/
import Derived.Test.YtnbcbdlbejdkpaaGreatDoorZBk
import Derived.Test.YtnbcbdlbejdkpaaGreatDoorZDg
namespace Go.Sl
open Go
theorem be_at (n : Nat) : ∀ (k i : Nat), i < k → (be n k)[i]? = some (n / 256 ^ (k - 1 - i) % 256)
  | 0, i, h => by omega
  | k + 1, 0, _ => by simp [be]
  | k + 1, i + 1, h => by
    simp only [be, List.getElem?_cons_succ]
    rw [be_at n k i (by omega)]
    congr 4
    omega
def tailN (l : List Nat) (i : Nat) : List Nat := List.replicate i 0 ++ l.drop i
theorem tailN_len {l : List Nat} {i : Nat} (h : i ≤ l.length) : (tailN l i).length = l.length := by simp [tailN]; omega
theorem tailN_zero (l : List Nat) : tailN l 0 = l := by simp [tailN]
theorem tailN_all (l : List Nat) : tailN l l.length = List.replicate l.length 0 := by simp [tailN]
theorem tailN_set {l : List Nat} {i : Nat} (h : i < l.length) : (bvs (tailN l (i + 1))).set i (bv l[i]) = bvs (tailN l i) := by
  have e1 : bvs (tailN l (i + 1)) = bvs (List.replicate i 0) ++ (bv 0 :: bvs (l.drop (i + 1))) := by
    rw [tailN, List.replicate_succ', bvs, List.map_append, List.map_append, List.append_assoc]; rfl
  have e2 : bvs (tailN l i) = bvs (List.replicate i 0) ++ (bv l[i] :: bvs (l.drop (i + 1))) := by
    rw [tailN, List.drop_eq_getElem_cons h, bvs, List.map_append]; rfl
  have hl : (bvs (List.replicate i 0)).length = i := by rw [bvs_len, List.length_replicate]
  rw [e1, e2, List.set_append_right _ _ (by omega), hl, Nat.sub_self]
  rfl
theorem wideB_get (ws : List Nat) {i k : Nat} (hi : i < 4) (hk : k < 8) : (wideB ws)[31 - (8 * i + k)]? = some (ws.getD i 0 / 256 ^ k % 256) := by
  unfold wideB
  rw [List.getElem?_map, List.getElem?_range (by omega)]
  simp only [Option.map_some]
  rw [show 3 - (31 - (8 * i + k)) / 8 = i by omega, show 7 - (31 - (8 * i + k)) % 8 = k by omega]
theorem strip_drop {l : List Nat} : ∀ {i : Nat}, (∀ j, j < i → l.getD j 0 = 0) → i ≤ l.length → strip l = strip (l.drop i)
  | 0, _, _ => by simp
  | i + 1, h, hl => by
    have h0 := strip_drop (l := l) (i := i) (fun j hj => h j (by omega)) (by omega)
    have hi := h i (by omega)
    have hlt : i < l.length := by omega
    have hg : l[i] = 0 := by simpa [List.getD, hlt] using hi
    rw [h0, List.drop_eq_getElem_cons hlt, hg]
    simp [strip]
theorem strip_at {l : List Nat} {i : Nat} (h : ∀ j, j < i → l.getD j 0 = 0) (hi : i < l.length) (hn : l[i] ≠ 0) : strip l = l.drop i := by
  rw [strip_drop h (by omega), List.drop_eq_getElem_cons hi]
  exact strip_cons hn
theorem strip_none {l : List Nat} (h : ∀ j, j < l.length → l.getD j 0 = 0) : strip l = [] := by
  rw [strip_drop (i := l.length) h (Nat.le_refl _), List.drop_length]
  rfl
end Go.Sl
