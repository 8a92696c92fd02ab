import Derived.Test.YtjkldhalmglkpaaDoorZTt
namespace Go.Sl
open Go
structure PairD where
 key : ByteArray
 v : Value
 bs : List Nat
def PairD.cells (p : PairD) : List Value := [.string p.key, p.v]
def pairsC (l : List PairD) : List Value := l.flatMap PairD.cells
theorem pairsC_len (l : List PairD) : (pairsC l).length = l.length * 2 := by
 induction l with
 | nil => rfl
 | cons x l ih =>
  show (x.cells ++ pairsC l).length = _
  rw [List.length_append, ih]
  show 2 + l.length * 2 = (l.length + 1) * 2
  omega
theorem pairsC_app (l m : List PairD) : pairsC (l ++ m) = pairsC l ++ pairsC m := by simp [pairsC]
theorem pairsC_get {l : List PairD} {i : Nat} {p : PairD} (h : l[i]? = some p) : (pairsC l)[i * 2]? = some (.string p.key) ∧ (pairsC l)[i * 2 + 1]? = some p.v := by
 induction l generalizing i with
 | nil => simp at h
 | cons y l ih =>
  cases i with
  | zero => simp at h; subst h; exact ⟨rfl, rfl⟩
  | succ i =>
   have h2 := ih (i := i) (by simpa using h)
   have e : ∀ j, (pairsC (y :: l))[j + 2]? = (pairsC l)[j]? := fun j => by
    show (Value.string y.key :: y.v :: pairsC l)[j + 2]? = _
    simp
   rw [show (i + 1) * 2 = i * 2 + 2 by omega, e, show i * 2 + 2 + 1 = (i * 2 + 1) + 2 by omega, e]
   exact h2
theorem pairsC_at {l : List PairD} {i : Nat} {p : PairD} (h : l[i]? = some p) : ((pairsC l).drop (i * 2)).take 2 = p.cells := by
 obtain ⟨h1, h2⟩ := pairsC_get h
 apply List.ext_getElem?
 intro j
 rw [List.getElem?_take]
 match j with
 | 0 => rw [if_pos (by decide), List.getElem?_drop, Nat.add_zero, h1]; rfl
 | 1 => rw [if_pos (by decide), List.getElem?_drop, h2]; rfl
 | j + 2 => rw [if_neg (by omega)]; rfl
section
variable {α : Type} (kf : α → ByteArray)
end
def PairD.e (p : PairD) : ByteArray × List Nat := (p.key, p.bs)
end Go.Sl
