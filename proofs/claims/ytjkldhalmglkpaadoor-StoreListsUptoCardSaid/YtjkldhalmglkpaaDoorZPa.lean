import Derived.Test.YtjkldhalmglkpaaDoorZTt
namespace Go.Sl
open Go
structure PairD where
 key : ByteArray
 v : Value
 bs : List Nat
def PairD.cells (p : PairD) : List Value := [.string p.key, p.v]
def pairsC (l : List PairD) : List Value := l.flatMap PairD.cells
theorem pairsC_get {l : List PairD} {i : Nat} {p : PairD} (h : l[i]? = some p) : (pairsC l)[i * 2]? = some (.string p.key) ∧ (pairsC l)[i * 2 + 1]? = some p.v := by
 induction l generalizing i with
 | nil => simp at h
 | cons y l ih =>
  cases i with
  | zero => simp at h; subst h; exact ⟨rfl, rfl⟩
  | succ i =>
   have h2 := ih (i := i) (by simpa using h)
   have e : ∀ j, (pairsC (y :: l))[j + 2]? = (pairsC l)[j]? := fun j => by
    show (Value.string y.key :: y.v :: pairsC l)[j + 2]? = _
    simp
   rw [show (i + 1) * 2 = i * 2 + 2 by omega, e, show i * 2 + 2 + 1 = (i * 2 + 1) + 2 by omega, e]
   exact h2
section
variable {α : Type} (kf : α → ByteArray)
end
end Go.Sl
