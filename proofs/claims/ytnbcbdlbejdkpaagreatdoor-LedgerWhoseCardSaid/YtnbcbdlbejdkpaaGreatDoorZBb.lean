import Derived.Test.YtnbcbdlbejdkpaaGreatDoorZSu
namespace Go.Sl
open Go
def bookT (V : View) (T : List Nat) : List TokD := T.map fun t : Nat => (tokenL V t).1
def bookB (V : View) (T : List Nat) (W : List (List Nat)) : List (List Nat) := T.flatMap fun t : Nat => W.map fun a => (balL V t a).1
def bookA (V : View) (T : List Nat) (W : List (List Nat)) : List (List Nat) := T.flatMap fun t : Nat => W.flatMap fun a => W.map fun b => (allowedL V t a b).1
section
variable {V U : View}
theorem tokenL_now (h : V.now = U.now) (t : Int) : tokenL V t = tokenL U t := by
  obtain ⟨f, x⟩ := V
  obtain ⟨g, y⟩ := U
  obtain rfl : f = g := h
  rfl
theorem balL_now (h : V.now = U.now) (t : Int) (a : List Nat) : balL V t a = balL U t a := by
  obtain ⟨f, x⟩ := V
  obtain ⟨g, y⟩ := U
  obtain rfl : f = g := h
  rfl
theorem allowedL_now (h : V.now = U.now) (t : Int) (a b : List Nat) : allowedL V t a b = allowedL U t a b := by
  obtain ⟨f, x⟩ := V
  obtain ⟨g, y⟩ := U
  obtain rfl : f = g := h
  rfl
theorem books_now (h : V.now = U.now) (T : List Nat) (W : List (List Nat)) : bookT V T = bookT U T ∧ bookB V T W = bookB U T W ∧ bookA V T W = bookA U T W := by
  refine ⟨?_, ?_, ?_⟩
  · unfold bookT
    simp only [tokenL_now h]
  · unfold bookB
    simp only [balL_now h]
  · unfold bookA
    simp only [allowedL_now h]
end
theorem bookT_len (V : View) (T : List Nat) : (bookT V T).length = T.length := by rw [bookT, List.length_map]
theorem bookT_sup (V : View) (T : List Nat) : ∀ d ∈ bookT V T, d.sup.length = 4 := fun d hd => by
  obtain ⟨t, _, rfl⟩ := List.mem_map.1 hd
  exact (tokenL_ok V _).len
theorem bookB_four (V : View) (T : List Nat) (W : List (List Nat)) : ∀ w ∈ bookB V T W, w.length = 4 := fun w hw => by
  obtain ⟨t, _, h⟩ := List.mem_flatMap.1 hw
  obtain ⟨a, _, rfl⟩ := List.mem_map.1 h
  exact balL_len _ _ _
theorem bookA_four (V : View) (T : List Nat) (W : List (List Nat)) : ∀ w ∈ bookA V T W, w.length = 4 := fun w hw => by
  obtain ⟨t, _, h⟩ := List.mem_flatMap.1 hw
  obtain ⟨a, _, h⟩ := List.mem_flatMap.1 h
  obtain ⟨b, _, rfl⟩ := List.mem_map.1 h
  exact allowedL_len _ _ _ _
end Go.Sl
