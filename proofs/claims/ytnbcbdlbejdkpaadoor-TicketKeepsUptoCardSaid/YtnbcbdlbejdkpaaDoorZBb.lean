/-
  LedgerBack's plain part: all that a ledger tells of some people and tokens, as lists; steps that ask or turn leave the marks. A library of this session's own.
-/
import Derived.Test.YtnbcbdlbejdkpaaDoorZSu
namespace Go.Sl
open Go
def bookT (V : View) (T : List Nat) : List TokD := T.map fun t : Nat => (tokenL V t).1
def bookB (V : View) (T : List Nat) (W : List (List Nat)) : List (List Nat) := T.flatMap fun t : Nat => W.map fun a => (balL V t a).1
def bookA (V : View) (T : List Nat) (W : List (List Nat)) : List (List Nat) := T.flatMap fun t : Nat => W.flatMap fun a => W.map fun b => (allowedL V t a b).1
theorem coverL (l : List (List Nat)) : ∃ W : List (List Nat), W.Nodup ∧ ∀ a ∈ l, a ∈ W := by
  induction l with
  | nil => exact ⟨[], .nil, by simp⟩
  | cons a l ih =>
    obtain ⟨W, h1, h2⟩ := ih
    by_cases h : a ∈ W
    · exact ⟨W, h1, fun b hb => by rcases List.mem_cons.1 hb with rfl | hb; exact h; exact h2 b hb⟩
    · exact ⟨a :: W, List.nodup_cons.2 ⟨h, h1⟩, fun b hb => by
        rcases List.mem_cons.1 hb with rfl | hb
        · exact List.mem_cons_self
        · exact List.mem_cons_of_mem _ (h2 b hb)⟩
section
variable {V U : View}
theorem tokenL_now (h : V.now = U.now) (t : Int) : tokenL V t = tokenL U t := by
  obtain ⟨f, x⟩ := V
  obtain ⟨g, y⟩ := U
  obtain rfl : f = g := h
  rfl
theorem balL_now (h : V.now = U.now) (t : Int) (a : List Nat) : balL V t a = balL U t a := by
  obtain ⟨f, x⟩ := V
  obtain ⟨g, y⟩ := U
  obtain rfl : f = g := h
  rfl
theorem allowedL_now (h : V.now = U.now) (t : Int) (a b : List Nat) : allowedL V t a b = allowedL U t a b := by
  obtain ⟨f, x⟩ := V
  obtain ⟨g, y⟩ := U
  obtain rfl : f = g := h
  rfl
theorem books_now (h : V.now = U.now) (T : List Nat) (W : List (List Nat)) : bookT V T = bookT U T ∧ bookB V T W = bookB U T W ∧ bookA V T W = bookA U T W := by
  refine ⟨?_, ?_, ?_⟩
  · unfold bookT
    simp only [tokenL_now h]
  · unfold bookB
    simp only [balL_now h]
  · unfold bookA
    simp only [allowedL_now h]
theorem stepL_same (V : View) {x : StepD} (h : pickN x.what 13 < 11) : (stepL V x).2.hist = V.hist := by
  unfold stepL
  generalize pickN x.what 13 = k at h
  unfold stepN
  by_cases e : k = 0
  · rw [if_pos e]; exact registerL_hist _
  rw [if_neg e]
  by_cases e : k = 1
  · rw [if_pos e]; exact pauseL_hist _
  rw [if_neg e]
  by_cases e : k = 2
  · rw [if_pos e]; exact resumeL_hist _
  rw [if_neg e]
  by_cases e : k = 3
  · rw [if_pos e]; exact mintL_hist _ _ _
  rw [if_neg e]
  by_cases e : k = 4
  · rw [if_pos e]; exact burnL_hist _ _ _
  rw [if_neg e]
  by_cases e : k = 5
  · rw [if_pos e]; exact moveL_hist _ _ _ _
  rw [if_neg e]
  by_cases e : k = 6
  · rw [if_pos e]; exact allowL_hist _ _ _ _
  rw [if_neg e]
  by_cases e : k = 7
  · rw [if_pos e]; exact pullL_hist _ _ _ _ _
  rw [if_neg e]
  by_cases e : k = 8
  · rw [if_pos e]
  rw [if_neg e]
  by_cases e : k = 9
  · rw [if_pos e]
  rw [if_neg e]
  by_cases e : k = 10
  · rw [if_pos e]
  rw [if_neg e]
  omega
theorem backV_last {H : List (ByteArray → List Nat)} {f : ByteArray → List Nat} (h : V.hist = H ++ [f]) : backE V H.length = 0 ∧ (backV V H.length).now = f := by
  have h1 : ¬((H.length : Int) < 0 ∨ (V.hist.length : Int) ≤ (H.length : Int)) := by
    rw [h, List.length_append, List.length_singleton]
    omega
  have h2 : V.hist[H.length]? = some f := by
    rw [h, List.getElem?_append_right (Nat.le_refl _), Nat.sub_self]
    rfl
  refine ⟨by unfold backE; rw [if_neg h1], ?_⟩
  unfold backV
  rw [if_neg h1, Int.toNat_natCast, h2]
end
theorem bookT_len (V : View) (T : List Nat) : (bookT V T).length = T.length := by rw [bookT, List.length_map]
theorem bookT_sup (V : View) (T : List Nat) : ∀ d ∈ bookT V T, d.sup.length = 4 := fun d hd => by
  obtain ⟨t, _, rfl⟩ := List.mem_map.1 hd
  exact (tokenL_ok V _).len
theorem bookB_four (V : View) (T : List Nat) (W : List (List Nat)) : ∀ w ∈ bookB V T W, w.length = 4 := fun w hw => by
  obtain ⟨t, _, h⟩ := List.mem_flatMap.1 hw
  obtain ⟨a, _, rfl⟩ := List.mem_map.1 h
  exact balL_len _ _ _
theorem bookA_four (V : View) (T : List Nat) (W : List (List Nat)) : ∀ w ∈ bookA V T W, w.length = 4 := fun w hw => by
  obtain ⟨t, _, h⟩ := List.mem_flatMap.1 hw
  obtain ⟨a, _, h⟩ := List.mem_flatMap.1 h
  obtain ⟨b, _, rfl⟩ := List.mem_map.1 h
  exact allowedL_len _ _ _ _
end Go.Sl
