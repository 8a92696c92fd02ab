import Derived.Test.YtjkldhalmglkpaaDoorZTk
namespace Go.Sl
open Go
def lv (find : ByteArray → List Nat × Int) (c : StC) (k : ByteArray) : List Nat := match getK c.now k with
 | some p => p.2
 | none => match getK c.has k with
  | some p => p.2
  | none => (find k).1
/-! Steps taken back -/
def StC.nowF (c : StC) (k : ByteArray) : Option (List Nat) := (getK c.now k).map (·.2)
def undo1 (x : StepC) (f : ByteArray → Option (List Nat)) : ByteArray → Option (List Nat) := fun k => if k = x.key then (if x.laid = true then some x.bs else none) else f k
def undoTo (l : List StepC) (a : Nat) (f : ByteArray → Option (List Nat)) : ByteArray → Option (List Nat) := (l.drop a).foldr undo1 f
def hasF (find : ByteArray → List Nat × Int) (c : StC) (k : ByteArray) : List Nat := match getK c.has k with
 | some p => p.2
 | none => (find k).1
def rb (find : ByteArray → List Nat × Int) (c : StC) (a : Nat) (k : ByteArray) : List Nat := (undoTo c.steps a c.nowF k).getD (hasF find c k)
theorem lv_eq (find : ByteArray → List Nat × Int) (c : StC) (k : ByteArray) : lv find c k = (c.nowF k).getD (hasF find c k) := by
 unfold lv StC.nowF
 cases getK c.now k <;> rfl
structure Same (find : ByteArray → List Nat × Int) (c c' : StC) : Prop where
 lv : ∀ k, lv find c' k = lv find c k
 wf : c'.wf
 steps : c'.steps.length = c.steps.length
 marks : c'.marks = c.marks
 rb : ∀ a, a ≤ c.steps.length → ∀ k, rb find c' a k = rb find c a k
theorem AskOk.hasF {find : ByteArray → List Nat × Int} {c c' : StC} {key : ByteArray} (h : AskOk find c key c') (k : ByteArray) : hasF find c' k = hasF find c k := by
 rcases h.out with ⟨_, rfl⟩ | ⟨h1, x, hx, hl, rfl⟩
 ·rfl
 ·simp only [Go.Sl.hasF, getK_put]
  by_cases hk : k = key
  ·subst hk; simp [h1]
  ·simp [hk]
theorem AskOk.same {find : ByteArray → List Nat × Int} {c c' : StC} {key : ByteArray} (h : AskOk find c key c') (hw : c.wf) : Same find c c' := by
 have hv := h.val
 have hn : c'.nowF = c.nowF := by unfold StC.nowF; rw [hv.1]
 refine ⟨fun k => ?_, h.wf hw, by rw [hv.2.1], hv.2.2.2, fun a _ k => ?_⟩
 ·rw [lv_eq, lv_eq, h.hasF, hn]
 ·unfold Go.Sl.rb
  rw [hv.2.1, hn, h.hasF]
theorem AskOk.known {find : ByteArray → List Nat × Int} {c c' : StC} {key : ByteArray} (h : AskOk find c key c') : (getK c'.has key).isSome = true := by
 rcases h.out with ⟨h1, rfl⟩ | ⟨h1, x, hx, hl, rfl⟩
 ·exact h1
 ·simp [getK_put]
theorem AskOk.tells {find : ByteArray → List Nat × Int} {c c' : StC} {key : ByteArray} (h : AskOk find c key c') (hw : c.wf) : c'.val key = lv find c key := by
 rw [← (h.same hw).lv key]
 have hk := h.known
 simp only [StC.val, lv]
 cases getK c'.now key with
 | some p => rfl
 | none =>
  cases hg : getK c'.has key with
  | some p => rfl
  | none => rw [hg] at hk; cases hk
theorem mayI_le {key : ByteArray} {n : Nat} (h : mayI key n = 0) : n ≤ 4096 ∧ mayI key 0 = 0 := by
 unfold mayI at *
 split at h
 ·cases h
 ·rename_i h1
  split at h
  ·cases h
  ·rename_i h2
   rw [if_neg h1, if_neg (by decide)]
   exact ⟨by omega, rfl⟩
structure SrcOk (find : ByteArray → List Nat × Int) : Prop where
 ok : ∀ k, mayI k 0 = 0 → (find k).2 = 0
 len : ∀ k, (find k).1.length ≤ 4096
theorem SrcOk.ask {find : ByteArray → List Nat × Int} (h : SrcOk find) {c : StC} {key : ByteArray} (hk : mayI key 0 = 0) : askE find c key = 0 := by
 unfold askE
 split
 ·rfl
 ·rw [h.ok key hk]
  have := h.len key
  simp
  omega
theorem StoreG.ent {P : Program} {F L M : List HP} {n : Nat} {a : Value} {cs : List Value} {k : List HP → Prop} (hL : Ent L M) (h : StoreG P F n a cs M k) : StoreG P F n a cs L k := by
 obtain ⟨p, L', ha, hn, hw, hk⟩ := h
 exact ⟨p, L', ha, hn, fun w hs => hw w (hL w F hs), hk⟩
theorem Ent.last {L : List HP} {p : HP} : Ent (L ++ [p]) (p :: L) := Ent.perm (List.perm_append_comm (l₁ := L) (l₂ := [p]))
end Go.Sl
