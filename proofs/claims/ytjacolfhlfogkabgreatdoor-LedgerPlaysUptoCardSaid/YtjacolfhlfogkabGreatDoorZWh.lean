import Derived.Test.YtjacolfhlfogkabGreatDoorZTt
import Derived.Test.YtjacolfhlfogkabGreatDoorZBs
namespace Go.Sl
open Go
section
variable {L M A : List HP} {sz n k c : Nat} {a : Option Addr} {cs : List Value}
theorem own_take (hk : k ≤ n) : Ent (own sz (.slice a n c) n cs :: L) (own sz (.slice a k c) k (cs.take (k * sz)) :: L) := fun w F hs => by
 have hs' : Sat w (own sz (.slice a n c) n cs :: (L ++ F)) := hs
 cases a with
 | none =>
  rcases hs'.ownV with ⟨h, rfl⟩ | ⟨g, cap, h, _⟩
  ·cases h
   obtain ⟨_, rfl, h3⟩ := hs'.own_nil_open
   obtain rfl : k = 0 := by omega
   rw [List.take_nil]
   exact Sat.own_nil h3
  ·cases h
 | some p =>
  rcases hs'.ownV with ⟨h, _⟩ | ⟨g, cap, h, hn⟩
  ·cases h
  ·cases h
   obtain ⟨t, rest, h1, h2, h3, h4, h5⟩ := hs'.own_open
   have hle : k * sz ≤ cs.length := by rw [h3]; exact Nat.mul_le_mul_right _ hk
   have h6 : Sat w (blk g (.cells ⟨cs.take (k * sz) ++ (cs.drop (k * sz) ++ rest)⟩ t (0, 0)) :: (L ++ F)) := by
    rw [← List.append_assoc, List.take_append_drop]
    exact h5
   exact h6.own_of (by omega) h2 (by rw [List.length_take]; omega) (by rw [← List.append_assoc, List.take_append_drop]; exact h4)
theorem kvS_del {K : Type} [DecidableEq K] {l : List (KV K)} {x : K} : Ent (kvS l ++ M) (kvS (delK l x) ++ M) := by
 unfold delK
 induction l with
 | nil => exact Ent.refl _
 | cons p l ih =>
  rw [List.filter_cons]
  split
  ·exact Ent.cons _ ih
  ·exact (Ent.drop _).trans ih
theorem steps_dup {l : List StepC} {x : StepC} (h : x ∈ l) : Ent (stepsS l) (sh x.was x.bs :: stepsS l) := by
 induction l with
 | nil => cases h
 | cons y l ih =>
  rcases List.mem_cons.1 h with rfl | h
  ·exact dup_ent (sh_twice _ _)
  ·exact (Ent.cons _ (ih h)).trans (Ent.perm (List.Perm.swap _ _ _))
theorem steps_dup' {l : List StepC} {x : StepC} (h : x ∈ l) : Ent (A ++ stepsS l) (sh x.was x.bs :: (A ++ stepsS l)) :=
 (Ent.under (steps_dup h) A).trans (Ent.perm List.perm_middle)
theorem steps_take {l : List StepC} {i : Nat} : Ent (stepsS l) (stepsS (l.take i)) := by
 have e : stepsS l = stepsS (l.take i) ++ stepsS (l.drop i) := by
  unfold stepsS
  rw [← List.map_append, List.take_append_drop]
 rw [e]
 exact Ent.dropL _ _
theorem Ent.app {l m : List HP} (h : Ent l m) (ws : List HP) : Ent (l ++ ws) (m ++ ws) := fun w F hs => by
 rw [List.append_assoc] at *
 exact h w _ hs
theorem back_put {l : List (KV ByteArray)} {st : List StepC} {x : StepC} (h : x ∈ st) : Ent (kvS l ++ stepsS st) (kvS (putK l x.key x.was x.bs) ++ stepsS st) := (steps_dup' h).trans kvS_put
end
theorem stepsC_at {l : List StepC} {i : Nat} {x : StepC} (h : l[i]? = some x) : ((stepsC l).drop (i * 3)).take 3 = x.cells := by
 induction l generalizing i with
 | nil => simp at h
 | cons y l ih =>
  cases i with
  | zero => simp at h; subst h; rfl
  | succ i =>
   show ((y.cells ++ stepsC l).drop ((i + 1) * 3)).take 3 = _
   have e : (i + 1) * 3 = y.cells.length + i * 3 := by
    show (i + 1) * 3 = 3 + i * 3
    omega
   rw [e, ← List.drop_drop, List.drop_left]
   exact ih (by simpa using h)
theorem stepsC_take (l : List StepC) (i : Nat) : (stepsC l).take (i * 3) = stepsC (l.take i) := by
 induction l generalizing i with
 | nil => simp [stepsC]
 | cons y l ih =>
  cases i with
  | zero => rw [Nat.zero_mul, List.take_zero, List.take_zero]; rfl
  | succ i =>
   show (y.cells ++ stepsC l).take ((i + 1) * 3) = y.cells ++ stepsC (l.take i)
   have e : (i + 1) * 3 = y.cells.length + i * 3 := by
    show (i + 1) * 3 = 3 + i * 3
    omega
   rw [e, List.take_length_add_append, ih]
/-! The loop of Back -/
def nowFun (nw : List (KV ByteArray)) (k : ByteArray) : Option (List Nat) := (getK nw k).map (·.2)
def backK (x : StepC) (nw : List (KV ByteArray)) : List (KV ByteArray) := if x.laid = true then putK nw x.key x.was x.bs else delK nw x.key
theorem backK_fun (x : StepC) (nw : List (KV ByteArray)) : nowFun (backK x nw) = undo1 x (nowFun nw) := by
 funext k
 unfold nowFun backK undo1
 by_cases hl : x.laid = true
 ·simp only [hl, if_true, getK_put]
  by_cases hk : k = x.key
  ·simp [hk]
  ·simp [hk]
 ·simp only [hl, if_false, getK_del, Bool.false_eq_true]
  by_cases hk : k = x.key
  ·simp [hk]
  ·simp [hk]
theorem undoTo_step {l : List StepC} {i : Nat} {x : StepC} (h : l[i]? = some x) (f : ByteArray → Option (List Nat)) : undoTo l i f = undo1 x (undoTo l (i + 1) f) := by
 obtain ⟨h1, rfl⟩ := List.getElem?_eq_some_iff.1 h
 unfold undoTo
 rw [List.drop_eq_getElem_cons h1]
 rfl
theorem undoTo_all {l : List StepC} {i : Nat} (h : l.length ≤ i) (f : ByteArray → Option (List Nat)) : undoTo l i f = f := by
 unfold undoTo
 rw [List.drop_eq_nil_of_le h]
 rfl
structure Gone (c : StC) (m : Nat) (at_ : Nat) (c' : StC) : Prop where
 has : c'.has = c.has
 now : c'.nowF = undoTo c.steps at_ c.nowF
 steps : c'.steps = c.steps.take at_
 marks : c'.marks = c.marks.take (m + 1)
 wf : c'.wf
end Go.Sl
namespace Go.Sl
open Go
section
variable {W : List (List Nat)} {m : Md}
end
/-! Over views -/
section
variable {W : List (List Nat)} {V : View}
end
theorem told_tok {e : Int} {t : TokD} (h : t.sup.length = 4) : fillL (told1 0).cells [(0, 1, .int .i64 e), (1, 6, .agg ⟨t.cells⟩)] = some (⟨e, t, z4, 0⟩ : ToldD).cells := by
 have e1 := fill_part (a := []) (m := [Value.int .i64 0]) (m' := [.int .i64 e]) (c := zTok.cells ++ (uvs z4 ++ [Value.int .i64 0])) (v := .int .i64 e) (ps := [(1, 6, .agg ⟨t.cells⟩)]) (off := 0) (n := 1) rfl rfl rfl rfl
 have e2 := fill_part (a := [Value.int .i64 e]) (m := zTok.cells) (m' := t.cells) (c := uvs z4 ++ [Value.int .i64 0]) (v := .agg ⟨t.cells⟩) (ps := []) (off := 1) (n := 6) rfl rfl rfl (TokD.cells_len h)
 exact e1.trans (e2.trans rfl)
theorem told_amt {e : Int} {a : List Nat} (h : a.length = 4) : fillL (told1 0).cells [(0, 1, .int .i64 e), (7, 4, .agg ⟨uvs a⟩)] = some (⟨e, zTok, a, 0⟩ : ToldD).cells := by
 have e1 := fill_part (a := []) (m := [Value.int .i64 0]) (m' := [.int .i64 e]) (c := zTok.cells ++ (uvs z4 ++ [Value.int .i64 0])) (v := .int .i64 e) (ps := [(7, 4, .agg ⟨uvs a⟩)]) (off := 0) (n := 1) rfl rfl rfl rfl
 have e2 := fill_part (a := Value.int .i64 e :: zTok.cells) (m := uvs z4) (m' := uvs a) (c := [Value.int .i64 0]) (v := .agg ⟨uvs a⟩) (ps := []) (off := 7) (n := 4) rfl rfl rfl (by rw [uvs_len, h])
 exact e1.trans (e2.trans rfl)
end Go.Sl
namespace Go.Sl
open Go
section
variable (V : View) (T : List Nat) (W : List (List Nat))
variable {T W}
end
/-! What a step may turn. -/
section
variable {k : Nat} {x : StepD} {m n : Md}
end
section
variable (V : View)
end
/-! Digits less digits. -/
theorem less_step {i c d s va vb x y vo : Nat} (h : va + 2 ^ i * c = vo + vb) (hs : x + 2 * d = s + c + y) : (va + 2 ^ i * x) + 2 ^ (i + 1) * d = (vo + 2 ^ i * s) + (vb + 2 ^ i * y) := by
 have e : 2 ^ i * x + 2 ^ (i + 1) * d = 2 ^ i * s + 2 ^ i * c + 2 ^ i * y := by
  rw [Nat.pow_succ, Nat.mul_assoc, ← Nat.mul_add, hs, Nat.mul_add, Nat.mul_add]
 generalize 2 ^ (i + 1) * d = A at *
 generalize 2 ^ i * s = B at *
 generalize 2 ^ i * c = E at *
 generalize 2 ^ i * x = X at *
 generalize 2 ^ i * y = Y at *
 omega
theorem less_end {n c va vb vo : Nat} (h : va + 2 ^ n * c = vo + vb) (hc : c < 2) (ho : vo < 2 ^ n) (hv : vb ≤ va) : vo = va - vb := by
 rcases (show c = 0 ∨ c = 1 by omega) with rfl | rfl
 ·omega
 ·rw [Nat.mul_one] at h
  omega
end Go.Sl
