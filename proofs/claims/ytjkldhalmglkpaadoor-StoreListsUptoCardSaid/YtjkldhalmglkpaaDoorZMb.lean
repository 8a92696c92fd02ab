import Derived.Test.YtjkldhalmglkpaaDoorZTt
namespace Go.Sl
open Go
section
variable {L M A : List HP} {sz n k c : Nat} {a : Option Addr} {cs : List Value}
theorem own_take (hk : k ≤ n) : Ent (own sz (.slice a n c) n cs :: L) (own sz (.slice a k c) k (cs.take (k * sz)) :: L) := fun w F hs => by
 have hs' : Sat w (own sz (.slice a n c) n cs :: (L ++ F)) := hs
 cases a with
 | none =>
  rcases hs'.ownV with ⟨h, rfl⟩ | ⟨g, cap, h, _⟩
  ·cases h
   obtain ⟨_, rfl, h3⟩ := hs'.own_nil_open
   obtain rfl : k = 0 := by omega
   rw [List.take_nil]
   exact Sat.own_nil h3
  ·cases h
 | some p =>
  rcases hs'.ownV with ⟨h, _⟩ | ⟨g, cap, h, hn⟩
  ·cases h
  ·cases h
   obtain ⟨t, rest, h1, h2, h3, h4, h5⟩ := hs'.own_open
   have hle : k * sz ≤ cs.length := by rw [h3]; exact Nat.mul_le_mul_right _ hk
   have h6 : Sat w (blk g (.cells ⟨cs.take (k * sz) ++ (cs.drop (k * sz) ++ rest)⟩ t (0, 0)) :: (L ++ F)) := by
    rw [← List.append_assoc, List.take_append_drop]
    exact h5
   exact h6.own_of (by omega) h2 (by rw [List.length_take]; omega) (by rw [← List.append_assoc, List.take_append_drop]; exact h4)
theorem kvS_del {K : Type} [DecidableEq K] {l : List (KV K)} {x : K} : Ent (kvS l ++ M) (kvS (delK l x) ++ M) := by
 unfold delK
 induction l with
 | nil => exact Ent.refl _
 | cons p l ih =>
  rw [List.filter_cons]
  split
  ·exact Ent.cons _ ih
  ·exact (Ent.drop _).trans ih
theorem steps_dup {l : List StepC} {x : StepC} (h : x ∈ l) : Ent (stepsS l) (sh x.was x.bs :: stepsS l) := by
 induction l with
 | nil => cases h
 | cons y l ih =>
  rcases List.mem_cons.1 h with rfl | h
  ·exact dup_ent (sh_twice _ _)
  ·exact (Ent.cons _ (ih h)).trans (Ent.perm (List.Perm.swap _ _ _))
theorem steps_dup' {l : List StepC} {x : StepC} (h : x ∈ l) : Ent (A ++ stepsS l) (sh x.was x.bs :: (A ++ stepsS l)) :=
 (Ent.under (steps_dup h) A).trans (Ent.perm List.perm_middle)
theorem steps_take {l : List StepC} {i : Nat} : Ent (stepsS l) (stepsS (l.take i)) := by
 have e : stepsS l = stepsS (l.take i) ++ stepsS (l.drop i) := by
  unfold stepsS
  rw [← List.map_append, List.take_append_drop]
 rw [e]
 exact Ent.dropL _ _
theorem back_put {l : List (KV ByteArray)} {st : List StepC} {x : StepC} (h : x ∈ st) : Ent (kvS l ++ stepsS st) (kvS (putK l x.key x.was x.bs) ++ stepsS st) := (steps_dup' h).trans kvS_put
end
theorem stepsC_at {l : List StepC} {i : Nat} {x : StepC} (h : l[i]? = some x) : ((stepsC l).drop (i * 3)).take 3 = x.cells := by
 induction l generalizing i with
 | nil => simp at h
 | cons y l ih =>
  cases i with
  | zero => simp at h; subst h; rfl
  | succ i =>
   show ((y.cells ++ stepsC l).drop ((i + 1) * 3)).take 3 = _
   have e : (i + 1) * 3 = y.cells.length + i * 3 := by
    show (i + 1) * 3 = 3 + i * 3
    omega
   rw [e, ← List.drop_drop, List.drop_left]
   exact ih (by simpa using h)
theorem stepsC_take (l : List StepC) (i : Nat) : (stepsC l).take (i * 3) = stepsC (l.take i) := by
 induction l generalizing i with
 | nil => simp [stepsC]
 | cons y l ih =>
  cases i with
  | zero => rw [Nat.zero_mul, List.take_zero, List.take_zero]; rfl
  | succ i =>
   show (y.cells ++ stepsC l).take ((i + 1) * 3) = y.cells ++ stepsC (l.take i)
   have e : (i + 1) * 3 = y.cells.length + i * 3 := by
    show (i + 1) * 3 = 3 + i * 3
    omega
   rw [e, List.take_length_add_append, ih]
/-! The loop of Back -/
def nowFun (nw : List (KV ByteArray)) (k : ByteArray) : Option (List Nat) := (getK nw k).map (·.2)
def backK (x : StepC) (nw : List (KV ByteArray)) : List (KV ByteArray) := if x.laid = true then putK nw x.key x.was x.bs else delK nw x.key
theorem backK_fun (x : StepC) (nw : List (KV ByteArray)) : nowFun (backK x nw) = undo1 x (nowFun nw) := by
 funext k
 unfold nowFun backK undo1
 by_cases hl : x.laid = true
 ·simp only [hl, if_true, getK_put]
  by_cases hk : k = x.key
  ·simp [hk]
  ·simp [hk]
 ·simp only [hl, if_false, getK_del, Bool.false_eq_true]
  by_cases hk : k = x.key
  ·simp [hk]
  ·simp [hk]
theorem undoTo_step {l : List StepC} {i : Nat} {x : StepC} (h : l[i]? = some x) (f : ByteArray → Option (List Nat)) : undoTo l i f = undo1 x (undoTo l (i + 1) f) := by
 obtain ⟨h1, rfl⟩ := List.getElem?_eq_some_iff.1 h
 unfold undoTo
 rw [List.drop_eq_getElem_cons h1]
 rfl
theorem undoTo_all {l : List StepC} {i : Nat} (h : l.length ≤ i) (f : ByteArray → Option (List Nat)) : undoTo l i f = f := by
 unfold undoTo
 rw [List.drop_eq_nil_of_le h]
 rfl
theorem undoTo_two {l : List StepC} {a b : Nat} (h : a ≤ b) (hb : b ≤ l.length) (f : ByteArray → Option (List Nat)) : undoTo (l.take b) a (undoTo l b f) = undoTo l a f := by
 unfold undoTo
 rw [← List.foldr_append]
 congr 1
 have e : l.drop a = (l.take b).drop a ++ l.drop b := by
  conv => lhs; rw [← List.take_append_drop b l]
  rw [List.drop_append_of_le_length (by rw [List.length_take]; omega)]
 exact e.symm
structure Gone (c : StC) (m : Nat) (at_ : Nat) (c' : StC) : Prop where
 has : c'.has = c.has
 now : c'.nowF = undoTo c.steps at_ c.nowF
 steps : c'.steps = c.steps.take at_
 marks : c'.marks = c.marks.take (m + 1)
 wf : c'.wf
theorem At.back {find : ByteArray → List Nat × Int} {V : View} {n m at_ : Nat} {c c' : StC} (h : At find V n c) (hm : c.marks[m]? = some at_) (hg : Gone c m at_ c') : ∃ f, V.hist[m]? = some f ∧ At find ⟨f, V.hist.take (m + 1)⟩ n c' := by
 have hlt : m < V.hist.length := by rw [← h.marks]; exact (List.getElem?_eq_some_iff.1 hm).1
 obtain ⟨f, hf⟩ : ∃ f, V.hist[m]? = some f := ⟨V.hist[m], List.getElem?_eq_getElem hlt⟩
 obtain ⟨h1, h2⟩ := h.hist m at_ f hm hf
 have hrb : ∀ a, a ≤ at_ → ∀ k, rb find c' a k = rb find c a k := fun a ha k => by
  unfold rb
  rw [hg.steps, hg.now, undoTo_two ha h1]
  unfold hasF
  rw [hg.has]
 have hlen : c'.steps.length = at_ := by rw [hg.steps, List.length_take]; omega
 refine ⟨f, hf, ?_, hg.wf, by rw [hlen]; have := h.steps; omega, ?_, ?_, ?_⟩
 ·intro k
  rw [← rb_end, hlen, hrb at_ (Nat.le_refl _) k]
  exact h2 k
 ·rw [hg.marks, List.length_take, List.length_take, h.marks]
 ·rw [hg.marks]
  exact h.rise.sublist (List.take_sublist _ _)
 ·intro j a f' hj hf'
  rw [hg.marks, List.getElem?_take] at hj
  simp only [List.getElem?_take] at hf'
  split at hj
  ·rename_i hjm
   rw [if_pos hjm] at hf'
   obtain ⟨h3, h4⟩ := h.hist j a f' hj hf'
   have hle : a ≤ at_ := by
    rcases Nat.lt_or_ge j m with hlt2 | hge
    ·obtain ⟨p1, rfl⟩ := List.getElem?_eq_some_iff.1 hj
     obtain ⟨p2, rfl⟩ := List.getElem?_eq_some_iff.1 hm
     exact List.pairwise_iff_getElem.1 h.rise j m p1 p2 hlt2
    ·obtain rfl : j = m := by omega
     rw [hm] at hj
     cases hj
     exact Nat.le_refl _
   exact ⟨by rw [hlen]; exact hle, fun k => (hrb a hle k).trans (h4 k)⟩
  ·cases hj
theorem At.mark {find : ByteArray → List Nat × Int} {V : View} {n : Nat} {c c' : StC} (h : At find V n c) (h1 : c'.has = c.has) (h2 : c'.now = c.now) (h3 : c'.steps = c.steps) (h4 : c'.marks = c.marks ++ [c.steps.length]) (hw : c'.wf) : At find ⟨V.now, V.hist ++ [V.now]⟩ n c' := by
 have hn : c'.nowF = c.nowF := by unfold StC.nowF; rw [h2]
 have hh : ∀ k, hasF find c' k = hasF find c k := fun k => by unfold hasF; rw [h1]
 have hrb : ∀ a k, rb find c' a k = rb find c a k := fun a k => by unfold rb; rw [h3, hn, hh]
 refine ⟨fun k => by rw [lv_eq, hn, hh, ← lv_eq]; exact h.lv k, hw, by rw [h3]; exact h.steps, by rw [h4]; simp [h.marks], ?_, ?_⟩
 ·rw [h4, List.pairwise_append]
  refine ⟨h.rise, List.pairwise_singleton _ _, fun a ha b hb => ?_⟩
  rw [List.mem_singleton.1 hb]
  obtain ⟨j, hj⟩ := List.getElem?_of_mem ha
  have hlt : j < V.hist.length := by rw [← h.marks]; exact (List.getElem?_eq_some_iff.1 hj).1
  exact (h.hist j a _ hj (List.getElem?_eq_getElem hlt)).1
 ·intro j a f hj hf
  rw [h4] at hj
  rcases Nat.lt_or_ge j c.marks.length with hlt | hge
  ·rw [List.getElem?_append_left hlt] at hj
   rw [show (⟨V.now, V.hist ++ [V.now]⟩ : View).hist = V.hist ++ [V.now] from rfl, List.getElem?_append_left (by rw [← h.marks]; exact hlt)] at hf
   obtain ⟨p1, p2⟩ := h.hist j a f hj hf
   exact ⟨by rw [h3]; exact p1, fun k => (hrb a k).trans (p2 k)⟩
  ·rw [List.getElem?_append_right hge] at hj
   rw [show (⟨V.now, V.hist ++ [V.now]⟩ : View).hist = V.hist ++ [V.now] from rfl, List.getElem?_append_right (by rw [← h.marks]; exact hge)] at hf
   have e : j - c.marks.length = 0 := by
    have := (List.getElem?_eq_some_iff.1 hj).1
    simp at this
    omega
   rw [← h.marks, e] at hf
   rw [e] at hj
   simp at hj hf
   subst hj
   subst hf
   exact ⟨by rw [h3]; exact Nat.le_refl _, fun k => by rw [hrb, rb_end]; exact h.lv k⟩
def backE (V : View) (m : Int) : Int := if m < 0 ∨ (V.hist.length : Int) ≤ m then 72 else 0
def backV (V : View) (m : Int) : View := if m < 0 ∨ (V.hist.length : Int) ≤ m then V else match V.hist[m.toNat]? with
 | some f => ⟨f, V.hist.take (m.toNat + 1)⟩
 | none => V
end Go.Sl
