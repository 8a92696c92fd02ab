import Derived.Test.YtjkldhalmglkpaaDoorZSt
namespace Go.Sl
open Go
def zeroVT (P : Program) (t : TypeId) : Option Value := (P.info? t).bind (·.zero)
theorem run_zeroV {P : Program} {t : TypeId} {v : Value} (h : zeroVT P t = some v) (w : World) : (zeroValue t).run P w = .ok v w := by
 unfold zeroVT at h
 cases hi : P.info? t with
 | none => simp [hi] at h
 | some i =>
  cases hz : i.zero with
  | none => simp [hi, hz] at h
  | some u => simp [hi, hz] at h; simp [zeroValue, typeInfo, hi, hz, h]
structure StepC where
 key : ByteArray
 was : Value
 bs : List Nat
 laid : Bool
def StepC.cells (x : StepC) : List Value := [.string x.key, x.was, .bool x.laid]
structure StC where
 has : List (KV ByteArray)
 now : List (KV ByteArray)
 steps : List StepC
 marks : List Nat
 hb : Nat
 nb : Nat
 sv : Value
 mv : Value
def stepsC (l : List StepC) : List Value := l.flatMap StepC.cells
def stepsS (l : List StepC) : List HP := l.map fun x => sh x.was x.bs
abbrev mapS (b : Nat) (m : List (ByteArray × Value)) : HP := mapP Value.string (fun _ => True) b m
def StC.pieces (T s : Nat) (src : Value) (c : StC) : List HP :=
 cel s T [src, .map (some c.hb), .map (some c.nb), c.sv, c.mv] :: mapS c.hb (kvM c.has) :: mapS c.nb (kvM c.now) :: own 3 c.sv c.steps.length (stepsC c.steps) ::
  own 1 c.mv c.marks.length (c.marks.map fun n : Nat => Value.int .i64 n) :: (kvS c.has ++ (kvS c.now ++ stepsS c.steps))
structure SrcG (P : Program) (F : List HP) (src : Value) (find : ByteArray → List Nat × Int) : Prop where
 out : ∃ t u f r, src = .iface t u ∧ (∀ w, (method (P.types.size + Made.depth) t u "Find").run P w = .ok (f, r) w) ∧ callOk P f = true ∧
  ∀ (key : ByteArray) (L : List HP), SpecF P f [r, .string key] (L ++ F) [] (fun v L' => ∃ x, SlV x (find key).1.length ∧ v = .tuple #[x, .int .i64 (find key).2] ∧ L' = [own 1 x (find key).1.length (bvs (find key).1)])
theorem SrcG.left {P : Program} {F : List HP} {src : Value} {find : ByteArray → List Nat × Int} (h : SrcG P F src find) (L : List HP) : SrcG P (L ++ F) src find := by
 obtain ⟨t, u, f, r, h1, h2, h3, h4⟩ := h.out
 exact ⟨t, u, f, r, h1, h2, h3, fun key M => by rw [← List.append_assoc]; exact h4 key (M ++ L)⟩
def mayI (key : ByteArray) (n : Nat) : Int := if key.size = 0 ∨ 128 < key.size then 70 else if 4096 < n then 71 else 0
section
variable {K : Type} [DecidableEq K]
theorem getK_none {l : List (KV K)} {x : K} : getK l x = none ↔ x ∉ l.map (·.1) := by
 simp only [getK, Option.map_eq_none_iff, List.find?_eq_none, List.mem_map, not_exists, not_and, decide_eq_true_eq]
theorem getK_mem {l : List (KV K)} {x : K} {y : Value × List Nat} (h : getK l x = some y) : (x, y) ∈ l := by
 simp only [getK, Option.map_eq_some_iff] at h
 obtain ⟨p, hp, rfl⟩ := h
 have h1 := List.find?_some hp
 simp only [decide_eq_true_eq] at h1
 have h2 := List.mem_of_find?_eq_some hp
 rw [← h1]
 exact h2
theorem getK_put {l : List (KV K)} {x y : K} {v : Value} {bs : List Nat} : getK (putK l x v bs) y = if y = x then some (v, bs) else getK l y := by
 unfold putK
 split
 ·rename_i h
  induction l with
  | nil => simp at h
  | cons p l ih =>
   by_cases hp : p.1 = x
   ·by_cases hy : y = x
    ·subst hy; simp [getK, hp]
    ·have h1 : ¬ x = y := fun e => hy e.symm
     simp only [List.map_cons, hp, if_true, getK, List.find?_cons, h1, decide_false, hy, if_false]
     by_cases hm : x ∈ l.map (·.1)
     ·have := ih hm
      simp only [getK, hy, if_false] at this
      simpa using this
     ·have e : (l.map fun p => if p.1 = x then (x, v, bs) else p) = l := by
       conv => rhs; rw [← List.map_id l]
       apply List.map_congr_left
       intro q hq
       rw [if_neg (fun e => hm (List.mem_map.2 ⟨q, hq, e⟩))]
       rfl
      simp [e]
   ·have hm : x ∈ l.map (·.1) := by
     simp only [List.map_cons, List.mem_cons] at h
     rcases h with h | h
     ·exact absurd h.symm hp
     ·exact h
    have := ih hm
    simp only [List.map_cons, hp, if_false, getK, List.find?_cons] at this ⊢
    by_cases hpy : p.1 = y
    ·have hy : ¬ y = x := fun e => hp (hpy.trans e)
     simp [hpy, hy]
    ·simpa [hpy] using this
 ·rename_i h
  by_cases hy : y = x
  ·subst hy
   have h2 := getK_none.2 h
   simp only [getK, Option.map_eq_none_iff] at h2
   simp [getK, List.find?_append, h2]
  ·have h1 : ¬ x = y := fun e => hy e.symm
   simp [getK, List.find?_append, hy, h1]
end
theorem kvS_swap {w : World} {p : HP} {K : Type} (f : KV K → KV K) (hp : Twice p) (hf : ∀ q, f q = q ∨ sh (f q).2.1 (f q).2.2 = p) : ∀ (l : List (KV K)) (M : List HP), Sat w (p :: (kvS l ++ M)) → Sat w (p :: (kvS (l.map f) ++ M))
 | [], M, h => h
 | q :: l, M, h => by
  have h1 : Sat w (p :: (kvS l ++ (sh q.2.1 q.2.2 :: M))) := h.perm (List.Perm.cons _ (by
   show (sh q.2.1 q.2.2 :: (kvS l ++ M)).Perm (kvS l ++ (sh q.2.1 q.2.2 :: M))
   exact List.perm_middle.symm))
  have h2 := kvS_swap f hp hf l _ h1
  have h3 : Sat w (p :: (sh q.2.1 q.2.2 :: (kvS (l.map f) ++ M))) := h2.perm (List.Perm.cons _ List.perm_middle)
  rcases hf q with e | e
  ·show Sat w (p :: (sh (f q).2.1 (f q).2.2 :: (kvS (l.map f) ++ M)))
   rw [e]; exact h3
  ·show Sat w (p :: (sh (f q).2.1 (f q).2.2 :: (kvS (l.map f) ++ M)))
   rw [e]
   have h4 : Sat w (p :: (kvS (l.map f) ++ M)) := (h3.perm (List.Perm.swap _ _ _)).tail
   exact h4.dup hp
theorem kvS_put {K : Type} [DecidableEq K] {l : List (KV K)} {x : K} {v : Value} {bs : List Nat} {M : List HP} : Ent (sh v bs :: (kvS l ++ M)) (kvS (putK l x v bs) ++ M) := by
 intro w F hs
 unfold putK
 split
 ·have h1 : Sat w (sh v bs :: (kvS l ++ (M ++ F))) := by simpa using hs
  have h2 := kvS_swap (fun p => if p.1 = x then (x, v, bs) else p) (sh_twice v bs) (fun q => by
   by_cases h : q.1 = x
   ·right; simp [h]
   ·left; simp [h]) l (M ++ F) h1
  have h3 := h2.tail
  rw [List.append_assoc]
  exact h3
 ·have h1 : Sat w (sh v bs :: (kvS l ++ (M ++ F))) := by simpa using hs
  simp only [kvS, List.map_append, List.map_cons, List.map_nil, List.append_assoc, List.cons_append, List.nil_append]
  exact h1.perm List.perm_middle.symm
def selM (A : List HP) : List Nat → Option (List HP)
 | [] => some []
 | i :: is => match A[i]? with
  | some p => (selM (A.set i (fact True)) is).map (p :: ·)
  | none => none
theorem sel_one {A T : List HP} {i : Nat} {p : HP} (h : A[i]? = some p) : Ent (A ++ T) (p :: (A.set i (fact True) ++ T)) := fun w F hs => by
 have h1 : Sat w (p :: (A.eraseIdx i ++ (T ++ F))) := by
  rw [List.append_assoc] at hs
  exact hs.perm ((erase_perm i h).append_right _)
 have hlt : i < A.length := (List.getElem?_eq_some_iff.1 h).1
 have h2 : (A.set i (fact True))[i]? = some (fact True) := by simp [hlt]
 have h3 := erase_perm i h2
 have h4 : (A.set i (fact True)).eraseIdx i = A.eraseIdx i := by
  rw [List.eraseIdx_eq_take_drop_succ, List.eraseIdx_eq_take_drop_succ, List.take_set_of_le (Nat.le_refl i), List.drop_set_of_lt (by omega)]
 rw [h4] at h3
 have h5 : Sat w (fact True :: (A.eraseIdx i ++ (T ++ F) ++ [p])) := Sat.fact_iff.2 ⟨trivial, h1.perm (by
  have := List.perm_append_comm (l₁ := [p]) (l₂ := A.eraseIdx i ++ (T ++ F))
  simpa using this)⟩
 have h6 : Sat w ((A.set i (fact True) ++ (T ++ F)) ++ [p]) := h5.perm (by
  have := (h3.symm.append_right ((T ++ F) ++ [p]))
  simpa using this)
 have h7 := h6.perm (List.perm_append_comm (l₁ := A.set i (fact True) ++ (T ++ F)) (l₂ := [p]))
 simpa using h7
theorem Ent.sel {T : List HP} : ∀ (is : List Nat) {A M : List HP}, selM A is = some M → Ent (A ++ T) (M ++ T)
 | [], A, M, h => by
  cases h
  intro w F hs
  rw [List.append_assoc] at hs
  exact hs.right
 | i :: is, A, M, h => by
  simp only [selM] at h
  split at h <;> try (cases h; done)
  rename_i p hp
  obtain ⟨N, hN, rfl⟩ := Option.map_eq_some_iff.1 h
  exact (sel_one hp).trans (Ent.cons p (Ent.sel is hN))
theorem Ent.under {T T' : List HP} (h : Ent T T') : ∀ A : List HP, Ent (A ++ T) (A ++ T')
 | [] => h
 | p :: A => Ent.cons p (Ent.under h A)
def StC.val (c : StC) (key : ByteArray) : List Nat := match getK c.now key with
 | some p => p.2
 | none => ((getK c.has key).map (·.2)).getD []
def StC.valV (c : StC) (key : ByteArray) : Value := match getK c.now key with
 | some p => p.1
 | none => ((getK c.has key).map (·.1)).getD (.slice none 0 0)
def askE (find : ByteArray → List Nat × Int) (c : StC) (key : ByteArray) : Int :=
 if (getK c.has key).isSome then 0 else if (find key).2 ≠ 0 then (find key).2 else if 4096 < (find key).1.length then 71 else 0
structure AskOk (find : ByteArray → List Nat × Int) (c : StC) (key : ByteArray) (c' : StC) : Prop where
 out : ((getK c.has key).isSome = true ∧ c' = c) ∨ (getK c.has key = none ∧ ∃ x, SlV x (find key).1.length ∧ (find key).1.length ≤ 4096 ∧ c' = { c with has := putK c.has key x (find key).1 })
structure StC.wf (c : StC) : Prop where
 has : ∀ p ∈ c.has, SlV p.2.1 p.2.2.length ∧ p.2.2.length ≤ 4096
 now : ∀ p ∈ c.now, SlV p.2.1 p.2.2.length ∧ p.2.2.length ≤ 4096
 steps : ∀ x ∈ c.steps, SlV x.was x.bs.length ∧ x.bs.length ≤ 4096
theorem putK_all {K : Type} [DecidableEq K] {φ : KV K → Prop} {l : List (KV K)} {x : K} {v : Value} {bs : List Nat} (h : ∀ p ∈ l, φ p) (hx : φ (x, v, bs)) : ∀ p ∈ putK l x v bs, φ p := by
 unfold putK
 split
 ·intro p hp
  obtain ⟨q, hq, rfl⟩ := List.mem_map.1 hp
  split
  ·exact hx
  ·exact h q hq
 ·intro p hp
  rcases List.mem_append.1 hp with hp | hp
  ·exact h p hp
  ·rw [List.mem_singleton.1 hp]; exact hx
theorem AskOk.wf {find : ByteArray → List Nat × Int} {c c' : StC} {key : ByteArray} (h : AskOk find c key c') (hw : c.wf) : c'.wf := by
 rcases h.out with ⟨_, rfl⟩ | ⟨_, x, hx, hl, rfl⟩
 ·exact hw
 ·exact ⟨putK_all hw.has ⟨hx, hl⟩, hw.now, hw.steps⟩
theorem AskOk.val {find : ByteArray → List Nat × Int} {c c' : StC} {key : ByteArray} (h : AskOk find c key c') : c'.now = c.now ∧ c'.steps = c.steps ∧ c'.sv = c.sv ∧ c'.marks = c.marks := by
 rcases h.out with ⟨_, rfl⟩ | ⟨_, x, hx, hl, rfl⟩ <;> exact ⟨rfl, rfl, rfl, rfl⟩
theorem kvS_rd {K : Type} {l : List (KV K)} {M : List HP} {q : KV K} (h : q ∈ l) (hv : SlV q.2.1 q.2.2.length) : RdS (kvS l ++ M) q.2.1 q.2.2.length (bvs q.2.2) := by
 induction l with
 | nil => cases h
 | cons p l ih =>
  rcases List.mem_cons.1 h with rfl | h
  ·exact sh_rd hv
  ·exact (ih h).tl
theorem StC.rd {T s : Nat} {src : Value} {c : StC} {key : ByteArray} (hw : c.wf) : RdS (c.pieces T s src) (c.valV key) (c.val key).length (bvs (c.val key)) ∧ SlV (c.valV key) (c.val key).length ∧ (c.val key).length ≤ 4096 := by
 unfold StC.valV StC.val
 cases h : getK c.now key with
 | some p =>
  have hm := getK_mem h
  have h2 := hw.now _ hm
  exact ⟨.tl (.tl (.tl (.tl (.tl (RdS.right (kvS_rd (q := (key, p)) hm h2.1) _))))), h2.1, h2.2⟩
 | none =>
  cases h3 : getK c.has key with
  | some p =>
   have hm := getK_mem h3
   have h2 := hw.has _ hm
   exact ⟨.tl (.tl (.tl (.tl (.tl (kvS_rd (q := (key, p)) hm h2.1))))), h2.1, h2.2⟩
  | none => exact ⟨.nil, .inl ⟨rfl, rfl⟩, Nat.zero_le _⟩
def tabFind (vals : List (KV ByteArray)) (key : ByteArray) : List Nat × Int := if mayI key 0 ≠ 0 then ([], mayI key 0) else (((getK vals key).map (·.2)).getD [], 0)
def digV (d : List Nat) : Value := .agg ⟨bvs d⟩
def digOk (d : List Nat) : Prop := d.length = 32
def emptyL (T S t vb q ob : Nat) : List HP := [cel t T [.map (some vb), .pointer (some ⟨q, 0, none⟩), .map (some ob)], mapS vb [], mapP digV digOk ob [], cel q S [.pointer none, .int .i64 0]]
end Go.Sl
