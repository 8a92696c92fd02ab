import Derived.Test.YtmfonkklmndhjaaGreatDoorZKy
import Derived.Test.YtmfonkklmndhjaaGreatDoorZTt
namespace Go.Sl
open Go
structure SrcIs (find : ByteArray → List Nat × Int) (c : StC) : Prop where
 has : ∀ p ∈ c.has, p.2.2 = (find p.1).1 ∧ mayI p.1 0 = 0
 now : ∀ p ∈ c.now, (getK c.has p.1).isSome = true
 steps : ∀ x ∈ c.steps, (getK c.has x.key).isSome = true
structure AtK (find : ByteArray → List Nat × Int) (V : View) (n a : Nat) (c : StC) : Prop where
 atV : At find V n c
 src : SrcIs find c
 cnt : c.has.length ≤ a
theorem putK_length {K : Type} [DecidableEq K] (l : List (KV K)) (x : K) (v : Value) (bs : List Nat) : (putK l x v bs).length ≤ l.length + 1 := by
 unfold putK
 split
 ·rw [List.length_map]; omega
 ·rw [List.length_append, List.length_singleton]; exact Nat.le_refl _
section
variable {find : ByteArray → List Nat × Int} {V : View} {n a : Nat} {c c' : StC} {key : ByteArray}
theorem getK_more {l : List (KV ByteArray)} {x : ByteArray} {v : Value} {bs : List Nat} {k : ByteArray} (h : (getK l k).isSome = true) : (getK (putK l x v bs) k).isSome = true := by
 rw [getK_put]
 split
 ·rfl
 ·exact h
theorem AtK.ask (h : AtK find V n a c) (hk : mayI key 0 = 0) (hs : AskOk find c key c') : AtK find V n (a + 1) c' := by
 have h1 := h.atV.same (hs.same h.atV.wf)
 rcases hs.out with ⟨_, rfl⟩ | ⟨_, x, _, _, rfl⟩
 ·exact ⟨h1, h.src, Nat.le_succ_of_le h.cnt⟩
 ·refine ⟨h1, ⟨putK_all h.src.has ⟨rfl, hk⟩, fun p hp => getK_more (h.src.now p hp), fun y hy => getK_more (h.src.steps y hy)⟩, ?_⟩
  have := putK_length c.has key x (find key).1
  have := h.cnt
  show (putK c.has key x (find key).1).length ≤ _
  omega
theorem was_key (c : StC) (key : ByteArray) : (c.was key).key = key := by
 unfold StC.was
 cases getK c.now key <;> rfl
theorem AtK.mark (h : AtK find V n a c) (h1 : c'.has = c.has) (h2 : c'.now = c.now) (h3 : c'.steps = c.steps) (h4 : c'.marks = c.marks ++ [c.steps.length]) (hw : c'.wf) : AtK find ⟨V.now, V.hist ++ [V.now]⟩ n a c' :=
 ⟨h.atV.mark h1 h2 h3 h4 hw, ⟨by rw [h1]; exact h.src.has, by rw [h1, h2]; exact h.src.now, by rw [h1, h3]; exact h.src.steps⟩, by rw [h1]; exact h.cnt⟩
theorem undoTo_some {l : List StepC} {i : Nat} {f : ByteArray → Option (List Nat)} {k : ByteArray} (h : (undoTo l i f k).isSome = true) : (f k).isSome = true ∨ ∃ x ∈ l, x.key = k := by
 unfold undoTo at h
 have hm : ∀ x ∈ l.drop i, x ∈ l := fun x hx => List.mem_of_mem_drop hx
 generalize l.drop i = r at h hm
 induction r with
 | nil => exact .inl h
 | cons x r ih =>
  rw [List.foldr_cons] at h
  by_cases hk : k = x.key
  ·exact .inr ⟨x, hm x List.mem_cons_self, hk.symm⟩
  ·unfold undo1 at h
   rw [if_neg hk] at h
   exact ih h fun y hy => hm y (List.mem_cons_of_mem _ hy)
theorem getK_in {l : List (KV ByteArray)} {p : KV ByteArray} (h : p ∈ l) : (getK l p.1).isSome = true := by
 unfold getK
 rw [Option.isSome_map, List.find?_isSome]
 exact ⟨p, h, by simp⟩
theorem mem_getK {l : List (KV ByteArray)} {k : ByteArray} (h : (getK l k).isSome = true) : ∃ q ∈ l, q.1 = k := by
 unfold getK at h
 rw [Option.isSome_map, List.find?_isSome] at h
 obtain ⟨q, hq, e⟩ := h
 exact ⟨q, hq, by simpa using e⟩
theorem AtK.back {m at_ : Nat} (h : AtK find V n a c) (hm : c.marks[m]? = some at_) (hg : Gone c m at_ c') : ∃ f, V.hist[m]? = some f ∧ AtK find ⟨f, V.hist.take (m + 1)⟩ n a c' := by
 obtain ⟨f, hf, h1⟩ := h.atV.back hm hg
 refine ⟨f, hf, h1, ⟨by rw [hg.has]; exact h.src.has, fun p hp => ?_, fun y hy => ?_⟩, by rw [hg.has]; exact h.cnt⟩
 ·rw [hg.has]
  have h2 : (c'.nowF p.1).isSome = true := by
   unfold StC.nowF
   rw [Option.isSome_map]
   exact getK_in hp
  rw [hg.now] at h2
  rcases undoTo_some h2 with h3 | ⟨x, hx, e⟩
  ·unfold StC.nowF at h3
   rw [Option.isSome_map] at h3
   obtain ⟨q, hq, e⟩ := mem_getK h3
   rw [← e]
   exact h.src.now q hq
  ·rw [← e]
   exact h.src.steps x hx
 ·rw [hg.has]
  rw [hg.steps] at hy
  exact h.src.steps y (List.mem_of_mem_take hy)
end
end Go.Sl
namespace Go.Sl
open Go Go.Sort
structure ChD where
 key : ByteArray
 ov : Value
 old : List Nat
 nv : Value
 new : List Nat
def ChD.cells (d : ChD) : List Value := [.string d.key, d.ov, d.nv]
def chS (l : List ChD) : List HP := l.flatMap fun d => [own 1 d.ov d.old.length (bvs d.old), own 1 d.nv d.new.length (bvs d.new)]
def hasL (c : StC) (k : ByteArray) : List Nat := ((getK c.has k).map (·.2)).getD []
def hasV (c : StC) (k : ByteArray) : Value := ((getK c.has k).map (·.1)).getD (.slice none 0 0)
def turned (c : StC) (k : ByteArray) : Bool := !decide (strB (c.val k) = strB (hasL c k))
def strOfB (x : List UInt8) : ByteArray := ⟨⟨x⟩⟩
def keysB (K : List ByteArray) : List Value := K.map Value.string
structure ChIs (find : ByteArray → List Nat × Int) (V : View) (l : List ChD) : Prop where
 rise : (l.map fun d => d.key.data.toList).Pairwise fun x y => leB x y = true
 nodup : (l.map fun d => d.key.data.toList).Nodup
 mem : ∀ k, k ∈ l.map (·.key) ↔ strB (V k) ≠ strB (find k).1
 vals : ∀ d ∈ l, d.old = (find d.key).1 ∧ d.new = V d.key
theorem leB_anti {x y : List UInt8} (h1 : leB x y = true) (h2 : leB y x = true) : x = y := by
 simp only [leB, decide_eq_true_eq] at h1 h2
 exact List.le_antisymm h1 h2
theorem leB_pair (ss : List (List UInt8)) : (ss.mergeSort leB).Pairwise fun x y => leB x y = true := by
 have tr : ∀ a b c : List UInt8, leB a b = true → leB b c = true → leB a c = true := fun a b c h1 h2 => by
  simp only [leB, decide_eq_true_eq] at h1 h2 ⊢
  exact List.le_trans h1 h2
 have to : ∀ a b : List UInt8, (leB a b || leB b a) = true := fun a b => by simp only [leB, Bool.or_eq_true, decide_eq_true_eq]; exact List.le_total a b
 exact List.pairwise_mergeSort tr to ss
theorem data_inj {a b : ByteArray} (h : a.data.toList = b.data.toList) : a = b := by
 apply ByteArray.ext
 exact Array.toList_inj.1 h
theorem ChIs.keys {find : ByteArray → List Nat × Int} {V : View} {l m : List ChD} (h : ChIs find V l) (h2 : ChIs find V m) : l.map (·.key) = m.map (·.key) := by
 have e1 : (l.map fun d => d.key.data.toList) = (m.map fun d => d.key.data.toList) := by
  refine List.Perm.eq_of_pairwise (le := fun a b => leB a b = true) (fun a b _ _ x y => leB_anti x y) h.rise h2.rise ((List.perm_ext_iff_of_nodup h.nodup h2.nodup).2 fun x => ?_)
  have key : ∀ {n : List ChD} , x ∈ (n.map fun d => d.key.data.toList) ↔ strOfB x ∈ n.map (·.key) := fun {n} => by
   constructor
   ·intro hx
    obtain ⟨d, hd, rfl⟩ := List.mem_map.1 hx
    exact List.mem_map.2 ⟨d, hd, rfl⟩
   ·intro hx
    obtain ⟨d, hd, e⟩ := List.mem_map.1 hx
    exact List.mem_map.2 ⟨d, hd, by rw [e]; rfl⟩
  rw [key, key, h.mem, h2.mem]
 have inj : ∀ {a b : List ByteArray}, a.map (fun k => k.data.toList) = b.map (fun k => k.data.toList) → a = b := by
  intro a
  induction a with
  | nil => intro b hb; cases b with
   | nil => rfl
   | cons _ _ => cases hb
  | cons x a ih => intro b hb; cases b with
   | nil => cases hb
   | cons y b =>
    simp only [List.map_cons, List.cons.injEq] at hb
    rw [data_inj hb.1, ih hb.2]
 refine inj ?_
 rw [List.map_map, List.map_map]
 exact e1
theorem ChIs.same {find : ByteArray → List Nat × Int} {V : View} {l m : List ChD} (h : ChIs find V l) (h2 : ChIs find V m) : l.map (fun d => (d.key, d.old, d.new)) = m.map (fun d => (d.key, d.old, d.new)) := by
 have f : ∀ {n : List ChD}, ChIs find V n → n.map (fun d => (d.key, d.old, d.new)) = (n.map (·.key)).map fun k => (k, (find k).1, V k) := fun {n} hn => by
  rw [List.map_map]
  apply List.map_congr_left
  intro d hd
  obtain ⟨e1, e2⟩ := hn.vals d hd
  show (d.key, d.old, d.new) = (d.key, (find d.key).1, V d.key)
  rw [e1, e2]
 rw [f h, f h2, h.keys h2]
section
variable {find : ByteArray → List Nat × Int} {V : View} {n a : Nat} {c : StC}
end
end Go.Sl
namespace Go.Sl
open Go
structure PairD where
 key : ByteArray
 v : Value
 bs : List Nat
def PairD.cells (p : PairD) : List Value := [.string p.key, p.v]
def pairsC (l : List PairD) : List Value := l.flatMap PairD.cells
theorem pairsC_len (l : List PairD) : (pairsC l).length = l.length * 2 := by
 induction l with
 | nil => rfl
 | cons x l ih =>
  show (x.cells ++ pairsC l).length = _
  rw [List.length_append, ih]
  show 2 + l.length * 2 = (l.length + 1) * 2
  omega
theorem pairsC_app (l m : List PairD) : pairsC (l ++ m) = pairsC l ++ pairsC m := by simp [pairsC]
theorem pairsC_get {l : List PairD} {i : Nat} {p : PairD} (h : l[i]? = some p) : (pairsC l)[i * 2]? = some (.string p.key) ∧ (pairsC l)[i * 2 + 1]? = some p.v := by
 induction l generalizing i with
 | nil => simp at h
 | cons y l ih =>
  cases i with
  | zero => simp at h; subst h; exact ⟨rfl, rfl⟩
  | succ i =>
   have h2 := ih (i := i) (by simpa using h)
   have e : ∀ j, (pairsC (y :: l))[j + 2]? = (pairsC l)[j]? := fun j => by
    show (Value.string y.key :: y.v :: pairsC l)[j + 2]? = _
    simp
   rw [show (i + 1) * 2 = i * 2 + 2 by omega, e, show i * 2 + 2 + 1 = (i * 2 + 1) + 2 by omega, e]
   exact h2
theorem pairsC_at {l : List PairD} {i : Nat} {p : PairD} (h : l[i]? = some p) : ((pairsC l).drop (i * 2)).take 2 = p.cells := by
 obtain ⟨h1, h2⟩ := pairsC_get h
 apply List.ext_getElem?
 intro j
 rw [List.getElem?_take]
 match j with
 | 0 => rw [if_pos (by decide), List.getElem?_drop, Nat.add_zero, h1]; rfl
 | 1 => rw [if_pos (by decide), List.getElem?_drop, h2]; rfl
 | j + 2 => rw [if_neg (by omega)]; rfl
section
variable {α : Type} (kf : α → ByteArray)
def withL (key : ByteArray) (new : α) : Bool → List α → List α
 | done, [] => if done then [] else [new]
 | done, p :: l => (if !done && !slt (kf p) key then [new] else []) ++ ((if kf p = key then [] else [p]) ++ withL key new (done || !slt (kf p) key) l)
theorem withL_mem {key : ByteArray} {new : α} : ∀ {l : List α} {d : Bool} {p : α}, p ∈ withL kf key new d l → p = new ∨ (p ∈ l ∧ kf p ≠ key)
 | [], d, p, h => by
  unfold withL at h
  split at h
  ·cases h
  ·exact .inl (List.mem_singleton.1 h)
 | q :: l, d, p, h => by
  unfold withL at h
  rcases List.mem_append.1 h with h | h
  ·split at h
   ·exact .inl (List.mem_singleton.1 h)
   ·cases h
  ·rcases List.mem_append.1 h with h | h
   ·split at h
    ·cases h
    ·rename_i hne
     have e := List.mem_singleton.1 h
     subst e
     exact .inr ⟨List.mem_cons_self, hne⟩
   ·rcases withL_mem h with e | ⟨e1, e2⟩
    ·exact .inl e
    ·exact .inr ⟨List.mem_cons_of_mem _ e1, e2⟩
theorem withL_len (key : ByteArray) (new : α) : ∀ (l : List α) (d : Bool), (withL kf key new d l).length ≤ l.length + (if d then 0 else 1)
 | [], d => by cases d <;> simp [withL]
 | p :: l, d => by
  have ih := withL_len key new l (d || !slt (kf p) key)
  unfold withL
  simp only [List.length_append, List.length_cons]
  have h2 : (if kf p = key then ([] : List α) else [p]).length ≤ 1 := by split <;> simp
  cases d <;> cases hs : slt (kf p) key <;> simp [hs] at ih ⊢ <;> omega
theorem withL_map {β : Type} (kg : β → ByteArray) (e : α → β) (he : ∀ a, kg (e a) = kf a) (key : ByteArray) (new : α) : ∀ (l : List α) (d : Bool), (withL kf key new d l).map e = withL kg key (e new) d (l.map e)
 | [], d => by cases d <;> simp [withL]
 | p :: l, d => by
  have ih := withL_map kg e he key new l (d || !slt (kf p) key)
  have e1 : ∀ (γ : Type) (k : γ → ByteArray) (nw q : γ) (r : List γ), withL k key nw d (q :: r) = (if !d && !slt (k q) key then [nw] else []) ++ ((if k q = key then [] else [q]) ++ withL k key nw (d || !slt (k q) key) r) := fun _ _ _ _ _ => rfl
  rw [List.map_cons, e1, e1, List.map_append, List.map_append, ih, he]
  congr 1
  ·split <;> simp
  ·congr 1
   split <;> simp
end
def PairD.e (p : PairD) : ByteArray × List Nat := (p.key, p.bs)
theorem DoesG.geq {P : Program} {F L : List HP} {a b : ByteArray} {k : Value → List HP → Prop} (hk : k (.bool (!slt a b)) L) : DoesG P F (Op.stringOp .geq a b) L k :=
 ⟨fun w hs => ⟨_, L, w, by simp [Op.stringOp, slt], Ext.refl w, hs, hk⟩⟩
theorem withL_step {α : Type} (kf : α → ByteArray) (key : ByteArray) (new : α) (d : Bool) {l : List α} {i : Nat} {p : α} (h : l[i]? = some p) :
 withL kf key new d (l.drop i) = (if !d && !slt (kf p) key then [new] else []) ++ ((if kf p = key then [] else [p]) ++ withL kf key new (d || !slt (kf p) key) (l.drop (i + 1))) := by
 obtain ⟨h1, rfl⟩ := List.getElem?_eq_some_iff.1 h
 rw [List.drop_eq_getElem_cons h1]
 rfl
end Go.Sl
