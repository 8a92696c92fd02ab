import Derived.Test.YtjacolfhlfogkabGreatDoorZTt
import Derived.Test.YtjacolfhlfogkabGreatDoorZSt
import Derived.Test.YtjacolfhlfogkabGreatDoorZMp
import Derived.Maps.OwnSet
import Derived.Maps.Range
import Derived.Sort.KeysCollected
import Derived.StringKeys
import Derived.Below
namespace Go.Sl
open Go
section
variable {L M A : List HP} {sz n k c : Nat} {a : Option Addr} {cs : List Value}
theorem own_take (hk : k ≤ n) : Ent (own sz (.slice a n c) n cs :: L) (own sz (.slice a k c) k (cs.take (k * sz)) :: L) := fun w F hs => by
 have hs' : Sat w (own sz (.slice a n c) n cs :: (L ++ F)) := hs
 cases a with
 | none =>
  rcases hs'.ownV with ⟨h, rfl⟩ | ⟨g, cap, h, _⟩
  ·cases h
   obtain ⟨_, rfl, h3⟩ := hs'.own_nil_open
   obtain rfl : k = 0 := by omega
   rw [List.take_nil]
   exact Sat.own_nil h3
  ·cases h
 | some p =>
  rcases hs'.ownV with ⟨h, _⟩ | ⟨g, cap, h, hn⟩
  ·cases h
  ·cases h
   obtain ⟨t, rest, h1, h2, h3, h4, h5⟩ := hs'.own_open
   have hle : k * sz ≤ cs.length := by rw [h3]; exact Nat.mul_le_mul_right _ hk
   have h6 : Sat w (blk g (.cells ⟨cs.take (k * sz) ++ (cs.drop (k * sz) ++ rest)⟩ t (0, 0)) :: (L ++ F)) := by
    rw [← List.append_assoc, List.take_append_drop]
    exact h5
   exact h6.own_of (by omega) h2 (by rw [List.length_take]; omega) (by rw [← List.append_assoc, List.take_append_drop]; exact h4)
theorem kvS_del {K : Type} [DecidableEq K] {l : List (KV K)} {x : K} : Ent (kvS l ++ M) (kvS (delK l x) ++ M) := by
 unfold delK
 induction l with
 | nil => exact Ent.refl _
 | cons p l ih =>
  rw [List.filter_cons]
  split
  ·exact Ent.cons _ ih
  ·exact (Ent.drop _).trans ih
theorem steps_dup {l : List StepC} {x : StepC} (h : x ∈ l) : Ent (stepsS l) (sh x.was x.bs :: stepsS l) := by
 induction l with
 | nil => cases h
 | cons y l ih =>
  rcases List.mem_cons.1 h with rfl | h
  ·exact dup_ent (sh_twice _ _)
  ·exact (Ent.cons _ (ih h)).trans (Ent.perm (List.Perm.swap _ _ _))
theorem steps_dup' {l : List StepC} {x : StepC} (h : x ∈ l) : Ent (A ++ stepsS l) (sh x.was x.bs :: (A ++ stepsS l)) :=
 (Ent.under (steps_dup h) A).trans (Ent.perm List.perm_middle)
theorem steps_take {l : List StepC} {i : Nat} : Ent (stepsS l) (stepsS (l.take i)) := by
 have e : stepsS l = stepsS (l.take i) ++ stepsS (l.drop i) := by
  unfold stepsS
  rw [← List.map_append, List.take_append_drop]
 rw [e]
 exact Ent.dropL _ _
theorem Ent.app {l m : List HP} (h : Ent l m) (ws : List HP) : Ent (l ++ ws) (m ++ ws) := fun w F hs => by
 rw [List.append_assoc] at *
 exact h w _ hs
theorem back_put {l : List (KV ByteArray)} {st : List StepC} {x : StepC} (h : x ∈ st) : Ent (kvS l ++ stepsS st) (kvS (putK l x.key x.was x.bs) ++ stepsS st) := (steps_dup' h).trans kvS_put
end
theorem stepsC_at {l : List StepC} {i : Nat} {x : StepC} (h : l[i]? = some x) : ((stepsC l).drop (i * 3)).take 3 = x.cells := by
 induction l generalizing i with
 | nil => simp at h
 | cons y l ih =>
  cases i with
  | zero => simp at h; subst h; rfl
  | succ i =>
   show ((y.cells ++ stepsC l).drop ((i + 1) * 3)).take 3 = _
   have e : (i + 1) * 3 = y.cells.length + i * 3 := by
    show (i + 1) * 3 = 3 + i * 3
    omega
   rw [e, ← List.drop_drop, List.drop_left]
   exact ih (by simpa using h)
theorem stepsC_take (l : List StepC) (i : Nat) : (stepsC l).take (i * 3) = stepsC (l.take i) := by
 induction l generalizing i with
 | nil => simp [stepsC]
 | cons y l ih =>
  cases i with
  | zero => rw [Nat.zero_mul, List.take_zero, List.take_zero]; rfl
  | succ i =>
   show (y.cells ++ stepsC l).take ((i + 1) * 3) = y.cells ++ stepsC (l.take i)
   have e : (i + 1) * 3 = y.cells.length + i * 3 := by
    show (i + 1) * 3 = 3 + i * 3
    omega
   rw [e, List.take_length_add_append, ih]
/-! The loop of Back -/
def nowFun (nw : List (KV ByteArray)) (k : ByteArray) : Option (List Nat) := (getK nw k).map (·.2)
def backK (x : StepC) (nw : List (KV ByteArray)) : List (KV ByteArray) := if x.laid = true then putK nw x.key x.was x.bs else delK nw x.key
theorem backK_fun (x : StepC) (nw : List (KV ByteArray)) : nowFun (backK x nw) = undo1 x (nowFun nw) := by
 funext k
 unfold nowFun backK undo1
 by_cases hl : x.laid = true
 ·simp only [hl, if_true, getK_put]
  by_cases hk : k = x.key
  ·simp [hk]
  ·simp [hk]
 ·simp only [hl, if_false, getK_del, Bool.false_eq_true]
  by_cases hk : k = x.key
  ·simp [hk]
  ·simp [hk]
theorem undoTo_step {l : List StepC} {i : Nat} {x : StepC} (h : l[i]? = some x) (f : ByteArray → Option (List Nat)) : undoTo l i f = undo1 x (undoTo l (i + 1) f) := by
 obtain ⟨h1, rfl⟩ := List.getElem?_eq_some_iff.1 h
 unfold undoTo
 rw [List.drop_eq_getElem_cons h1]
 rfl
theorem undoTo_all {l : List StepC} {i : Nat} (h : l.length ≤ i) (f : ByteArray → Option (List Nat)) : undoTo l i f = f := by
 unfold undoTo
 rw [List.drop_eq_nil_of_le h]
 rfl
structure Gone (c : StC) (m : Nat) (at_ : Nat) (c' : StC) : Prop where
 has : c'.has = c.has
 now : c'.nowF = undoTo c.steps at_ c.nowF
 steps : c'.steps = c.steps.take at_
 marks : c'.marks = c.marks.take (m + 1)
 wf : c'.wf
theorem At.mark {find : ByteArray → List Nat × Int} {V : View} {n : Nat} {c c' : StC} (h : At find V n c) (h1 : c'.has = c.has) (h2 : c'.now = c.now) (h3 : c'.steps = c.steps) (h4 : c'.marks = c.marks ++ [c.steps.length]) (hw : c'.wf) : At find ⟨V.now, V.hist ++ [V.now]⟩ n c' := by
 have hn : c'.nowF = c.nowF := by unfold StC.nowF; rw [h2]
 have hh : ∀ k, hasF find c' k = hasF find c k := fun k => by unfold hasF; rw [h1]
 have hrb : ∀ a k, rb find c' a k = rb find c a k := fun a k => by unfold rb; rw [h3, hn, hh]
 refine ⟨fun k => by rw [lv_eq, hn, hh, ← lv_eq]; exact h.lv k, hw, by rw [h3]; exact h.steps, by rw [h4]; simp [h.marks], ?_, ?_⟩
 ·rw [h4, List.pairwise_append]
  refine ⟨h.rise, List.pairwise_singleton _ _, fun a ha b hb => ?_⟩
  rw [List.mem_singleton.1 hb]
  obtain ⟨j, hj⟩ := List.getElem?_of_mem ha
  have hlt : j < V.hist.length := by rw [← h.marks]; exact (List.getElem?_eq_some_iff.1 hj).1
  exact (h.hist j a _ hj (List.getElem?_eq_getElem hlt)).1
 ·intro j a f hj hf
  rw [h4] at hj
  rcases Nat.lt_or_ge j c.marks.length with hlt | hge
  ·rw [List.getElem?_append_left hlt] at hj
   rw [show (⟨V.now, V.hist ++ [V.now]⟩ : View).hist = V.hist ++ [V.now] from rfl, List.getElem?_append_left (by rw [← h.marks]; exact hlt)] at hf
   obtain ⟨p1, p2⟩ := h.hist j a f hj hf
   exact ⟨by rw [h3]; exact p1, fun k => (hrb a k).trans (p2 k)⟩
  ·rw [List.getElem?_append_right hge] at hj
   rw [show (⟨V.now, V.hist ++ [V.now]⟩ : View).hist = V.hist ++ [V.now] from rfl, List.getElem?_append_right (by rw [← h.marks]; exact hge)] at hf
   have e : j - c.marks.length = 0 := by
    have := (List.getElem?_eq_some_iff.1 hj).1
    simp at this
    omega
   rw [← h.marks, e] at hf
   rw [e] at hj
   simp at hj hf
   subst hj
   subst hf
   exact ⟨by rw [h3]; exact Nat.le_refl _, fun k => by rw [hrb, rb_end]; exact h.lv k⟩
end Go.Sl
namespace Go.Sl
open Go Go.MapKept Go.Sort
open Go.WideElems (Fit rg rg_of rd_mk)
theorem Sat.below {w w' : World} {l : List HP} {g : Nat} {o : Obj} (h : Sat w l) (hb : ∀ b, b < w.heap.size → w'.heap[b]? = w.heap[b]?) (hg : w.heap.size ≤ g) (ho : w'.heap[g]? = some o) : Sat w' (blk g o :: l) := by
 have h1 : Sat w (fact True :: l) := Sat.fact_iff.2 ⟨trivial, h⟩
 refine h1.upd (q := blk g o) ?_
 rintro x ⟨rfl, _⟩ _
 refine ⟨_, rfl, ?_, ?_, ?_⟩
 ·intro b o' s hb'
  obtain ⟨rfl, h2⟩ := one_some hb'
  cases h2
  exact ho
 ·intro b v hb'
  obtain ⟨rfl, _⟩ := one_some hb'
  exact .inr (.inl hg)
 ·intro b hlt _
  exact hb b hlt
theorem Sat.below0 {w w' : World} {l : List HP} (h : Sat w l) (hb : ∀ b, b < w.heap.size → w'.heap[b]? = w.heap[b]?) : Sat w' l := by
 have h1 : Sat w (fact True :: l) := Sat.fact_iff.2 ⟨trivial, h⟩
 have h2 : Sat w' (fact True :: l) := by
  refine h1.upd (q := fact True) ?_
  rintro x ⟨rfl, _⟩ _
  exact ⟨Hp.emp, ⟨rfl, trivial⟩, fun b o s (hb' : none = some _) => (by cases hb'), fun b v (hb' : none = some _) => (by cases hb'), fun b hlt _ => hb b hlt⟩
 exact (Sat.fact_iff.1 h2).2
theorem Sat.ownRow {w w' : World} {l : List HP} {e : TypeId} {sz n : Nat} {v : Value} {xs : List Value} (h : Sat w l) (hb : ∀ b, b < w.heap.size → w'.heap[b]? = w.heap[b]?) (hr : w'.ownsRow w.heap.size e sz v n xs) : Sat w' (own sz v n xs :: l) ∧ SlV v n := by
 obtain ⟨hl, hr⟩ := hr
 rcases hr with ⟨rfl, rfl⟩ | ⟨g, cap, cur, rfl, hbg, hg, hnc, hcm, hcs, ht⟩
 ·have hx : xs = [] := List.eq_nil_of_length_eq_zero (by simpa using hl)
  subst hx
  exact ⟨Sat.own_nil (h.below0 hb), .inl ⟨rfl, rfl⟩⟩
 ·have h2 := h.below hb hbg hg
  have hcur : xs ++ cur.toList.drop xs.length = cur.toList := by
   have e : cur.toList.take xs.length = xs := by rw [hl]; exact ht
   have e2 := List.take_append_drop xs.length cur.toList
   rw [e] at e2
   exact e2
  refine ⟨Sat.own_of (t := e) (rest := cur.toList.drop xs.length) ?_ hnc hcm hl ?_, .inr ⟨g, cap, rfl, hnc⟩⟩
  ·have e1 : (⟨xs ++ cur.toList.drop xs.length⟩ : Array Value) = cur := by
    rw [hcur]
   rw [e1]
   exact h2
  ·rw [hcur]
   simpa using hcs
def keyOfV : Value → List UInt8
 | .string s => s.data.toList
 | _ => []
theorem owns_of {H : Type} {P : Program} {k : TypeId} (hk : P.underlying k = some .string) {w : World} {b : Nat} {o : Obj} {m : List (ByteArray × Value)} (hb : w.heap[b]? = some o) (hm : MapIs Value.string (fun _ => True) o m) (hl : m.length ≤ maxLen) (hs : ∀ p ∈ m, p.1.size ≤ maxLen) :
 ∃ D0 : DataW H, w.ownsMap P k (fun _ => some (.lit (.bool true), [])) b m.length D0 ∧ (strKeys D0).Perm (m.map fun p => p.1.data.toList) ∧ Maps.size D0 = m.length := by
 obtain ⟨es, clock, rfl, he, hborn, hnd⟩ := hm.out
 have hsz : es.size = m.length := by
  have := congrArg List.length he
  simpa using this
 have hkeys : es.toList.map (·.key) = m.map fun p => Value.string p.1 := by
  have := congrArg (List.map Prod.fst) he
  rw [List.map_map, List.map_map] at this
  exact this
 have hrd : ∀ x ∈ es.toList, ∃ s : ByteArray, x.key = .string s ∧ Go.WideElems.rd P k (fun _ => some ((.lit (.bool true) : DataW H), [])) x = some (.string s.data.toList, .lit (.bool true)) := fun x hx => by
  have h1 : x.key ∈ m.map fun p => Value.string p.1 := by rw [← hkeys]; exact List.mem_map_of_mem hx
  obtain ⟨p, hp, e⟩ := List.mem_map.1 h1
  obtain ⟨key, val, born⟩ := x
  have e2 : Value.string p.1 = key := e
  subst e2
  exact ⟨p.1, rfl, rd_mk (yv := (.lit (.bool true), [])) (Go.WideMaps.keyOf_string_mk hk (hs p hp)) rfl⟩
 have hF : Fit P k (fun _ => some ((.lit (.bool true) : DataW H), [])) es clock := by
  refine ⟨by rw [hsz]; exact hl, ⟨hborn, hnd, ?_⟩, fun x hx => ?_⟩
  ·rw [hkeys]
   exact List.pairwise_map.2 ((List.pairwise_map.1 hm.keys).imp fun hne e => hne (Value.string.inj e))
  ·obtain ⟨s, _, h⟩ := hrd x hx
   exact ⟨_, h⟩
 refine ⟨_, ⟨es, clock, hb, hF, by omega, rfl⟩, ?_, ?_⟩
 ·show (((es.toList.map (rg P k (fun _ => some ((.lit (.bool true) : DataW H), [])))).foldr DataW.insert []).map fun p => strOf p.1).Perm _
  refine ((Go.WideShapes.sorted_perm _).map _).trans (List.Perm.of_eq ?_)
  rw [List.map_map]
  have h1 : es.toList.map ((fun p : Lit × DataW H => strOf p.1) ∘ rg P k (fun _ => some ((.lit (.bool true) : DataW H), []))) = es.toList.map fun x => keyOfV x.key := by
   apply List.map_congr_left
   intro x hx
   obtain ⟨s, hs1, hs2⟩ := hrd x hx
   show strOf (rg P k _ x).1 = _
   rw [rg_of hs2, hs1]
   rfl
  rw [h1]
  have h2 := congrArg (List.map keyOfV) hkeys
  rw [List.map_map, List.map_map] at h2
  exact h2
 ·show ((es.toList.map (rg P k (fun _ => some ((.lit (.bool true) : DataW H), [])))).foldr DataW.insert []).length = m.length
  rw [length_sorted, List.length_map]
  simpa using hsz
end Go.Sl
namespace Go.Sl
open Go
structure SrcIs (find : ByteArray → List Nat × Int) (c : StC) : Prop where
 has : ∀ p ∈ c.has, p.2.2 = (find p.1).1 ∧ mayI p.1 0 = 0
 now : ∀ p ∈ c.now, (getK c.has p.1).isSome = true
 steps : ∀ x ∈ c.steps, (getK c.has x.key).isSome = true
structure AtK (find : ByteArray → List Nat × Int) (V : View) (n a : Nat) (c : StC) : Prop where
 atV : At find V n c
 src : SrcIs find c
 cnt : c.has.length ≤ a
theorem putK_length {K : Type} [DecidableEq K] (l : List (KV K)) (x : K) (v : Value) (bs : List Nat) : (putK l x v bs).length ≤ l.length + 1 := by
 unfold putK
 split
 ·rw [List.length_map]; omega
 ·rw [List.length_append, List.length_singleton]; exact Nat.le_refl _
section
variable {find : ByteArray → List Nat × Int} {V : View} {n a : Nat} {c c' : StC} {key : ByteArray}
theorem getK_more {l : List (KV ByteArray)} {x : ByteArray} {v : Value} {bs : List Nat} {k : ByteArray} (h : (getK l k).isSome = true) : (getK (putK l x v bs) k).isSome = true := by
 rw [getK_put]
 split
 ·rfl
 ·exact h
theorem AtK.ask (h : AtK find V n a c) (hk : mayI key 0 = 0) (hs : AskOk find c key c') : AtK find V n (a + 1) c' := by
 have h1 := h.atV.same (hs.same h.atV.wf)
 rcases hs.out with ⟨_, rfl⟩ | ⟨_, x, _, _, rfl⟩
 ·exact ⟨h1, h.src, Nat.le_succ_of_le h.cnt⟩
 ·refine ⟨h1, ⟨putK_all h.src.has ⟨rfl, hk⟩, fun p hp => getK_more (h.src.now p hp), fun y hy => getK_more (h.src.steps y hy)⟩, ?_⟩
  have := putK_length c.has key x (find key).1
  have := h.cnt
  show (putK c.has key x (find key).1).length ≤ _
  omega
theorem was_key (c : StC) (key : ByteArray) : (c.was key).key = key := by
 unfold StC.was
 cases getK c.now key <;> rfl
theorem AtK.mark (h : AtK find V n a c) (h1 : c'.has = c.has) (h2 : c'.now = c.now) (h3 : c'.steps = c.steps) (h4 : c'.marks = c.marks ++ [c.steps.length]) (hw : c'.wf) : AtK find ⟨V.now, V.hist ++ [V.now]⟩ n a c' :=
 ⟨h.atV.mark h1 h2 h3 h4 hw, ⟨by rw [h1]; exact h.src.has, by rw [h1, h2]; exact h.src.now, by rw [h1, h3]; exact h.src.steps⟩, by rw [h1]; exact h.cnt⟩
end
end Go.Sl
namespace Go.Sl
open Go Go.Sort
structure ChD where
 key : ByteArray
 ov : Value
 old : List Nat
 nv : Value
 new : List Nat
def ChD.cells (d : ChD) : List Value := [.string d.key, d.ov, d.nv]
def chS (l : List ChD) : List HP := l.flatMap fun d => [own 1 d.ov d.old.length (bvs d.old), own 1 d.nv d.new.length (bvs d.new)]
def hasL (c : StC) (k : ByteArray) : List Nat := ((getK c.has k).map (·.2)).getD []
def hasV (c : StC) (k : ByteArray) : Value := ((getK c.has k).map (·.1)).getD (.slice none 0 0)
def turned (c : StC) (k : ByteArray) : Bool := !decide (strB (c.val k) = strB (hasL c k))
def strOfB (x : List UInt8) : ByteArray := ⟨⟨x⟩⟩
def keysB (K : List ByteArray) : List Value := K.map Value.string
structure ChIs (find : ByteArray → List Nat × Int) (V : View) (l : List ChD) : Prop where
 rise : (l.map fun d => d.key.data.toList).Pairwise fun x y => leB x y = true
 nodup : (l.map fun d => d.key.data.toList).Nodup
 mem : ∀ k, k ∈ l.map (·.key) ↔ strB (V k) ≠ strB (find k).1
 vals : ∀ d ∈ l, d.old = (find d.key).1 ∧ d.new = V d.key
theorem leB_anti {x y : List UInt8} (h1 : leB x y = true) (h2 : leB y x = true) : x = y := by
 simp only [leB, decide_eq_true_eq] at h1 h2
 exact List.le_antisymm h1 h2
theorem leB_pair (ss : List (List UInt8)) : (ss.mergeSort leB).Pairwise fun x y => leB x y = true := by
 have tr : ∀ a b c : List UInt8, leB a b = true → leB b c = true → leB a c = true := fun a b c h1 h2 => by
  simp only [leB, decide_eq_true_eq] at h1 h2 ⊢
  exact List.le_trans h1 h2
 have to : ∀ a b : List UInt8, (leB a b || leB b a) = true := fun a b => by simp only [leB, Bool.or_eq_true, decide_eq_true_eq]; exact List.le_total a b
 exact List.pairwise_mergeSort tr to ss
theorem data_inj {a b : ByteArray} (h : a.data.toList = b.data.toList) : a = b := by
 apply ByteArray.ext
 exact Array.toList_inj.1 h
theorem ChIs.keys {find : ByteArray → List Nat × Int} {V : View} {l m : List ChD} (h : ChIs find V l) (h2 : ChIs find V m) : l.map (·.key) = m.map (·.key) := by
 have e1 : (l.map fun d => d.key.data.toList) = (m.map fun d => d.key.data.toList) := by
  refine List.Perm.eq_of_pairwise (le := fun a b => leB a b = true) (fun a b _ _ x y => leB_anti x y) h.rise h2.rise ((List.perm_ext_iff_of_nodup h.nodup h2.nodup).2 fun x => ?_)
  have key : ∀ {n : List ChD} , x ∈ (n.map fun d => d.key.data.toList) ↔ strOfB x ∈ n.map (·.key) := fun {n} => by
   constructor
   ·intro hx
    obtain ⟨d, hd, rfl⟩ := List.mem_map.1 hx
    exact List.mem_map.2 ⟨d, hd, rfl⟩
   ·intro hx
    obtain ⟨d, hd, e⟩ := List.mem_map.1 hx
    exact List.mem_map.2 ⟨d, hd, by rw [e]; rfl⟩
  rw [key, key, h.mem, h2.mem]
 have inj : ∀ {a b : List ByteArray}, a.map (fun k => k.data.toList) = b.map (fun k => k.data.toList) → a = b := by
  intro a
  induction a with
  | nil => intro b hb; cases b with
   | nil => rfl
   | cons _ _ => cases hb
  | cons x a ih => intro b hb; cases b with
   | nil => cases hb
   | cons y b =>
    simp only [List.map_cons, List.cons.injEq] at hb
    rw [data_inj hb.1, ih hb.2]
 refine inj ?_
 rw [List.map_map, List.map_map]
 exact e1
theorem ChIs.same {find : ByteArray → List Nat × Int} {V : View} {l m : List ChD} (h : ChIs find V l) (h2 : ChIs find V m) : l.map (fun d => (d.key, d.old, d.new)) = m.map (fun d => (d.key, d.old, d.new)) := by
 have f : ∀ {n : List ChD}, ChIs find V n → n.map (fun d => (d.key, d.old, d.new)) = (n.map (·.key)).map fun k => (k, (find k).1, V k) := fun {n} hn => by
  rw [List.map_map]
  apply List.map_congr_left
  intro d hd
  obtain ⟨e1, e2⟩ := hn.vals d hd
  show (d.key, d.old, d.new) = (d.key, (find d.key).1, V d.key)
  rw [e1, e2]
 rw [f h, f h2, h.keys h2]
section
variable {find : ByteArray → List Nat × Int} {V : View} {n a : Nat} {c : StC}
end
end Go.Sl
