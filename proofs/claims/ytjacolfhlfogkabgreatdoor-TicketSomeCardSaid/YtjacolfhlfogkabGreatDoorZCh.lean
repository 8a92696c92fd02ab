import Derived.Test.YtjacolfhlfogkabGreatDoorZSt
import Derived.Test.YtjacolfhlfogkabGreatDoorZMp
import Derived.Maps.OwnSet
import Derived.Maps.Range
import Derived.Sort.KeysCollected
import Derived.StringKeys
import Derived.Below
import Derived.Test.YtjacolfhlfogkabGreatDoorZMb
namespace Go.Sl
open Go Go.MapKept Go.Sort
open Go.WideElems (Fit rg rg_of rd_mk)
theorem Sat.below {w w' : World} {l : List HP} {g : Nat} {o : Obj} (h : Sat w l) (hb : ∀ b, b < w.heap.size → w'.heap[b]? = w.heap[b]?) (hg : w.heap.size ≤ g) (ho : w'.heap[g]? = some o) : Sat w' (blk g o :: l) := by
 have h1 : Sat w (fact True :: l) := Sat.fact_iff.2 ⟨trivial, h⟩
 refine h1.upd (q := blk g o) ?_
 rintro x ⟨rfl, _⟩ _
 refine ⟨_, rfl, ?_, ?_, ?_⟩
 ·intro b o' s hb'
  obtain ⟨rfl, h2⟩ := one_some hb'
  cases h2
  exact ho
 ·intro b v hb'
  obtain ⟨rfl, _⟩ := one_some hb'
  exact .inr (.inl hg)
 ·intro b hlt _
  exact hb b hlt
theorem Sat.below0 {w w' : World} {l : List HP} (h : Sat w l) (hb : ∀ b, b < w.heap.size → w'.heap[b]? = w.heap[b]?) : Sat w' l := by
 have h1 : Sat w (fact True :: l) := Sat.fact_iff.2 ⟨trivial, h⟩
 have h2 : Sat w' (fact True :: l) := by
  refine h1.upd (q := fact True) ?_
  rintro x ⟨rfl, _⟩ _
  exact ⟨Hp.emp, ⟨rfl, trivial⟩, fun b o s (hb' : none = some _) => (by cases hb'), fun b v (hb' : none = some _) => (by cases hb'), fun b hlt _ => hb b hlt⟩
 exact (Sat.fact_iff.1 h2).2
theorem Sat.ownRow {w w' : World} {l : List HP} {e : TypeId} {sz n : Nat} {v : Value} {xs : List Value} (h : Sat w l) (hb : ∀ b, b < w.heap.size → w'.heap[b]? = w.heap[b]?) (hr : w'.ownsRow w.heap.size e sz v n xs) : Sat w' (own sz v n xs :: l) ∧ SlV v n := by
 obtain ⟨hl, hr⟩ := hr
 rcases hr with ⟨rfl, rfl⟩ | ⟨g, cap, cur, rfl, hbg, hg, hnc, hcm, hcs, ht⟩
 ·have hx : xs = [] := List.eq_nil_of_length_eq_zero (by simpa using hl)
  subst hx
  exact ⟨Sat.own_nil (h.below0 hb), .inl ⟨rfl, rfl⟩⟩
 ·have h2 := h.below hb hbg hg
  have hcur : xs ++ cur.toList.drop xs.length = cur.toList := by
   have e : cur.toList.take xs.length = xs := by rw [hl]; exact ht
   have e2 := List.take_append_drop xs.length cur.toList
   rw [e] at e2
   exact e2
  refine ⟨Sat.own_of (t := e) (rest := cur.toList.drop xs.length) ?_ hnc hcm hl ?_, .inr ⟨g, cap, rfl, hnc⟩⟩
  ·have e1 : (⟨xs ++ cur.toList.drop xs.length⟩ : Array Value) = cur := by
    rw [hcur]
   rw [e1]
   exact h2
  ·rw [hcur]
   simpa using hcs
def keyOfV : Value → List UInt8
 | .string s => s.data.toList
 | _ => []
theorem owns_of {H : Type} {P : Program} {k : TypeId} (hk : P.underlying k = some .string) {w : World} {b : Nat} {o : Obj} {m : List (ByteArray × Value)} (hb : w.heap[b]? = some o) (hm : MapIs Value.string (fun _ => True) o m) (hl : m.length ≤ maxLen) (hs : ∀ p ∈ m, p.1.size ≤ maxLen) :
 ∃ D0 : DataW H, w.ownsMap P k (fun _ => some (.lit (.bool true), [])) b m.length D0 ∧ (strKeys D0).Perm (m.map fun p => p.1.data.toList) ∧ Maps.size D0 = m.length := by
 obtain ⟨es, clock, rfl, he, hborn, hnd⟩ := hm.out
 have hsz : es.size = m.length := by
  have := congrArg List.length he
  simpa using this
 have hkeys : es.toList.map (·.key) = m.map fun p => Value.string p.1 := by
  have := congrArg (List.map Prod.fst) he
  rw [List.map_map, List.map_map] at this
  exact this
 have hrd : ∀ x ∈ es.toList, ∃ s : ByteArray, x.key = .string s ∧ Go.WideElems.rd P k (fun _ => some ((.lit (.bool true) : DataW H), [])) x = some (.string s.data.toList, .lit (.bool true)) := fun x hx => by
  have h1 : x.key ∈ m.map fun p => Value.string p.1 := by rw [← hkeys]; exact List.mem_map_of_mem hx
  obtain ⟨p, hp, e⟩ := List.mem_map.1 h1
  obtain ⟨key, val, born⟩ := x
  have e2 : Value.string p.1 = key := e
  subst e2
  exact ⟨p.1, rfl, rd_mk (yv := (.lit (.bool true), [])) (Go.WideMaps.keyOf_string_mk hk (hs p hp)) rfl⟩
 have hF : Fit P k (fun _ => some ((.lit (.bool true) : DataW H), [])) es clock := by
  refine ⟨by rw [hsz]; exact hl, ⟨hborn, hnd, ?_⟩, fun x hx => ?_⟩
  ·rw [hkeys]
   exact List.pairwise_map.2 ((List.pairwise_map.1 hm.keys).imp fun hne e => hne (Value.string.inj e))
  ·obtain ⟨s, _, h⟩ := hrd x hx
   exact ⟨_, h⟩
 refine ⟨_, ⟨es, clock, hb, hF, by omega, rfl⟩, ?_, ?_⟩
 ·show (((es.toList.map (rg P k (fun _ => some ((.lit (.bool true) : DataW H), [])))).foldr DataW.insert []).map fun p => strOf p.1).Perm _
  refine ((Go.WideShapes.sorted_perm _).map _).trans (List.Perm.of_eq ?_)
  rw [List.map_map]
  have h1 : es.toList.map ((fun p : Lit × DataW H => strOf p.1) ∘ rg P k (fun _ => some ((.lit (.bool true) : DataW H), []))) = es.toList.map fun x => keyOfV x.key := by
   apply List.map_congr_left
   intro x hx
   obtain ⟨s, hs1, hs2⟩ := hrd x hx
   show strOf (rg P k _ x).1 = _
   rw [rg_of hs2, hs1]
   rfl
  rw [h1]
  have h2 := congrArg (List.map keyOfV) hkeys
  rw [List.map_map, List.map_map] at h2
  exact h2
 ·show ((es.toList.map (rg P k (fun _ => some ((.lit (.bool true) : DataW H), [])))).foldr DataW.insert []).length = m.length
  rw [length_sorted, List.length_map]
  simpa using hsz
end Go.Sl
namespace Go.Sl
open Go
structure SrcIs (find : ByteArray → List Nat × Int) (c : StC) : Prop where
 has : ∀ p ∈ c.has, p.2.2 = (find p.1).1 ∧ mayI p.1 0 = 0
 now : ∀ p ∈ c.now, (getK c.has p.1).isSome = true
 steps : ∀ x ∈ c.steps, (getK c.has x.key).isSome = true
structure AtK (find : ByteArray → List Nat × Int) (V : View) (n a : Nat) (c : StC) : Prop where
 atV : At find V n c
 src : SrcIs find c
 cnt : c.has.length ≤ a
theorem putK_length {K : Type} [DecidableEq K] (l : List (KV K)) (x : K) (v : Value) (bs : List Nat) : (putK l x v bs).length ≤ l.length + 1 := by
 unfold putK
 split
 ·rw [List.length_map]; omega
 ·rw [List.length_append, List.length_singleton]; exact Nat.le_refl _
section
variable {find : ByteArray → List Nat × Int} {V : View} {n a : Nat} {c c' : StC} {key : ByteArray}
theorem getK_more {l : List (KV ByteArray)} {x : ByteArray} {v : Value} {bs : List Nat} {k : ByteArray} (h : (getK l k).isSome = true) : (getK (putK l x v bs) k).isSome = true := by
 rw [getK_put]
 split
 ·rfl
 ·exact h
theorem AtK.ask (h : AtK find V n a c) (hk : mayI key 0 = 0) (hs : AskOk find c key c') : AtK find V n (a + 1) c' := by
 have h1 := h.atV.same (hs.same h.atV.wf)
 rcases hs.out with ⟨_, rfl⟩ | ⟨_, x, _, _, rfl⟩
 ·exact ⟨h1, h.src, Nat.le_succ_of_le h.cnt⟩
 ·refine ⟨h1, ⟨putK_all h.src.has ⟨rfl, hk⟩, fun p hp => getK_more (h.src.now p hp), fun y hy => getK_more (h.src.steps y hy)⟩, ?_⟩
  have := putK_length c.has key x (find key).1
  have := h.cnt
  show (putK c.has key x (find key).1).length ≤ _
  omega
theorem was_key (c : StC) (key : ByteArray) : (c.was key).key = key := by
 unfold StC.was
 cases getK c.now key <;> rfl
theorem AtK.mark (h : AtK find V n a c) (h1 : c'.has = c.has) (h2 : c'.now = c.now) (h3 : c'.steps = c.steps) (h4 : c'.marks = c.marks ++ [c.steps.length]) (hw : c'.wf) : AtK find ⟨V.now, V.hist ++ [V.now]⟩ n a c' :=
 ⟨h.atV.mark h1 h2 h3 h4 hw, ⟨by rw [h1]; exact h.src.has, by rw [h1, h2]; exact h.src.now, by rw [h1, h3]; exact h.src.steps⟩, by rw [h1]; exact h.cnt⟩
theorem undoTo_some {l : List StepC} {i : Nat} {f : ByteArray → Option (List Nat)} {k : ByteArray} (h : (undoTo l i f k).isSome = true) : (f k).isSome = true ∨ ∃ x ∈ l, x.key = k := by
 unfold undoTo at h
 have hm : ∀ x ∈ l.drop i, x ∈ l := fun x hx => List.mem_of_mem_drop hx
 generalize l.drop i = r at h hm
 induction r with
 | nil => exact .inl h
 | cons x r ih =>
  rw [List.foldr_cons] at h
  by_cases hk : k = x.key
  ·exact .inr ⟨x, hm x List.mem_cons_self, hk.symm⟩
  ·unfold undo1 at h
   rw [if_neg hk] at h
   exact ih h fun y hy => hm y (List.mem_cons_of_mem _ hy)
theorem getK_in {l : List (KV ByteArray)} {p : KV ByteArray} (h : p ∈ l) : (getK l p.1).isSome = true := by
 unfold getK
 rw [Option.isSome_map, List.find?_isSome]
 exact ⟨p, h, by simp⟩
theorem mem_getK {l : List (KV ByteArray)} {k : ByteArray} (h : (getK l k).isSome = true) : ∃ q ∈ l, q.1 = k := by
 unfold getK at h
 rw [Option.isSome_map, List.find?_isSome] at h
 obtain ⟨q, hq, e⟩ := h
 exact ⟨q, hq, by simpa using e⟩
theorem AtK.back {m at_ : Nat} (h : AtK find V n a c) (hm : c.marks[m]? = some at_) (hg : Gone c m at_ c') : ∃ f, V.hist[m]? = some f ∧ AtK find ⟨f, V.hist.take (m + 1)⟩ n a c' := by
 obtain ⟨f, hf, h1⟩ := h.atV.back hm hg
 refine ⟨f, hf, h1, ⟨by rw [hg.has]; exact h.src.has, fun p hp => ?_, fun y hy => ?_⟩, by rw [hg.has]; exact h.cnt⟩
 ·rw [hg.has]
  have h2 : (c'.nowF p.1).isSome = true := by
   unfold StC.nowF
   rw [Option.isSome_map]
   exact getK_in hp
  rw [hg.now] at h2
  rcases undoTo_some h2 with h3 | ⟨x, hx, e⟩
  ·unfold StC.nowF at h3
   rw [Option.isSome_map] at h3
   obtain ⟨q, hq, e⟩ := mem_getK h3
   rw [← e]
   exact h.src.now q hq
  ·rw [← e]
   exact h.src.steps x hx
 ·rw [hg.has]
  rw [hg.steps] at hy
  exact h.src.steps y (List.mem_of_mem_take hy)
end
end Go.Sl
namespace Go.Sl
open Go Go.Sort
structure ChD where
 key : ByteArray
 ov : Value
 old : List Nat
 nv : Value
 new : List Nat
def ChD.cells (d : ChD) : List Value := [.string d.key, d.ov, d.nv]
def chS (l : List ChD) : List HP := l.flatMap fun d => [own 1 d.ov d.old.length (bvs d.old), own 1 d.nv d.new.length (bvs d.new)]
def hasL (c : StC) (k : ByteArray) : List Nat := ((getK c.has k).map (·.2)).getD []
def hasV (c : StC) (k : ByteArray) : Value := ((getK c.has k).map (·.1)).getD (.slice none 0 0)
def turned (c : StC) (k : ByteArray) : Bool := !decide (strB (c.val k) = strB (hasL c k))
def strOfB (x : List UInt8) : ByteArray := ⟨⟨x⟩⟩
def keysB (K : List ByteArray) : List Value := K.map Value.string
structure ChIs (find : ByteArray → List Nat × Int) (V : View) (l : List ChD) : Prop where
 rise : (l.map fun d => d.key.data.toList).Pairwise fun x y => leB x y = true
 nodup : (l.map fun d => d.key.data.toList).Nodup
 mem : ∀ k, k ∈ l.map (·.key) ↔ strB (V k) ≠ strB (find k).1
 vals : ∀ d ∈ l, d.old = (find d.key).1 ∧ d.new = V d.key
theorem leB_anti {x y : List UInt8} (h1 : leB x y = true) (h2 : leB y x = true) : x = y := by
 simp only [leB, decide_eq_true_eq] at h1 h2
 exact List.le_antisymm h1 h2
theorem leB_pair (ss : List (List UInt8)) : (ss.mergeSort leB).Pairwise fun x y => leB x y = true := by
 have tr : ∀ a b c : List UInt8, leB a b = true → leB b c = true → leB a c = true := fun a b c h1 h2 => by
  simp only [leB, decide_eq_true_eq] at h1 h2 ⊢
  exact List.le_trans h1 h2
 have to : ∀ a b : List UInt8, (leB a b || leB b a) = true := fun a b => by simp only [leB, Bool.or_eq_true, decide_eq_true_eq]; exact List.le_total a b
 exact List.pairwise_mergeSort tr to ss
theorem data_inj {a b : ByteArray} (h : a.data.toList = b.data.toList) : a = b := by
 apply ByteArray.ext
 exact Array.toList_inj.1 h
theorem ChIs.keys {find : ByteArray → List Nat × Int} {V : View} {l m : List ChD} (h : ChIs find V l) (h2 : ChIs find V m) : l.map (·.key) = m.map (·.key) := by
 have e1 : (l.map fun d => d.key.data.toList) = (m.map fun d => d.key.data.toList) := by
  refine List.Perm.eq_of_pairwise (le := fun a b => leB a b = true) (fun a b _ _ x y => leB_anti x y) h.rise h2.rise ((List.perm_ext_iff_of_nodup h.nodup h2.nodup).2 fun x => ?_)
  have key : ∀ {n : List ChD} , x ∈ (n.map fun d => d.key.data.toList) ↔ strOfB x ∈ n.map (·.key) := fun {n} => by
   constructor
   ·intro hx
    obtain ⟨d, hd, rfl⟩ := List.mem_map.1 hx
    exact List.mem_map.2 ⟨d, hd, rfl⟩
   ·intro hx
    obtain ⟨d, hd, e⟩ := List.mem_map.1 hx
    exact List.mem_map.2 ⟨d, hd, by rw [e]; rfl⟩
  rw [key, key, h.mem, h2.mem]
 have inj : ∀ {a b : List ByteArray}, a.map (fun k => k.data.toList) = b.map (fun k => k.data.toList) → a = b := by
  intro a
  induction a with
  | nil => intro b hb; cases b with
   | nil => rfl
   | cons _ _ => cases hb
  | cons x a ih => intro b hb; cases b with
   | nil => cases hb
   | cons y b =>
    simp only [List.map_cons, List.cons.injEq] at hb
    rw [data_inj hb.1, ih hb.2]
 refine inj ?_
 rw [List.map_map, List.map_map]
 exact e1
theorem ChIs.same {find : ByteArray → List Nat × Int} {V : View} {l m : List ChD} (h : ChIs find V l) (h2 : ChIs find V m) : l.map (fun d => (d.key, d.old, d.new)) = m.map (fun d => (d.key, d.old, d.new)) := by
 have f : ∀ {n : List ChD}, ChIs find V n → n.map (fun d => (d.key, d.old, d.new)) = (n.map (·.key)).map fun k => (k, (find k).1, V k) := fun {n} hn => by
  rw [List.map_map]
  apply List.map_congr_left
  intro d hd
  obtain ⟨e1, e2⟩ := hn.vals d hd
  show (d.key, d.old, d.new) = (d.key, (find d.key).1, V d.key)
  rw [e1, e2]
 rw [f h, f h2, h.keys h2]
section
variable {find : ByteArray → List Nat × Int} {V : View} {n a : Nat} {c : StC}
end
end Go.Sl
