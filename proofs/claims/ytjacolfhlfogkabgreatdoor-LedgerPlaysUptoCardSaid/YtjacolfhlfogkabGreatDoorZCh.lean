import Derived.Test.YtjacolfhlfogkabGreatDoorZTt
import Derived.Test.YtjacolfhlfogkabGreatDoorZSt
import Derived.Test.YtjacolfhlfogkabGreatDoorZMp
import Derived.Maps.OwnSet
import Derived.Maps.Range
import Derived.Sort.KeysCollected
import Derived.StringKeys
import Derived.Below
import Derived.Test.YtjacolfhlfogkabGreatDoorZWh
namespace Go.Sl
open Go
structure PairD where
 key : ByteArray
 v : Value
 bs : List Nat
def PairD.cells (p : PairD) : List Value := [.string p.key, p.v]
def pairsC (l : List PairD) : List Value := l.flatMap PairD.cells
theorem pairsC_len (l : List PairD) : (pairsC l).length = l.length * 2 := by
 induction l with
 | nil => rfl
 | cons x l ih =>
  show (x.cells ++ pairsC l).length = _
  rw [List.length_append, ih]
  show 2 + l.length * 2 = (l.length + 1) * 2
  omega
theorem pairsC_app (l m : List PairD) : pairsC (l ++ m) = pairsC l ++ pairsC m := by simp [pairsC]
theorem pairsC_get {l : List PairD} {i : Nat} {p : PairD} (h : l[i]? = some p) : (pairsC l)[i * 2]? = some (.string p.key) ∧ (pairsC l)[i * 2 + 1]? = some p.v := by
 induction l generalizing i with
 | nil => simp at h
 | cons y l ih =>
  cases i with
  | zero => simp at h; subst h; exact ⟨rfl, rfl⟩
  | succ i =>
   have h2 := ih (i := i) (by simpa using h)
   have e : ∀ j, (pairsC (y :: l))[j + 2]? = (pairsC l)[j]? := fun j => by
    show (Value.string y.key :: y.v :: pairsC l)[j + 2]? = _
    simp
   rw [show (i + 1) * 2 = i * 2 + 2 by omega, e, show i * 2 + 2 + 1 = (i * 2 + 1) + 2 by omega, e]
   exact h2
theorem pairsC_at {l : List PairD} {i : Nat} {p : PairD} (h : l[i]? = some p) : ((pairsC l).drop (i * 2)).take 2 = p.cells := by
 obtain ⟨h1, h2⟩ := pairsC_get h
 apply List.ext_getElem?
 intro j
 rw [List.getElem?_take]
 match j with
 | 0 => rw [if_pos (by decide), List.getElem?_drop, Nat.add_zero, h1]; rfl
 | 1 => rw [if_pos (by decide), List.getElem?_drop, h2]; rfl
 | j + 2 => rw [if_neg (by omega)]; rfl
section
variable {α : Type} (kf : α → ByteArray)
def withL (key : ByteArray) (new : α) : Bool → List α → List α
 | done, [] => if done then [] else [new]
 | done, p :: l => (if !done && !slt (kf p) key then [new] else []) ++ ((if kf p = key then [] else [p]) ++ withL key new (done || !slt (kf p) key) l)
theorem withL_mem {key : ByteArray} {new : α} : ∀ {l : List α} {d : Bool} {p : α}, p ∈ withL kf key new d l → p = new ∨ (p ∈ l ∧ kf p ≠ key)
 | [], d, p, h => by
  unfold withL at h
  split at h
  ·cases h
  ·exact .inl (List.mem_singleton.1 h)
 | q :: l, d, p, h => by
  unfold withL at h
  rcases List.mem_append.1 h with h | h
  ·split at h
   ·exact .inl (List.mem_singleton.1 h)
   ·cases h
  ·rcases List.mem_append.1 h with h | h
   ·split at h
    ·cases h
    ·rename_i hne
     have e := List.mem_singleton.1 h
     subst e
     exact .inr ⟨List.mem_cons_self, hne⟩
   ·rcases withL_mem h with e | ⟨e1, e2⟩
    ·exact .inl e
    ·exact .inr ⟨List.mem_cons_of_mem _ e1, e2⟩
theorem withL_len (key : ByteArray) (new : α) : ∀ (l : List α) (d : Bool), (withL kf key new d l).length ≤ l.length + (if d then 0 else 1)
 | [], d => by cases d <;> simp [withL]
 | p :: l, d => by
  have ih := withL_len key new l (d || !slt (kf p) key)
  unfold withL
  simp only [List.length_append, List.length_cons]
  have h2 : (if kf p = key then ([] : List α) else [p]).length ≤ 1 := by split <;> simp
  cases d <;> cases hs : slt (kf p) key <;> simp [hs] at ih ⊢ <;> omega
theorem withL_map {β : Type} (kg : β → ByteArray) (e : α → β) (he : ∀ a, kg (e a) = kf a) (key : ByteArray) (new : α) : ∀ (l : List α) (d : Bool), (withL kf key new d l).map e = withL kg key (e new) d (l.map e)
 | [], d => by cases d <;> simp [withL]
 | p :: l, d => by
  have ih := withL_map kg e he key new l (d || !slt (kf p) key)
  have e1 : ∀ (γ : Type) (k : γ → ByteArray) (nw q : γ) (r : List γ), withL k key nw d (q :: r) = (if !d && !slt (k q) key then [nw] else []) ++ ((if k q = key then [] else [q]) ++ withL k key nw (d || !slt (k q) key) r) := fun _ _ _ _ _ => rfl
  rw [List.map_cons, e1, e1, List.map_append, List.map_append, ih, he]
  congr 1
  ·split <;> simp
  ·congr 1
   split <;> simp
end
def PairD.e (p : PairD) : ByteArray × List Nat := (p.key, p.bs)
def putP (key : ByteArray) (bs : List Nat) (l : List (ByteArray × List Nat)) : List (ByteArray × List Nat) := (withL Prod.fst key (key, bs) false l).filter fun p => decide (0 < p.2.length)
def fitB : List (ByteArray × List Nat) → List (ByteArray × List Nat) → List (ByteArray × List Nat)
 | out, [] => out
 | out, p :: l => fitB (if mayI p.1 p.2.length = 0 then putP p.1 p.2 out else out) l
theorem putP_mem {key : ByteArray} {bs : List Nat} {l : List (ByteArray × List Nat)} {p : ByteArray × List Nat} (h : p ∈ putP key bs l) : (p = (key, bs) ∨ (p ∈ l ∧ p.1 ≠ key)) ∧ 0 < p.2.length := by
 obtain ⟨h1, h2⟩ := List.mem_filter.1 h
 exact ⟨withL_mem Prod.fst h1, by simpa using h2⟩
theorem putP_len (key : ByteArray) (bs : List Nat) (l : List (ByteArray × List Nat)) : (putP key bs l).length ≤ l.length + 1 := by
 have h1 := withL_len Prod.fst key (key, bs) l false
 have h2 : (putP key bs l).length ≤ (withL Prod.fst key (key, bs) false l).length := List.length_filter_le _ _
 simp at h1
 omega
theorem fitB_mem {p : ByteArray × List Nat} : ∀ {l out : List (ByteArray × List Nat)}, p ∈ fitB out l → p ∈ out ∨ (p ∈ l ∧ mayI p.1 p.2.length = 0 ∧ 0 < p.2.length)
 | [], out, h => .inl h
 | q :: l, out, h => by
  unfold fitB at h
  rcases fitB_mem h with h | ⟨h1, h2⟩
  ·split at h
   ·rename_i hm
    obtain ⟨h3, h4⟩ := putP_mem h
    rcases h3 with rfl | ⟨h5, _⟩
    ·exact .inr ⟨List.mem_cons_self, hm, h4⟩
    ·exact .inl h5
   ·exact .inl h
  ·exact .inr ⟨List.mem_cons_of_mem _ h1, h2⟩
theorem DoesG.geq {P : Program} {F L : List HP} {a b : ByteArray} {k : Value → List HP → Prop} (hk : k (.bool (!slt a b)) L) : DoesG P F (Op.stringOp .geq a b) L k :=
 ⟨fun w hs => ⟨_, L, w, by simp [Op.stringOp, slt], Ext.refl w, hs, hk⟩⟩
theorem withL_step {α : Type} (kf : α → ByteArray) (key : ByteArray) (new : α) (d : Bool) {l : List α} {i : Nat} {p : α} (h : l[i]? = some p) :
 withL kf key new d (l.drop i) = (if !d && !slt (kf p) key then [new] else []) ++ ((if kf p = key then [] else [p]) ++ withL kf key new (d || !slt (kf p) key) (l.drop (i + 1))) := by
 obtain ⟨h1, rfl⟩ := List.getElem?_eq_some_iff.1 h
 rw [List.drop_eq_getElem_cons h1]
 rfl
theorem fitB_step {l out : List (ByteArray × List Nat)} {i : Nat} {p : ByteArray × List Nat} (h : l[i]? = some p) : fitB out (l.drop i) = fitB (if mayI p.1 p.2.length = 0 then putP p.1 p.2 out else out) (l.drop (i + 1)) := by
 obtain ⟨h1, rfl⟩ := List.getElem?_eq_some_iff.1 h
 rw [List.drop_eq_getElem_cons h1]
 rfl
theorem putP_map (key : ByteArray) (x : Value) (bs : List Nat) (l : List PairD) :
 ((withL PairD.key key ⟨key, x, bs⟩ false l).filter fun p => decide (0 < p.bs.length)).map PairD.e = putP key bs (l.map PairD.e) := by
 unfold putP
 have h := withL_map PairD.key Prod.fst PairD.e (fun _ => rfl) key (⟨key, x, bs⟩ : PairD) l false
 have e : PairD.e ⟨key, x, bs⟩ = (key, bs) := rfl
 rw [e] at h
 rw [← h, List.filter_map]
 rfl
end Go.Sl
namespace Go.Sl
open Go Go.MapKept Go.Sort
open Go.WideElems (Fit rg rg_of rd_mk)
theorem Sat.below {w w' : World} {l : List HP} {g : Nat} {o : Obj} (h : Sat w l) (hb : ∀ b, b < w.heap.size → w'.heap[b]? = w.heap[b]?) (hg : w.heap.size ≤ g) (ho : w'.heap[g]? = some o) : Sat w' (blk g o :: l) := by
 have h1 : Sat w (fact True :: l) := Sat.fact_iff.2 ⟨trivial, h⟩
 refine h1.upd (q := blk g o) ?_
 rintro x ⟨rfl, _⟩ _
 refine ⟨_, rfl, ?_, ?_, ?_⟩
 ·intro b o' s hb'
  obtain ⟨rfl, h2⟩ := one_some hb'
  cases h2
  exact ho
 ·intro b v hb'
  obtain ⟨rfl, _⟩ := one_some hb'
  exact .inr (.inl hg)
 ·intro b hlt _
  exact hb b hlt
theorem Sat.below0 {w w' : World} {l : List HP} (h : Sat w l) (hb : ∀ b, b < w.heap.size → w'.heap[b]? = w.heap[b]?) : Sat w' l := by
 have h1 : Sat w (fact True :: l) := Sat.fact_iff.2 ⟨trivial, h⟩
 have h2 : Sat w' (fact True :: l) := by
  refine h1.upd (q := fact True) ?_
  rintro x ⟨rfl, _⟩ _
  exact ⟨Hp.emp, ⟨rfl, trivial⟩, fun b o s (hb' : none = some _) => (by cases hb'), fun b v (hb' : none = some _) => (by cases hb'), fun b hlt _ => hb b hlt⟩
 exact (Sat.fact_iff.1 h2).2
theorem Sat.ownRow {w w' : World} {l : List HP} {e : TypeId} {sz n : Nat} {v : Value} {xs : List Value} (h : Sat w l) (hb : ∀ b, b < w.heap.size → w'.heap[b]? = w.heap[b]?) (hr : w'.ownsRow w.heap.size e sz v n xs) : Sat w' (own sz v n xs :: l) ∧ SlV v n := by
 obtain ⟨hl, hr⟩ := hr
 rcases hr with ⟨rfl, rfl⟩ | ⟨g, cap, cur, rfl, hbg, hg, hnc, hcm, hcs, ht⟩
 ·have hx : xs = [] := List.eq_nil_of_length_eq_zero (by simpa using hl)
  subst hx
  exact ⟨Sat.own_nil (h.below0 hb), .inl ⟨rfl, rfl⟩⟩
 ·have h2 := h.below hb hbg hg
  have hcur : xs ++ cur.toList.drop xs.length = cur.toList := by
   have e : cur.toList.take xs.length = xs := by rw [hl]; exact ht
   have e2 := List.take_append_drop xs.length cur.toList
   rw [e] at e2
   exact e2
  refine ⟨Sat.own_of (t := e) (rest := cur.toList.drop xs.length) ?_ hnc hcm hl ?_, .inr ⟨g, cap, rfl, hnc⟩⟩
  ·have e1 : (⟨xs ++ cur.toList.drop xs.length⟩ : Array Value) = cur := by
    rw [hcur]
   rw [e1]
   exact h2
  ·rw [hcur]
   simpa using hcs
def keyOfV : Value → List UInt8
 | .string s => s.data.toList
 | _ => []
theorem owns_of {H : Type} {P : Program} {k : TypeId} (hk : P.underlying k = some .string) {w : World} {b : Nat} {o : Obj} {m : List (ByteArray × Value)} (hb : w.heap[b]? = some o) (hm : MapIs Value.string (fun _ => True) o m) (hl : m.length ≤ maxLen) (hs : ∀ p ∈ m, p.1.size ≤ maxLen) :
 ∃ D0 : DataW H, w.ownsMap P k (fun _ => some (.lit (.bool true), [])) b m.length D0 ∧ (strKeys D0).Perm (m.map fun p => p.1.data.toList) ∧ Maps.size D0 = m.length := by
 obtain ⟨es, clock, rfl, he, hborn, hnd⟩ := hm.out
 have hsz : es.size = m.length := by
  have := congrArg List.length he
  simpa using this
 have hkeys : es.toList.map (·.key) = m.map fun p => Value.string p.1 := by
  have := congrArg (List.map Prod.fst) he
  rw [List.map_map, List.map_map] at this
  exact this
 have hrd : ∀ x ∈ es.toList, ∃ s : ByteArray, x.key = .string s ∧ Go.WideElems.rd P k (fun _ => some ((.lit (.bool true) : DataW H), [])) x = some (.string s.data.toList, .lit (.bool true)) := fun x hx => by
  have h1 : x.key ∈ m.map fun p => Value.string p.1 := by rw [← hkeys]; exact List.mem_map_of_mem hx
  obtain ⟨p, hp, e⟩ := List.mem_map.1 h1
  obtain ⟨key, val, born⟩ := x
  have e2 : Value.string p.1 = key := e
  subst e2
  exact ⟨p.1, rfl, rd_mk (yv := (.lit (.bool true), [])) (Go.WideMaps.keyOf_string_mk hk (hs p hp)) rfl⟩
 have hF : Fit P k (fun _ => some ((.lit (.bool true) : DataW H), [])) es clock := by
  refine ⟨by rw [hsz]; exact hl, ⟨hborn, hnd, ?_⟩, fun x hx => ?_⟩
  ·rw [hkeys]
   exact List.pairwise_map.2 ((List.pairwise_map.1 hm.keys).imp fun hne e => hne (Value.string.inj e))
  ·obtain ⟨s, _, h⟩ := hrd x hx
   exact ⟨_, h⟩
 refine ⟨_, ⟨es, clock, hb, hF, by omega, rfl⟩, ?_, ?_⟩
 ·show (((es.toList.map (rg P k (fun _ => some ((.lit (.bool true) : DataW H), [])))).foldr DataW.insert []).map fun p => strOf p.1).Perm _
  refine ((Go.WideShapes.sorted_perm _).map _).trans (List.Perm.of_eq ?_)
  rw [List.map_map]
  have h1 : es.toList.map ((fun p : Lit × DataW H => strOf p.1) ∘ rg P k (fun _ => some ((.lit (.bool true) : DataW H), []))) = es.toList.map fun x => keyOfV x.key := by
   apply List.map_congr_left
   intro x hx
   obtain ⟨s, hs1, hs2⟩ := hrd x hx
   show strOf (rg P k _ x).1 = _
   rw [rg_of hs2, hs1]
   rfl
  rw [h1]
  have h2 := congrArg (List.map keyOfV) hkeys
  rw [List.map_map, List.map_map] at h2
  exact h2
 ·show ((es.toList.map (rg P k (fun _ => some ((.lit (.bool true) : DataW H), [])))).foldr DataW.insert []).length = m.length
  rw [length_sorted, List.length_map]
  simpa using hsz
end Go.Sl
namespace Go.Sl
open Go
section
variable {find : ByteArray → List Nat × Int} {V : View} {n a : Nat} {c c' : StC} {key : ByteArray}
theorem was_key (c : StC) (key : ByteArray) : (c.was key).key = key := by
 unfold StC.was
 cases getK c.now key <;> rfl
end
end Go.Sl
namespace Go.Sl
open Go Go.Sort
structure ChD where
 key : ByteArray
 ov : Value
 old : List Nat
 nv : Value
 new : List Nat
def ChD.cells (d : ChD) : List Value := [.string d.key, d.ov, d.nv]
def chS (l : List ChD) : List HP := l.flatMap fun d => [own 1 d.ov d.old.length (bvs d.old), own 1 d.nv d.new.length (bvs d.new)]
def hasL (c : StC) (k : ByteArray) : List Nat := ((getK c.has k).map (·.2)).getD []
def hasV (c : StC) (k : ByteArray) : Value := ((getK c.has k).map (·.1)).getD (.slice none 0 0)
def turned (c : StC) (k : ByteArray) : Bool := !decide (strB (c.val k) = strB (hasL c k))
def strOfB (x : List UInt8) : ByteArray := ⟨⟨x⟩⟩
def keysB (K : List ByteArray) : List Value := K.map Value.string
theorem leB_anti {x y : List UInt8} (h1 : leB x y = true) (h2 : leB y x = true) : x = y := by
 simp only [leB, decide_eq_true_eq] at h1 h2
 exact List.le_antisymm h1 h2
theorem leB_pair (ss : List (List UInt8)) : (ss.mergeSort leB).Pairwise fun x y => leB x y = true := by
 have tr : ∀ a b c : List UInt8, leB a b = true → leB b c = true → leB a c = true := fun a b c h1 h2 => by
  simp only [leB, decide_eq_true_eq] at h1 h2 ⊢
  exact List.le_trans h1 h2
 have to : ∀ a b : List UInt8, (leB a b || leB b a) = true := fun a b => by simp only [leB, Bool.or_eq_true, decide_eq_true_eq]; exact List.le_total a b
 exact List.pairwise_mergeSort tr to ss
section
variable {find : ByteArray → List Nat × Int} {V : View} {n a : Nat} {c : StC}
end
end Go.Sl
