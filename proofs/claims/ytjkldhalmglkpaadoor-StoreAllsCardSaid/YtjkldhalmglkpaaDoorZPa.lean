import Derived.Test.YtjkldhalmglkpaaDoorZTt
namespace Go.Sl
open Go
structure PairD where
 key : ByteArray
 v : Value
 bs : List Nat
def PairD.cells (p : PairD) : List Value := [.string p.key, p.v]
def pairsC (l : List PairD) : List Value := l.flatMap PairD.cells
theorem pairsC_len (l : List PairD) : (pairsC l).length = l.length * 2 := by
 induction l with
 | nil => rfl
 | cons x l ih =>
  show (x.cells ++ pairsC l).length = _
  rw [List.length_append, ih]
  show 2 + l.length * 2 = (l.length + 1) * 2
  omega
theorem pairsC_app (l m : List PairD) : pairsC (l ++ m) = pairsC l ++ pairsC m := by simp [pairsC]
theorem pairsC_get {l : List PairD} {i : Nat} {p : PairD} (h : l[i]? = some p) : (pairsC l)[i * 2]? = some (.string p.key) ∧ (pairsC l)[i * 2 + 1]? = some p.v := by
 induction l generalizing i with
 | nil => simp at h
 | cons y l ih =>
  cases i with
  | zero => simp at h; subst h; exact ⟨rfl, rfl⟩
  | succ i =>
   have h2 := ih (i := i) (by simpa using h)
   have e : ∀ j, (pairsC (y :: l))[j + 2]? = (pairsC l)[j]? := fun j => by
    show (Value.string y.key :: y.v :: pairsC l)[j + 2]? = _
    simp
   rw [show (i + 1) * 2 = i * 2 + 2 by omega, e, show i * 2 + 2 + 1 = (i * 2 + 1) + 2 by omega, e]
   exact h2
theorem pairsC_at {l : List PairD} {i : Nat} {p : PairD} (h : l[i]? = some p) : ((pairsC l).drop (i * 2)).take 2 = p.cells := by
 obtain ⟨h1, h2⟩ := pairsC_get h
 apply List.ext_getElem?
 intro j
 rw [List.getElem?_take]
 match j with
 | 0 => rw [if_pos (by decide), List.getElem?_drop, Nat.add_zero, h1]; rfl
 | 1 => rw [if_pos (by decide), List.getElem?_drop, h2]; rfl
 | j + 2 => rw [if_neg (by omega)]; rfl
section
variable {α : Type} (kf : α → ByteArray)
def withL (key : ByteArray) (new : α) : Bool → List α → List α
 | done, [] => if done then [] else [new]
 | done, p :: l => (if !done && !slt (kf p) key then [new] else []) ++ ((if kf p = key then [] else [p]) ++ withL key new (done || !slt (kf p) key) l)
theorem withL_mem {key : ByteArray} {new : α} : ∀ {l : List α} {d : Bool} {p : α}, p ∈ withL kf key new d l → p = new ∨ (p ∈ l ∧ kf p ≠ key)
 | [], d, p, h => by
  unfold withL at h
  split at h
  ·cases h
  ·exact .inl (List.mem_singleton.1 h)
 | q :: l, d, p, h => by
  unfold withL at h
  rcases List.mem_append.1 h with h | h
  ·split at h
   ·exact .inl (List.mem_singleton.1 h)
   ·cases h
  ·rcases List.mem_append.1 h with h | h
   ·split at h
    ·cases h
    ·rename_i hne
     have e := List.mem_singleton.1 h
     subst e
     exact .inr ⟨List.mem_cons_self, hne⟩
   ·rcases withL_mem h with e | ⟨e1, e2⟩
    ·exact .inl e
    ·exact .inr ⟨List.mem_cons_of_mem _ e1, e2⟩
theorem withL_len (key : ByteArray) (new : α) : ∀ (l : List α) (d : Bool), (withL kf key new d l).length ≤ l.length + (if d then 0 else 1)
 | [], d => by cases d <;> simp [withL]
 | p :: l, d => by
  have ih := withL_len key new l (d || !slt (kf p) key)
  unfold withL
  simp only [List.length_append, List.length_cons]
  have h2 : (if kf p = key then ([] : List α) else [p]).length ≤ 1 := by split <;> simp
  cases d <;> cases hs : slt (kf p) key <;> simp [hs] at ih ⊢ <;> omega
theorem withL_map {β : Type} (kg : β → ByteArray) (e : α → β) (he : ∀ a, kg (e a) = kf a) (key : ByteArray) (new : α) : ∀ (l : List α) (d : Bool), (withL kf key new d l).map e = withL kg key (e new) d (l.map e)
 | [], d => by cases d <;> simp [withL]
 | p :: l, d => by
  have ih := withL_map kg e he key new l (d || !slt (kf p) key)
  have e1 : ∀ (γ : Type) (k : γ → ByteArray) (nw q : γ) (r : List γ), withL k key nw d (q :: r) = (if !d && !slt (k q) key then [nw] else []) ++ ((if k q = key then [] else [q]) ++ withL k key nw (d || !slt (k q) key) r) := fun _ _ _ _ _ => rfl
  rw [List.map_cons, e1, e1, List.map_append, List.map_append, ih, he]
  congr 1
  ·split <;> simp
  ·congr 1
   split <;> simp
end
def PairD.e (p : PairD) : ByteArray × List Nat := (p.key, p.bs)
def putP (key : ByteArray) (bs : List Nat) (l : List (ByteArray × List Nat)) : List (ByteArray × List Nat) := (withL Prod.fst key (key, bs) false l).filter fun p => decide (0 < p.2.length)
theorem putP_len (key : ByteArray) (bs : List Nat) (l : List (ByteArray × List Nat)) : (putP key bs l).length ≤ l.length + 1 := by
 have h1 := withL_len Prod.fst key (key, bs) l false
 have h2 : (putP key bs l).length ≤ (withL Prod.fst key (key, bs) false l).length := List.length_filter_le _ _
 simp at h1
 omega
theorem DoesG.geq {P : Program} {F L : List HP} {a b : ByteArray} {k : Value → List HP → Prop} (hk : k (.bool (!slt a b)) L) : DoesG P F (Op.stringOp .geq a b) L k :=
 ⟨fun w hs => ⟨_, L, w, by simp [Op.stringOp, slt], Ext.refl w, hs, hk⟩⟩
theorem withL_step {α : Type} (kf : α → ByteArray) (key : ByteArray) (new : α) (d : Bool) {l : List α} {i : Nat} {p : α} (h : l[i]? = some p) :
 withL kf key new d (l.drop i) = (if !d && !slt (kf p) key then [new] else []) ++ ((if kf p = key then [] else [p]) ++ withL kf key new (d || !slt (kf p) key) (l.drop (i + 1))) := by
 obtain ⟨h1, rfl⟩ := List.getElem?_eq_some_iff.1 h
 rw [List.drop_eq_getElem_cons h1]
 rfl
theorem putP_map (key : ByteArray) (x : Value) (bs : List Nat) (l : List PairD) :
 ((withL PairD.key key ⟨key, x, bs⟩ false l).filter fun p => decide (0 < p.bs.length)).map PairD.e = putP key bs (l.map PairD.e) := by
 unfold putP
 have h := withL_map PairD.key Prod.fst PairD.e (fun _ => rfl) key (⟨key, x, bs⟩ : PairD) l false
 have e : PairD.e ⟨key, x, bs⟩ = (key, bs) := rfl
 rw [e] at h
 rw [← h, List.filter_map]
 rfl
end Go.Sl
