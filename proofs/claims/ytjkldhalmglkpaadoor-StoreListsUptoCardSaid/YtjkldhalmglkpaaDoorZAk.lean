import Derived.Test.YtjkldhalmglkpaaDoorZMb
import Derived.Test.YtjkldhalmglkpaaDoorZKy
namespace Go.Sl
open Go
structure SrcIs (find : ByteArray → List Nat × Int) (c : StC) : Prop where
 has : ∀ p ∈ c.has, p.2.2 = (find p.1).1 ∧ mayI p.1 0 = 0
 now : ∀ p ∈ c.now, (getK c.has p.1).isSome = true
 steps : ∀ x ∈ c.steps, (getK c.has x.key).isSome = true
structure AtK (find : ByteArray → List Nat × Int) (V : View) (n a : Nat) (c : StC) : Prop where
 atV : At find V n c
 src : SrcIs find c
 cnt : c.has.length ≤ a
def stK (T s : Nat) (src : Value) (find : ByteArray → List Nat × Int) (V : View) (n a : Nat) : HP := exL (AtK find V n a) fun c => c.pieces T s src
theorem putK_length {K : Type} [DecidableEq K] (l : List (KV K)) (x : K) (v : Value) (bs : List Nat) : (putK l x v bs).length ≤ l.length + 1 := by
 unfold putK
 split
 ·rw [List.length_map]; omega
 ·rw [List.length_append, List.length_singleton]; exact Nat.le_refl _
theorem putK_key {K : Type} [DecidableEq K] {l : List (KV K)} {x : K} {v : Value} {bs : List Nat} {p : KV K} (h : p ∈ putK l x v bs) : p.1 = x ∨ p ∈ l := by
 unfold putK at h
 split at h
 ·obtain ⟨q, hq, rfl⟩ := List.mem_map.1 h
  split
  ·exact .inl rfl
  ·exact .inr hq
 ·rcases List.mem_append.1 h with h | h
  ·exact .inr h
  ·rw [List.mem_singleton.1 h]; exact .inl rfl
section
variable {find : ByteArray → List Nat × Int} {V : View} {n a : Nat} {c c' : StC} {key : ByteArray}
theorem getK_more {l : List (KV ByteArray)} {x : ByteArray} {v : Value} {bs : List Nat} {k : ByteArray} (h : (getK l k).isSome = true) : (getK (putK l x v bs) k).isSome = true := by
 rw [getK_put]
 split
 ·rfl
 ·exact h
theorem AtK.ask (h : AtK find V n a c) (hk : mayI key 0 = 0) (hs : AskOk find c key c') : AtK find V n (a + 1) c' := by
 have h1 := h.atV.same (hs.same h.atV.wf)
 rcases hs.out with ⟨_, rfl⟩ | ⟨_, x, _, _, rfl⟩
 ·exact ⟨h1, h.src, Nat.le_succ_of_le h.cnt⟩
 ·refine ⟨h1, ⟨putK_all h.src.has ⟨rfl, hk⟩, fun p hp => getK_more (h.src.now p hp), fun y hy => getK_more (h.src.steps y hy)⟩, ?_⟩
  have := putK_length c.has key x (find key).1
  have := h.cnt
  show (putK c.has key x (find key).1).length ≤ _
  omega
theorem was_key (c : StC) (key : ByteArray) : (c.was key).key = key := by
 unfold StC.was
 cases getK c.now key <;> rfl
theorem AtK.put {x : Value} {bs : List Nat} {sv : Value} (h : AtK find V n a c) (hk : mayI key 0 = 0) (hs : AskOk find c key c') (hx : SlV x bs.length) (hb : bs.length ≤ 4096) : AtK find (upd V key bs) (n + 1) (a + 1) (c'.put key x bs sv) := by
 have h1 := h.ask hk hs
 have h2 := h.atV.laid (hs.laid (sv := sv) h.atV.wf hx hb)
 refine ⟨h2, ⟨h1.src.has, fun p hp => ?_, fun y hy => ?_⟩, h1.cnt⟩
 ·rcases putK_key (show p ∈ putK c'.now key x bs from hp) with e | hp
  ·rw [e]; exact hs.known
  ·exact h1.src.now p hp
 ·rcases List.mem_append.1 (show y ∈ c'.steps ++ [c'.was key] from hy) with hy | hy
  ·exact h1.src.steps y hy
  ·rw [List.mem_singleton.1 hy, was_key]; exact hs.known
theorem AtK.mark (h : AtK find V n a c) (h1 : c'.has = c.has) (h2 : c'.now = c.now) (h3 : c'.steps = c.steps) (h4 : c'.marks = c.marks ++ [c.steps.length]) (hw : c'.wf) : AtK find ⟨V.now, V.hist ++ [V.now]⟩ n a c' :=
 ⟨h.atV.mark h1 h2 h3 h4 hw, ⟨by rw [h1]; exact h.src.has, by rw [h1, h2]; exact h.src.now, by rw [h1, h3]; exact h.src.steps⟩, by rw [h1]; exact h.cnt⟩
theorem undoTo_some {l : List StepC} {i : Nat} {f : ByteArray → Option (List Nat)} {k : ByteArray} (h : (undoTo l i f k).isSome = true) : (f k).isSome = true ∨ ∃ x ∈ l, x.key = k := by
 unfold undoTo at h
 have hm : ∀ x ∈ l.drop i, x ∈ l := fun x hx => List.mem_of_mem_drop hx
 generalize l.drop i = r at h hm
 induction r with
 | nil => exact .inl h
 | cons x r ih =>
  rw [List.foldr_cons] at h
  by_cases hk : k = x.key
  ·exact .inr ⟨x, hm x List.mem_cons_self, hk.symm⟩
  ·unfold undo1 at h
   rw [if_neg hk] at h
   exact ih h fun y hy => hm y (List.mem_cons_of_mem _ hy)
theorem getK_in {l : List (KV ByteArray)} {p : KV ByteArray} (h : p ∈ l) : (getK l p.1).isSome = true := by
 unfold getK
 rw [Option.isSome_map, List.find?_isSome]
 exact ⟨p, h, by simp⟩
theorem mem_getK {l : List (KV ByteArray)} {k : ByteArray} (h : (getK l k).isSome = true) : ∃ q ∈ l, q.1 = k := by
 unfold getK at h
 rw [Option.isSome_map, List.find?_isSome] at h
 obtain ⟨q, hq, e⟩ := h
 exact ⟨q, hq, by simpa using e⟩
theorem AtK.back {m at_ : Nat} (h : AtK find V n a c) (hm : c.marks[m]? = some at_) (hg : Gone c m at_ c') : ∃ f, V.hist[m]? = some f ∧ AtK find ⟨f, V.hist.take (m + 1)⟩ n a c' := by
 obtain ⟨f, hf, h1⟩ := h.atV.back hm hg
 refine ⟨f, hf, h1, ⟨by rw [hg.has]; exact h.src.has, fun p hp => ?_, fun y hy => ?_⟩, by rw [hg.has]; exact h.cnt⟩
 ·rw [hg.has]
  have h2 : (c'.nowF p.1).isSome = true := by
   unfold StC.nowF
   rw [Option.isSome_map]
   exact getK_in hp
  rw [hg.now] at h2
  rcases undoTo_some h2 with h3 | ⟨x, hx, e⟩
  ·unfold StC.nowF at h3
   rw [Option.isSome_map] at h3
   obtain ⟨q, hq, e⟩ := mem_getK h3
   rw [← e]
   exact h.src.now q hq
  ·rw [← e]
   exact h.src.steps x hx
 ·rw [hg.has]
  rw [hg.steps] at hy
  exact h.src.steps y (List.mem_of_mem_take hy)
theorem AtK.asked (h : AtK find V n a c) {k : ByteArray} (hk : V k ≠ (find k).1) : (getK c.has k).isSome = true := by
 have hl := h.atV.lv k
 cases hg : getK c.has k with
 | some p => rfl
 | none =>
  exfalso
  cases hn : getK c.now k with
  | some p =>
   obtain ⟨q, hq, e⟩ : ∃ q ∈ c.now, q.1 = k := by
    unfold getK at hn
    obtain ⟨q, hq, _⟩ := Option.map_eq_some_iff.1 hn
    exact ⟨q, List.mem_of_find?_eq_some hq, by have := List.find?_some hq; simpa using this⟩
   have := h.src.now q hq
   rw [e, hg] at this
   cases this
  | none =>
   unfold lv at hl
   rw [hn, hg] at hl
   exact hk hl.symm
end
end Go.Sl
