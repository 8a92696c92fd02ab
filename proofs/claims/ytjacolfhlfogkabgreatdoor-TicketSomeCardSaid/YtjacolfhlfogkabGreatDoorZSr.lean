import Derived.Test.YtjacolfhlfogkabGreatDoorZMp
import Derived.Test.YtjacolfhlfogkabGreatDoorZEq
import Derived.WideKeyRuns
import Derived.Test.YtjacolfhlfogkabGreatDoorZMk
import Derived.Test.YtjacolfhlfogkabGreatDoorZOl
import Derived.Laws.Append
import Derived.Lib.Overlaps
namespace Go.Sl
open Go
section
variable {P : Program} {w : World}
open Classical in
end
section
variable {K : Type} {P : Program} {F L M : List HP} {kv : K → Value} {ok : K → Prop} {b : Nat} {m : List (K × Value)} {k t el : TypeId} {x : K} {v : Value}
theorem map_erase {β γ : Type} (f : β → γ) : ∀ (l : List β) (i : Nat), (l.eraseIdx i).map f = (l.map f).eraseIdx i
 | [], _ => rfl
 | _ :: _, 0 => rfl
 | x :: l, i + 1 => by simp [map_erase f l i]
theorem eraseIdx_filter {β : Type} {f : β → Bool} : ∀ {l : List β} {i : Nat} {y : β}, l[i]? = some y → f y = false → (∀ j z, l[j]? = some z → j ≠ i → f z = true) → l.eraseIdx i = l.filter f
 | [], i, y, h, _, _ => by simp at h
 | z :: l, 0, y, h, hf, ha => by
  simp at h; subst h
  rw [List.eraseIdx_cons_zero, List.filter_cons, hf]
  simp only [Bool.false_eq_true, if_false]
  rw [List.filter_eq_self.2]
  intro q hq
  obtain ⟨j, hj⟩ := List.getElem?_of_mem hq
  exact ha (j + 1) q (by simpa using hj) (by omega)
 | z :: l, i + 1, y, h, hf, ha => by
  have hz := ha 0 z rfl (by omega)
  rw [List.eraseIdx_cons_succ, List.filter_cons, hz, if_pos rfl]
  rw [eraseIdx_filter (by simpa using h) hf (fun j q hq hj => ha (j + 1) q (by simpa using hq) (by omega))]
theorem DoesG.delM [DecidableEq K] (KT : KeyT P k kv ok) (ht : P.underlying t = some (.map k el)) {t2 ty : TypeId} (hx : ok x) {kk : Value → List HP → Prop} (hk : kk (.tuple #[]) (mapP kv ok b (delM m x) :: L)) :
 DoesG P F (Builtin.delete_ #[t, t2] ty #[.map (some b), kv x]) (mapP kv ok b m :: L) kk := ⟨fun w hs => by
 obtain ⟨o, hb, ⟨es, clock, rfl, he, hc, hd⟩, hn, ho⟩ := mapP_sat hs
 have hkeys := entry_key he ho
 have hrun : ∀ o', MapIs kv ok o' (Go.Sl.delM m x) → ∃ w', (setObj b o').run P w = .ok () w' ∧ Ext w w' ∧ Sat w' (mapP kv ok b (Go.Sl.delM m x) :: (L ++ F)) := fun o' h => setBlock_sat hb hs h
 rcases KT.find x hx es.toList hkeys w with ⟨i, e, h1, h2, h3⟩ | ⟨h1, h2⟩
 ·obtain ⟨p, hp, h4, h5⟩ := entry_at he h2
  have h6 : p.1 = x := KT.inj _ _ (ho p (List.mem_of_getElem? hp)) hx (by rw [← h4, h3])
  have hdel : m.eraseIdx i = Go.Sl.delM m x := by
   refine eraseIdx_filter (y := p) hp (by simp [h6]) fun j q hq hj => ?_
   have : ¬ q.1 = x := fun e' => hj (by
    have h1 : (m.map (·.1))[i]? = some x := by rw [List.getElem?_map, hp, ← h6]; rfl
    have h2 : (m.map (·.1))[j]? = some x := by rw [List.getElem?_map, hq, ← e']; rfl
    obtain ⟨a1, b1⟩ := List.getElem?_eq_some_iff.1 h1
    obtain ⟨a2, b2⟩ := List.getElem?_eq_some_iff.1 h2
    exact ((List.getElem_inj hn).1 (b1.trans b2.symm)).symm)
   simp [this]
  have e1 : (es.eraseIdxIfInBounds i).toList = es.toList.eraseIdx i := by
   have hlt : i < es.size := by
    have := (List.getElem?_eq_some_iff.1 h2).1
    simpa using this
   rw [Array.eraseIdxIfInBounds, dif_pos hlt, Array.toList_eraseIdx]
  obtain ⟨w', hr, hxt, hs'⟩ := hrun (.map (es.eraseIdxIfInBounds i) clock) ⟨⟨_, _, rfl, by
   rw [e1, ← hdel, map_erase, he, map_erase], by
   intro f hf
   rw [e1] at hf
   exact hc f ((List.eraseIdx_sublist _ _).subset hf), by
   rw [e1, map_erase]
   exact hd.sublist (List.eraseIdx_sublist _ _)⟩, by
   have : ((Go.Sl.delM m x).map (·.1)).Sublist (m.map (·.1)) := (List.filter_sublist (l := m)).map _
   exact hn.sublist this, fun p hp => ho p (List.mem_filter.1 hp).1⟩
  refine ⟨.tuple #[], _, w', ?_, hxt, hs', hk⟩
  simp [Builtin.delete_, run_und ht, MapKept.run_getObj_map hb, KT.chk x hx, h1, hr]
 ·have h7 := entry_no he h2
  have hdel : Go.Sl.delM m x = m := by
   unfold Go.Sl.delM
   rw [List.filter_eq_self]
   intro p hp
   simpa using h7 p hp
  obtain ⟨w', hr, hxt, hs'⟩ := hrun (.map es clock) (by rw [hdel]; exact ⟨⟨_, _, rfl, he, hc, hd⟩, hn, ho⟩)
  refine ⟨.tuple #[], _, w', ?_, hxt, hs', hk⟩
  simp [Builtin.delete_, run_und ht, MapKept.run_getObj_map hb, KT.chk x hx, h1, hr]⟩
end
end Go.Sl
namespace Go.Sl
open Go
inductive Trie where
 | nil
 | leaf (k v : List Nat)
 | fork (l r : Trie)
def zd : List Nat := List.replicate 32 0
def bitN (key : List Nat) (i : Nat) : Bool := key.getD (i / 8) 0 / 2 ^ (7 - i % 8) % 2 == 1
def Trie.sum (K : List W32) : Trie → List Nat
 | .nil => zd
 | .leaf k v => dig K (2 :: (k ++ v))
 | .fork l r => dig K (3 :: (l.sum K ++ r.sum K))
def Trie.keys : Trie → List (List Nat)
 | .nil => []
 | .leaf k _ => [k]
 | .fork l r => l.keys ++ r.keys
def joinT : Trie → Trie → Trie
 | .nil, .nil => .nil
 | .nil, .leaf k v => .leaf k v
 | .leaf k v, .nil => .leaf k v
 | l, r => .fork l r
structure IsD (d : List Nat) : Prop where
 len : d.length = 32
 byte : ∀ b ∈ d, b < 256
def Trie.wf : Nat → Trie → Prop
 | _, .nil => True
 | _, .leaf k v => IsD k ∧ IsD v
 | d, .fork l r => d < 256 ∧ l.wf (d + 1) ∧ r.wf (d + 1) ∧ (∀ k ∈ l.keys, bitN k d = false) ∧ (∀ k ∈ r.keys, bitN k d = true) ∧ joinT l r = .fork l r
/-! A block of cells that nobody writes -/
/-! A part's blocks -/
def nodeC (sum k v : List Nat) (l r : Value) (shut : Bool) : List Value := bvs sum ++ (bvs k ++ (bvs v ++ [l, r, .bool shut]))
def ptrV (b : Nat) : Value := .pointer (some ⟨b, 0, none⟩)
theorem fill_part {a m c m' : List Value} {off n : Nat} {v : Value} {ps : List (Nat × Nat × Value)} (ha : a.length = off) (hm : m.length = n) (hv : v.cells.toList = m') (hm' : m'.length = n) : fillL (a ++ (m ++ c)) ((off, n, v) :: ps) = fillL (a ++ (m' ++ c)) ps := by
 have h1 : v.cells.size = n := by rw [← Array.length_toList, hv, hm']
 have h2 : off + n ≤ (a ++ (m ++ c)).length := by simp; omega
 rw [fillL, if_pos ⟨h1, h2⟩, hv]
 have e1 : (a ++ (m ++ c)).take off = a := by rw [← ha, List.take_left]
 have e2 : (a ++ (m ++ c)).drop (off + n) = c := by
  rw [← List.append_assoc, ← ha, ← hm, ← List.length_append, List.drop_left]
 rw [e1, e2, List.append_assoc]
abbrev Bls := List (Nat × List Value)
inductive NdB (K : List W32) (Bs : Bls) : Trie → Value → Prop where
 | nil : NdB K Bs .nil (.pointer none)
 | leaf (b : Nat) (k d : List Nat) (h : (b, nodeC (Trie.sum K (.leaf k d)) k d (.pointer none) (.pointer none) false) ∈ Bs) : NdB K Bs (.leaf k d) (ptrV b)
 | fork (b : Nat) (l r : Trie) (lv rv : Value) (h : (b, nodeC (Trie.sum K (.fork l r)) zd zd lv rv false) ∈ Bs) (hl : NdB K Bs l lv) (hr : NdB K Bs r rv) : NdB K Bs (.fork l r) (ptrV b)
theorem NdB.mono {K : List W32} {Bs Cs : Bls} (hL : ∀ p ∈ Bs, p ∈ Cs) {t : Trie} {v : Value} (h : NdB K Bs t v) : NdB K Cs t v := by
 induction h with
 | nil => exact .nil
 | leaf b k d h => exact .leaf b k d (hL _ h)
 | fork b l r lv rv h _ _ ih1 ih2 => exact .fork b l r lv rv (hL _ h) ih1 ih2
end Go.Sl
namespace Go.Sl
open Go
def svs (ss : List ByteArray) : List Value := ss.map Value.string
def slt (a b : ByteArray) : Bool := Op.bytesLess a.toList b.toList
theorem bytesLess_lt : ∀ (x y : List UInt8), Op.bytesLess x y = decide (x < y)
 | [], [] => by simp [Op.bytesLess]
 | _ :: _, [] => by simp [Op.bytesLess]
 | [], _ :: _ => by simp [Op.bytesLess]
 | a :: x, b :: y => by
  rw [Op.bytesLess, bytesLess_lt x y]
  simp only [List.cons_lt_cons_iff]
  by_cases h1 : a < b <;> by_cases h2 : a = b <;> by_cases h3 : x < y <;> simp [h1, h2, h3]
theorem slt_eq (a b : ByteArray) : slt a b = decide (a.data.toList < b.data.toList) := by
 unfold slt
 rw [bytesLess_lt, ByteArray.toList_eq, ByteArray.toList_eq]
theorem slt_irrefl (a : ByteArray) : slt a a = false := by
 rw [slt_eq]
 simp [List.lt_irrefl]
theorem slt_trans {a b c : ByteArray} (h : slt a b = true) (k : slt b c = true) : slt a c = true := by
 rw [slt_eq] at *
 simp only [decide_eq_true_eq] at *
 exact List.lt_trans h k
theorem slt_tri {a b : ByteArray} (h : slt a b = false) (k : slt b a = false) : a = b := by
 rw [slt_eq] at *
 simp only [decide_eq_false_iff_not, List.not_lt] at *
 have := List.le_antisymm k h
 obtain ⟨⟨x⟩⟩ := a
 obtain ⟨⟨y⟩⟩ := b
 simp only at this
 rw [this]
def Sorted (ss : List ByteArray) : Prop := ss.Pairwise fun a b => slt a b = true
structure BsR (ss : List ByteArray) (x : ByteArray) (i : Nat) (b : Bool) : Prop where
 le : i ≤ ss.length
 lo : ∀ j y, ss[j]? = some y → j < i → slt y x = true
 hi : ∀ j y, ss[j]? = some y → i ≤ j → slt y x = false
 is : b = decide (ss[i]? = some x)
theorem sorted_at {ss : List ByteArray} (hs : Sorted ss) {i j : Nat} {x y : ByteArray} (hx : ss[i]? = some x) (hy : ss[j]? = some y) (h : i < j) : slt x y = true := by
 obtain ⟨h1, rfl⟩ := List.getElem?_eq_some_iff.1 hx
 obtain ⟨h2, rfl⟩ := List.getElem?_eq_some_iff.1 hy
 exact List.pairwise_iff_getElem.1 hs i j h1 h2 h
theorem BsR.mem {ss : List ByteArray} {x : ByteArray} {i : Nat} {b : Bool} (h : BsR ss x i b) (hs : Sorted ss) : b = true ↔ x ∈ ss := by
 rw [h.is, decide_eq_true_eq]
 constructor
 ·exact List.mem_of_getElem?
 ·intro hm
  obtain ⟨j, hj⟩ := List.getElem?_of_mem hm
  have h1 : i ≤ j := Nat.le_of_not_lt fun hlt => by
   have := h.lo j x hj hlt
   rw [slt_irrefl] at this
   cases this
  rcases Nat.eq_or_lt_of_le h1 with rfl | hlt
  ·exact hj
  ·have hi : i < ss.length := by have := (List.getElem?_eq_some_iff.1 hj).1; omega
   have h2 := h.hi i _ (List.getElem?_eq_getElem hi) (Nat.le_refl i)
   rw [sorted_at hs (List.getElem?_eq_getElem hi) hj hlt] at h2
   cases h2
section
variable {P : Program} {F L M pre : List HP} {f : FuncId} {args : List Value} {R : Value → List HP → Prop} {x v : Value} {cs cur ys : List Value} {n m g o cap dLen dCap sz : Nat} {t : TypeId}
theorem DoesG.copyS {dT ty elem : TypeId} (hu : P.underlying dT = some (.slice elem)) (hs : sizeT P elem = some 1) (hr : RdS (cel g t cur :: (L ++ F)) x n cs) (hn : cs.length = n) (hle : n ≤ dLen) (hfit : o + n ≤ cur.length) (h1 : ∀ v ∈ cs, v.oneCell' = true)
 {cur' : List Value} (hc : cur.take o ++ cs ++ cur.drop (o + n) = cur') {k : Value → List HP → Prop} (hk : k (.int .i64 n) (cel g t cur' :: L)) :
 DoesG P F (Builtin.copy_ #[dT, dT] ty #[.slice (some ⟨g, o, none⟩) dLen dCap, x]) (cel g t cur :: L) k := by
 have e : min n dLen = n := Nat.min_eq_left hle
 refine DoesG.copy1 hu hs hr hn (by rw [e]; exact hfit) h1 ?_
 have e2 : cs.take n = cs := List.take_of_length_le (by omega)
 rw [e, e2, hc]
 exact hk
end
def RdB (Bs : Bls) (v : Value) (cs : List Value) : Prop := (v = .slice none 0 0 ∧ cs = []) ∨ ∃ g cap rest, v = .slice (some ⟨g, 0, none⟩) cs.length cap ∧ cs.length ≤ cap ∧ (g, cs ++ rest) ∈ Bs
theorem RdB.mono {Bs Cs : Bls} {v : Value} {cs : List Value} (hL : ∀ p ∈ Bs, p ∈ Cs) (h : RdB Bs v cs) : RdB Cs v cs := by
 rcases h with h | ⟨g, cap, rest, h1, h2, h3⟩
 ·exact .inl h
 ·exact .inr ⟨g, cap, rest, h1, h2, hL _ h3⟩
theorem RdB.sl {Bs : Bls} {v : Value} {cs : List Value} (h : RdB Bs v cs) : SlV v cs.length := by
 rcases h with ⟨rfl, rfl⟩ | ⟨g, cap, rest, h1, h2, h3⟩
 ·exact .inl ⟨rfl, rfl⟩
 ·exact .inr ⟨g, cap, h1, h2⟩
end Go.Sl
