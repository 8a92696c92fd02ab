import Derived.Test.YtmfonkklmndhjaaGreatDoorZKc
import Derived.Test.YtmfonkklmndhjaaGreatDoorZSt
import Derived.Test.YtmfonkklmndhjaaGreatDoorZEq
import Derived.WideKeyRuns
import Derived.Test.YtmfonkklmndhjaaGreatDoorZOl
import Derived.Laws.Append
import Derived.Lib.Overlaps
import Derived.Laws.IdiomStrings
namespace Go.Sl
open Go Go.ChangeShapes Go.WideShapes
section
variable {P : Program} {F L : List HP} {x : Value} {cs cur : List Value} {n g o dLen dCap sz : Nat} {t : TypeId}
theorem DoesG.makeG {t e : TypeId} {bs : Nat} (E : ElT P t e sz bs) (kl kc : IntKind) (hb : bs * n ≤ 281474976710656) (hm : n ≤ maxLen) {k : Value → List HP → Prop}
 (hk : ∀ b zs, zs.length = n * sz → k (.slice (some ⟨b, 0, none⟩) n n) (cel b e zs :: L)) :
 DoesG P F (Instr.makeSlice t (.int kl (n : Int)) (.int kc (n : Int))) L k := ⟨fun w hs => by
 obtain ⟨i, z, hi, hz', hsz, hby, hzs⟩ := E.inf
 have hr := run_make (P := P) w t e i z E.und hi hz' kl kc (n : Int) (n : Int) (Int.natCast_nonneg n) (Int.le_refl _) (by rw [hby, ← Int.natCast_mul]; omega) (by simp only [maxLen] at hm; omega)
 refine ⟨_, _, _, hr, Ext.alloc _ _, ?_, hk _ (madeCells z.cells ((n : Int).toNat * i.size)).toList ?_⟩
 ·exact hs.alloc (.cells (madeCells z.cells ((n : Int).toNat * i.size)) e)
 ·rw [Array.length_toList, size_madeCells, hsz, Int.toNat_natCast]⟩
theorem DoesG.copyG {dT ty elem : TypeId} (hu : P.underlying dT = some (.slice elem)) (hs : sizeT P elem = some sz) (hr : RdS (cel g t cur :: (L ++ F)) x n cs) (hn : cs.length = n * sz) (hfit : o + min n dLen * sz ≤ cur.length) (h1 : ∀ v ∈ cs, v.oneCell' = true)
 {k : Value → List HP → Prop} (hk : k (.int .i64 (min n dLen : Nat)) (cel g t (cur.take o ++ cs.take (min n dLen * sz) ++ cur.drop (o + min n dLen * sz)) :: L)) :
 DoesG P F (Builtin.copy_ #[dT, dT] ty #[.slice (some ⟨g, o, none⟩) dLen dCap, x]) (cel g t cur :: L) k := ⟨fun w hw => by
 have hsz := run_size hs w
 have hmul : min n dLen * sz ≤ n * sz := Nat.mul_le_mul_right _ (Nat.min_le_left _ _)
 have hlen : (cs.take (min n dLen * sz)).length = min n dLen * sz := by rw [List.length_take]; omega
 obtain ⟨w', hst, hx, hb, hkk⟩ := storeCells_run P g o t (cs.take (min n dLen * sz)) 0 cur w (Sat.blk_heap hw) (by rw [hlen]; omega) (fun v hv => h1 v (List.mem_of_mem_take hv))
 have hput : Sat w' (cel g t (cur.take o ++ cs.take (min n dLen * sz) ++ cur.drop (o + min n dLen * sz)) :: (L ++ F)) := by
  have := Sat.put (o := .cells ⟨cur⟩ t (0, 0)) hw hb hkk
  rw [Nat.add_zero, hlen] at this
  exact this
 refine ⟨_, _, w', ?_, hx, hput, hk⟩
 cases hr with
 | nil =>
  simp at hn hst
  simp [Builtin.copy_, run_und hu, Builtin.lenOf, Builtin.firstCells, hsz, storeCells, goInt]
  simpa [storeCells] using hst
 | zero a cap =>
  simp at hn hst
  simp [Builtin.copy_, run_und hu, Builtin.lenOf, Builtin.firstCells, loadCells, loadCellsFrom, hsz, storeCells, goInt]
  simpa [storeCells] using hst
 | mk b o' n cap cs hcap h =>
  have hnews : ∀ j u, (cs.take (min n dLen * sz))[j]? = some u → w.cell? ((⟨b, o', none⟩ : Addr).add j) = some u := fun j u hj => by
   rw [add_none]
   refine h w hw j u ?_
   rw [List.getElem?_take] at hj
   split at hj
   ·exact hj
   ·cases hj
  have hf := run_firstCells_some (P := P) w sz (min n dLen) ⟨b, o', none⟩ n cap (cs.take (min n dLen * sz)) hlen hnews
  have em : Nat.min n dLen = min n dLen := rfl
  simp [Builtin.copy_, run_und hu, Builtin.lenOf, hsz, em, hf, hst, goInt]⟩
end
section
variable {H : Type} {enc : TypeId × Value → H} {P : Program} {w : World} {base : Nat} {sp : Nat → Bool} {held : Bool}
theorem rd_trodG {t e : TypeId} {k : Nat} (ht : P.underlying t = some (.slice e)) (hc : P.cellsOf e = k) (hk : 0 < k) {v : Value} (hsp : ∀ a n c, v = .slice (some a) n c → a.spot = none) {fuel : Nat} {x : DataW H × List MemPlace}
 (hd : DataW.trod enc P w base sp held fuel t [v] = some x) : ∃ n cs, RdS [was w.heap] v n cs ∧ n ≤ maxLen ∧ cs.length = n * k ∧ ∀ i, i < n → ∃ m y els rst, x.1 = .slice els rst ∧ n = els.length ∧ els[i]? = some y.1 ∧ DataW.trod enc P w base sp held m e ((cs.drop (i * k)).take k) = some y := by
 rcases DataW.trod_slice ht hd with ⟨h0, _⟩ | ⟨a, len, cap, elems, rest, m, _, h0, hx, hb, hl, hm, hlen, hel, _⟩
 ·cases h0
  exact ⟨0, [], .nil, by decide, by simp, fun i hi => by omega⟩
 ·cases h0
  obtain ⟨b, o, s⟩ := a
  obtain rfl : s = none := hsp _ _ _ rfl
  have each : ∀ i, i < len → ∃ ci, ci.length = k ∧ (∀ j, j < k → w.cell? ⟨b, o + (i * k + j), none⟩ = ci[j]?) ∧ ∃ y, elems[i]? = some y ∧ DataW.trod enc P w base sp held m e ci = some y := fun i hi => by
   have h1 := hel i hi
   have h2 : elems[i]? = some (elems[i]'(by omega)) := by simp
   rw [h2, Option.bind_eq_some_iff] at h1
   obtain ⟨ci, h3, h4⟩ := h1
   obtain ⟨_, h5, h6⟩ := World.cells?_some h3
   rw [hc] at h5 h6
   refine ⟨ci, h5, fun j hj => ?_, _, h2, h4⟩
   rw [← h6 j hj, add_none, add_none, Nat.add_assoc]
  have cell : ∀ j, j < len * k → ∃ u, w.cell? ⟨b, o + j, none⟩ = some u := fun j hj => by
   have hi : j / k < len := (Nat.div_lt_iff_lt_mul hk).2 hj
   obtain ⟨ci, h1, h2, _⟩ := each _ hi
   have h3 := h2 (j % k) (Nat.mod_lt _ hk)
   rw [Nat.mul_comm, Nat.div_add_mod] at h3
   rw [h3]
   exact ⟨ci[j % k]'(by rw [h1]; exact Nat.mod_lt _ hk), by simp⟩
  refine ⟨len, (List.range (len * k)).map fun j => (w.cell? ⟨b, o + j, none⟩).getD undef, .mk b o len cap _ hl (celn_was fun j u hj => ?_), by omega, by simp, fun i hi => ?_⟩
  ·simp only [List.getElem?_map, Option.map_eq_some_iff] at hj
   obtain ⟨j', hj', rfl⟩ := hj
   obtain ⟨h1, h2⟩ := List.getElem?_eq_some_iff.1 hj'
   simp at h1 h2
   subst h2
   obtain ⟨u, hu⟩ := cell j h1
   rw [hu]
   rfl
  ·obtain ⟨ci, h1, h2, y, h3, h4⟩ := each i hi
   have hle : i * k + k ≤ len * k := by rw [← Nat.succ_mul]; exact Nat.mul_le_mul_right _ hi
   have e : (((List.range (len * k)).map fun j => (w.cell? ⟨b, o + j, none⟩).getD undef).drop (i * k)).take k = ci := by
    apply List.ext_getElem?
    intro j
    rw [List.getElem?_take]
    split
    ·rename_i hj
     rw [List.getElem?_drop, List.getElem?_map, List.getElem?_range (by omega), ← h2 j hj, Option.map_some]
     obtain ⟨u, hu⟩ := cell (i * k + j) (by omega)
     rw [hu]
     rfl
    ·rw [List.getElem?_eq_none (by omega)]
   refine ⟨m, y, elems.map (·.1), rest.map (·.1), by rw [hx], by simp [hlen], by simp [h3], ?_⟩
   rw [e]
   exact h4
end
end Go.Sl
namespace Go.Sl
open Go
section
variable {P : Program} {w : World}
open Classical in
end
section
variable {K : Type} {P : Program} {F L M : List HP} {kv : K → Value} {ok : K → Prop} {b : Nat} {m : List (K × Value)} {k t el : TypeId} {x : K} {v : Value}
theorem map_erase {β γ : Type} (f : β → γ) : ∀ (l : List β) (i : Nat), (l.eraseIdx i).map f = (l.map f).eraseIdx i
 | [], _ => rfl
 | _ :: _, 0 => rfl
 | x :: l, i + 1 => by simp [map_erase f l i]
theorem eraseIdx_filter {β : Type} {f : β → Bool} : ∀ {l : List β} {i : Nat} {y : β}, l[i]? = some y → f y = false → (∀ j z, l[j]? = some z → j ≠ i → f z = true) → l.eraseIdx i = l.filter f
 | [], i, y, h, _, _ => by simp at h
 | z :: l, 0, y, h, hf, ha => by
  simp at h; subst h
  rw [List.eraseIdx_cons_zero, List.filter_cons, hf]
  simp only [Bool.false_eq_true, if_false]
  rw [List.filter_eq_self.2]
  intro q hq
  obtain ⟨j, hj⟩ := List.getElem?_of_mem hq
  exact ha (j + 1) q (by simpa using hj) (by omega)
 | z :: l, i + 1, y, h, hf, ha => by
  have hz := ha 0 z rfl (by omega)
  rw [List.eraseIdx_cons_succ, List.filter_cons, hz, if_pos rfl]
  rw [eraseIdx_filter (by simpa using h) hf (fun j q hq hj => ha (j + 1) q (by simpa using hq) (by omega))]
theorem DoesG.delM [DecidableEq K] (KT : KeyT P k kv ok) (ht : P.underlying t = some (.map k el)) {t2 ty : TypeId} (hx : ok x) {kk : Value → List HP → Prop} (hk : kk (.tuple #[]) (mapP kv ok b (delM m x) :: L)) :
 DoesG P F (Builtin.delete_ #[t, t2] ty #[.map (some b), kv x]) (mapP kv ok b m :: L) kk := ⟨fun w hs => by
 obtain ⟨o, hb, ⟨es, clock, rfl, he, hc, hd⟩, hn, ho⟩ := mapP_sat hs
 have hkeys := entry_key he ho
 have hrun : ∀ o', MapIs kv ok o' (Go.Sl.delM m x) → ∃ w', (setObj b o').run P w = .ok () w' ∧ Ext w w' ∧ Sat w' (mapP kv ok b (Go.Sl.delM m x) :: (L ++ F)) := fun o' h => setBlock_sat hb hs h
 rcases KT.find x hx es.toList hkeys w with ⟨i, e, h1, h2, h3⟩ | ⟨h1, h2⟩
 ·obtain ⟨p, hp, h4, h5⟩ := entry_at he h2
  have h6 : p.1 = x := KT.inj _ _ (ho p (List.mem_of_getElem? hp)) hx (by rw [← h4, h3])
  have hdel : m.eraseIdx i = Go.Sl.delM m x := by
   refine eraseIdx_filter (y := p) hp (by simp [h6]) fun j q hq hj => ?_
   have : ¬ q.1 = x := fun e' => hj (by
    have h1 : (m.map (·.1))[i]? = some x := by rw [List.getElem?_map, hp, ← h6]; rfl
    have h2 : (m.map (·.1))[j]? = some x := by rw [List.getElem?_map, hq, ← e']; rfl
    obtain ⟨a1, b1⟩ := List.getElem?_eq_some_iff.1 h1
    obtain ⟨a2, b2⟩ := List.getElem?_eq_some_iff.1 h2
    exact ((List.getElem_inj hn).1 (b1.trans b2.symm)).symm)
   simp [this]
  have e1 : (es.eraseIdxIfInBounds i).toList = es.toList.eraseIdx i := by
   have hlt : i < es.size := by
    have := (List.getElem?_eq_some_iff.1 h2).1
    simpa using this
   rw [Array.eraseIdxIfInBounds, dif_pos hlt, Array.toList_eraseIdx]
  obtain ⟨w', hr, hxt, hs'⟩ := hrun (.map (es.eraseIdxIfInBounds i) clock) ⟨⟨_, _, rfl, by
   rw [e1, ← hdel, map_erase, he, map_erase], by
   intro f hf
   rw [e1] at hf
   exact hc f ((List.eraseIdx_sublist _ _).subset hf), by
   rw [e1, map_erase]
   exact hd.sublist (List.eraseIdx_sublist _ _)⟩, by
   have : ((Go.Sl.delM m x).map (·.1)).Sublist (m.map (·.1)) := (List.filter_sublist (l := m)).map _
   exact hn.sublist this, fun p hp => ho p (List.mem_filter.1 hp).1⟩
  refine ⟨.tuple #[], _, w', ?_, hxt, hs', hk⟩
  simp [Builtin.delete_, run_und ht, MapKept.run_getObj_map hb, KT.chk x hx, h1, hr]
 ·have h7 := entry_no he h2
  have hdel : Go.Sl.delM m x = m := by
   unfold Go.Sl.delM
   rw [List.filter_eq_self]
   intro p hp
   simpa using h7 p hp
  obtain ⟨w', hr, hxt, hs'⟩ := hrun (.map es clock) (by rw [hdel]; exact ⟨⟨_, _, rfl, he, hc, hd⟩, hn, ho⟩)
  refine ⟨.tuple #[], _, w', ?_, hxt, hs', hk⟩
  simp [Builtin.delete_, run_und ht, MapKept.run_getObj_map hb, KT.chk x hx, h1, hr]⟩
end
end Go.Sl
namespace Go.Sl
open Go
inductive Trie where
 | nil
 | leaf (k v : List Nat)
 | fork (l r : Trie)
def zd : List Nat := List.replicate 32 0
def bitN (key : List Nat) (i : Nat) : Bool := key.getD (i / 8) 0 / 2 ^ (7 - i % 8) % 2 == 1
def Trie.sum (K : List W32) : Trie → List Nat
 | .nil => zd
 | .leaf k v => dig K (2 :: (k ++ v))
 | .fork l r => dig K (3 :: (l.sum K ++ r.sum K))
def Trie.keys : Trie → List (List Nat)
 | .nil => []
 | .leaf k _ => [k]
 | .fork l r => l.keys ++ r.keys
def joinT : Trie → Trie → Trie
 | .nil, .nil => .nil
 | .nil, .leaf k v => .leaf k v
 | .leaf k v, .nil => .leaf k v
 | l, r => .fork l r
structure IsD (d : List Nat) : Prop where
 len : d.length = 32
 byte : ∀ b ∈ d, b < 256
def Trie.wf : Nat → Trie → Prop
 | _, .nil => True
 | _, .leaf k v => IsD k ∧ IsD v
 | d, .fork l r => d < 256 ∧ l.wf (d + 1) ∧ r.wf (d + 1) ∧ (∀ k ∈ l.keys, bitN k d = false) ∧ (∀ k ∈ r.keys, bitN k d = true) ∧ joinT l r = .fork l r
/-! A block of cells that nobody writes -/
/-! A part's blocks -/
def nodeC (sum k v : List Nat) (l r : Value) (shut : Bool) : List Value := bvs sum ++ (bvs k ++ (bvs v ++ [l, r, .bool shut]))
def ptrV (b : Nat) : Value := .pointer (some ⟨b, 0, none⟩)
abbrev Bls := List (Nat × List Value)
inductive NdB (K : List W32) (Bs : Bls) : Trie → Value → Prop where
 | nil : NdB K Bs .nil (.pointer none)
 | leaf (b : Nat) (k d : List Nat) (h : (b, nodeC (Trie.sum K (.leaf k d)) k d (.pointer none) (.pointer none) false) ∈ Bs) : NdB K Bs (.leaf k d) (ptrV b)
 | fork (b : Nat) (l r : Trie) (lv rv : Value) (h : (b, nodeC (Trie.sum K (.fork l r)) zd zd lv rv false) ∈ Bs) (hl : NdB K Bs l lv) (hr : NdB K Bs r rv) : NdB K Bs (.fork l r) (ptrV b)
theorem NdB.mono {K : List W32} {Bs Cs : Bls} (hL : ∀ p ∈ Bs, p ∈ Cs) {t : Trie} {v : Value} (h : NdB K Bs t v) : NdB K Cs t v := by
 induction h with
 | nil => exact .nil
 | leaf b k d h => exact .leaf b k d (hL _ h)
 | fork b l r lv rv h _ _ ih1 ih2 => exact .fork b l r lv rv (hL _ h) ih1 ih2
end Go.Sl
namespace Go.Sl
open Go
def svs (ss : List ByteArray) : List Value := ss.map Value.string
def slt (a b : ByteArray) : Bool := Op.bytesLess a.toList b.toList
theorem bytesLess_lt : ∀ (x y : List UInt8), Op.bytesLess x y = decide (x < y)
 | [], [] => by simp [Op.bytesLess]
 | _ :: _, [] => by simp [Op.bytesLess]
 | [], _ :: _ => by simp [Op.bytesLess]
 | a :: x, b :: y => by
  rw [Op.bytesLess, bytesLess_lt x y]
  simp only [List.cons_lt_cons_iff]
  by_cases h1 : a < b <;> by_cases h2 : a = b <;> by_cases h3 : x < y <;> simp [h1, h2, h3]
theorem slt_eq (a b : ByteArray) : slt a b = decide (a.data.toList < b.data.toList) := by
 unfold slt
 rw [bytesLess_lt, ByteArray.toList_eq, ByteArray.toList_eq]
theorem slt_irrefl (a : ByteArray) : slt a a = false := by
 rw [slt_eq]
 simp [List.lt_irrefl]
theorem slt_trans {a b c : ByteArray} (h : slt a b = true) (k : slt b c = true) : slt a c = true := by
 rw [slt_eq] at *
 simp only [decide_eq_true_eq] at *
 exact List.lt_trans h k
theorem slt_tri {a b : ByteArray} (h : slt a b = false) (k : slt b a = false) : a = b := by
 rw [slt_eq] at *
 simp only [decide_eq_false_iff_not, List.not_lt] at *
 have := List.le_antisymm k h
 obtain ⟨⟨x⟩⟩ := a
 obtain ⟨⟨y⟩⟩ := b
 simp only at this
 rw [this]
def Sorted (ss : List ByteArray) : Prop := ss.Pairwise fun a b => slt a b = true
structure BsR (ss : List ByteArray) (x : ByteArray) (i : Nat) (b : Bool) : Prop where
 le : i ≤ ss.length
 lo : ∀ j y, ss[j]? = some y → j < i → slt y x = true
 hi : ∀ j y, ss[j]? = some y → i ≤ j → slt y x = false
 is : b = decide (ss[i]? = some x)
theorem sorted_at {ss : List ByteArray} (hs : Sorted ss) {i j : Nat} {x y : ByteArray} (hx : ss[i]? = some x) (hy : ss[j]? = some y) (h : i < j) : slt x y = true := by
 obtain ⟨h1, rfl⟩ := List.getElem?_eq_some_iff.1 hx
 obtain ⟨h2, rfl⟩ := List.getElem?_eq_some_iff.1 hy
 exact List.pairwise_iff_getElem.1 hs i j h1 h2 h
theorem BsR.mem {ss : List ByteArray} {x : ByteArray} {i : Nat} {b : Bool} (h : BsR ss x i b) (hs : Sorted ss) : b = true ↔ x ∈ ss := by
 rw [h.is, decide_eq_true_eq]
 constructor
 ·exact List.mem_of_getElem?
 ·intro hm
  obtain ⟨j, hj⟩ := List.getElem?_of_mem hm
  have h1 : i ≤ j := Nat.le_of_not_lt fun hlt => by
   have := h.lo j x hj hlt
   rw [slt_irrefl] at this
   cases this
  rcases Nat.eq_or_lt_of_le h1 with rfl | hlt
  ·exact hj
  ·have hi : i < ss.length := by have := (List.getElem?_eq_some_iff.1 hj).1; omega
   have h2 := h.hi i _ (List.getElem?_eq_getElem hi) (Nat.le_refl i)
   rw [sorted_at hs (List.getElem?_eq_getElem hi) hj hlt] at h2
   cases h2
section
variable {P : Program} {F L M pre : List HP} {f : FuncId} {args : List Value} {R : Value → List HP → Prop} {x v : Value} {cs cur ys : List Value} {n m g o cap dLen dCap sz : Nat} {t : TypeId}
theorem DoesG.copyS {dT ty elem : TypeId} (hu : P.underlying dT = some (.slice elem)) (hs : sizeT P elem = some 1) (hr : RdS (cel g t cur :: (L ++ F)) x n cs) (hn : cs.length = n) (hle : n ≤ dLen) (hfit : o + n ≤ cur.length) (h1 : ∀ v ∈ cs, v.oneCell' = true)
 {cur' : List Value} (hc : cur.take o ++ cs ++ cur.drop (o + n) = cur') {k : Value → List HP → Prop} (hk : k (.int .i64 n) (cel g t cur' :: L)) :
 DoesG P F (Builtin.copy_ #[dT, dT] ty #[.slice (some ⟨g, o, none⟩) dLen dCap, x]) (cel g t cur :: L) k := by
 have e : min n dLen = n := Nat.min_eq_left hle
 refine DoesG.copy1 hu hs hr hn (by rw [e]; exact hfit) h1 ?_
 have e2 : cs.take n = cs := List.take_of_length_le (by omega)
 rw [e, e2, hc]
 exact hk
end
def RdB (Bs : Bls) (v : Value) (cs : List Value) : Prop := (v = .slice none 0 0 ∧ cs = []) ∨ ∃ g cap rest, v = .slice (some ⟨g, 0, none⟩) cs.length cap ∧ cs.length ≤ cap ∧ (g, cs ++ rest) ∈ Bs
theorem RdB.mono {Bs Cs : Bls} {v : Value} {cs : List Value} (hL : ∀ p ∈ Bs, p ∈ Cs) (h : RdB Bs v cs) : RdB Cs v cs := by
 rcases h with h | ⟨g, cap, rest, h1, h2, h3⟩
 ·exact .inl h
 ·exact .inr ⟨g, cap, rest, h1, h2, hL _ h3⟩
theorem RdB.sl {Bs : Bls} {v : Value} {cs : List Value} (h : RdB Bs v cs) : SlV v cs.length := by
 rcases h with ⟨rfl, rfl⟩ | ⟨g, cap, rest, h1, h2, h3⟩
 ·exact .inl ⟨rfl, rfl⟩
 ·exact .inr ⟨g, cap, h1, h2⟩
end Go.Sl
namespace Go.Sl
open Go
def strN (s : ByteArray) : List Nat := s.data.toList.map (·.toNat)
section
variable {P : Program} {F L M : List HP} {v x : Value} {cs cur ys : List Value} {p : HP} {n m : Nat}
end
/-! Slices that nobody writes any more -/
abbrev Shs := List (Value × List Value)
structure ShIn (S : Shs) (v : Value) (cs : List Value) : Prop where
 sl : SlV v cs.length
 mem : (v, cs) ∈ S ∨ (v = .slice none 0 0 ∧ cs = [])
theorem ShIn.mono {S T : Shs} {v : Value} {cs : List Value} (hL : ∀ p ∈ S, p ∈ T) (h : ShIn S v cs) : ShIn T v cs := ⟨h.sl, h.mem.imp (fun m => hL _ m) id⟩
theorem ShIn.nil (S : Shs) : ShIn S (.slice none 0 0) [] := ⟨.inl ⟨rfl, rfl⟩, .inr ⟨rfl, rfl⟩⟩
/-! The table -/
abbrev KO := List Nat × Value × List ByteArray
def getO (l : List KO) (d : List Nat) : Option (Value × List ByteArray) := (l.find? fun p => decide (p.1 = d)).map (·.2)
def delK {K : Type} [DecidableEq K] (l : List (KV K)) (x : K) : List (KV K) := l.filter fun p => decide (p.1 ≠ x)
theorem delM_kv {K : Type} [DecidableEq K] (l : List (KV K)) (x : K) : delM (kvM l) x = kvM (delK l x) := by
 simp only [delM, kvM, delK, List.filter_map]
 rfl
theorem getO_mem {l : List KO} {d : List Nat} {y : Value × List ByteArray} (h : getO l d = some y) : (d, y) ∈ l := by
 simp only [getO, Option.map_eq_some_iff] at h
 obtain ⟨p, hp, rfl⟩ := h
 have h1 := List.find?_some hp
 simp only [decide_eq_true_eq] at h1
 rw [← h1]
 exact List.mem_of_find?_eq_some hp
theorem getK_del {K : Type} [DecidableEq K] {l : List (KV K)} {x y : K} : getK (delK l x) y = if y = x then none else getK l y := by
 unfold getK delK
 rw [List.find?_filter]
 by_cases h : y = x
 ·subst h
  rw [if_pos rfl]
  simp
 ·rw [if_neg h]
  congr 1
  congr 1
  funext p
  by_cases hp : p.1 = y
  ·simp [hp, h]
  ·simp [hp]
structure TabD where
 vb : Nat
 q : Nat
 ob : Nat
 vals : List (KV ByteArray)
 ofs : List KO
 tree : Trie
 top : Value
 len : Int
 Bs : Bls
 S : Shs
structure TabD.wf (K : List W32) (n : Nat) (c : TabD) : Prop where
 vals : ∀ p ∈ c.vals, ShIn c.S p.2.1 (bvs p.2.2) ∧ p.2.2.length ≤ 4096 ∧ p.2.2 ≠ [] ∧ ∀ b ∈ p.2.2, b < 256
 ofs : ∀ p ∈ c.ofs, ShIn c.S p.2.1 (svs p.2.2) ∧ Sorted p.2.2 ∧ p.2.2.length ≤ n ∧ p.2.2 ≠ [] ∧ ∀ k ∈ p.2.2, dig K (strN k) = p.1 ∧ (getK c.vals k).isSome = true
 back : ∀ k, (getK c.vals k).isSome = true → ∃ v ks, getO c.ofs (dig K (strN k)) = some (v, ks) ∧ k ∈ ks
 node : NdB K c.Bs c.tree c.top
 tree : c.tree.wf 0
 keys : ∀ p ∈ c.vals, 0 < p.1.size ∧ p.1.size ≤ 128
def TabD.at (c : TabD) (d : List Nat) : Value × List ByteArray := (getO c.ofs d).getD (.slice none 0 0, [])
theorem TabD.wf.at {K : List W32} {n : Nat} {c : TabD} (h : c.wf K n) (d : List Nat) : ShIn c.S (c.at d).1 (svs (c.at d).2) ∧ Sorted (c.at d).2 ∧ (c.at d).2.length ≤ n ∧ ∀ k ∈ (c.at d).2, dig K (strN k) = d ∧ (getK c.vals k).isSome = true := by
 unfold TabD.at
 cases hg : getO c.ofs d with
 | none => exact ⟨ShIn.nil _, List.Pairwise.nil, Nat.zero_le _, by simp⟩
 | some y =>
  obtain ⟨h1, h2, h3, _, h4⟩ := h.ofs _ (getO_mem hg)
  exact ⟨h1, h2, h3, h4⟩
theorem TabD.wf.there {K : List W32} {n : Nat} {c : TabD} (h : c.wf K n) (k : ByteArray) : k ∈ (c.at (dig K (strN k))).2 ↔ (getK c.vals k).isSome = true := by
 constructor
 ·intro hm
  exact ((h.at _).2.2.2 k hm).2
 ·intro hs
  obtain ⟨v, ks, h1, h2⟩ := h.back k hs
  unfold TabD.at
  rw [h1]
  exact h2
end Go.Sl
