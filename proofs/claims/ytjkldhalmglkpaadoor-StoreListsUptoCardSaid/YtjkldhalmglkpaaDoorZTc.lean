import Derived.Test.YtjkldhalmglkpaaDoorZPa
import Derived.Test.YtjkldhalmglkpaaDoorZCh
namespace Go.Sl
open Go Go.Sort
/-! Trees of bits -/
theorem leaf_right {e k v : List Nat} {d : Nat} (h : bitN k d = true) : findT e d (.leaf k v) = if bitN e d then findT e (d + 1) (.leaf k v) else zd := by
 by_cases hb : bitN e d = true
 ·rw [if_pos hb]
  rfl
 ·rw [if_neg hb]
  exact if_neg (fun h2 => hb (by rw [← h2]; exact h))
theorem leaf_left {e k v : List Nat} {d : Nat} (h : bitN k d = false) : findT e d (.leaf k v) = if bitN e d then zd else findT e (d + 1) (.leaf k v) := by
 by_cases hb : bitN e d = true
 ·rw [if_pos hb]
  exact if_neg (fun h2 => by rw [h2, hb] at h; cases h)
 ·rw [if_neg hb]
  rfl
theorem findT_join {e : List Nat} {d : Nat} {l r : Trie} (h0 : ∀ k ∈ l.keys, bitN k d = false) (h1 : ∀ k ∈ r.keys, bitN k d = true) : findT e d (joinT l r) = if bitN e d then findT e (d + 1) r else findT e (d + 1) l := by
 cases l with
 | nil =>
  cases r with
  | nil => simp [joinT, findT]
  | leaf k v => exact leaf_right (h1 k (by simp [Trie.keys]))
  | fork a b => rfl
 | leaf k v =>
  cases r with
  | nil => exact leaf_left (h0 k (by simp [Trie.keys]))
  | leaf a b => rfl
  | fork a b => rfl
 | fork a b => cases r <;> rfl
theorem findT_halves {e : List Nat} {d : Nat} {t : Trie} (h : t.wf d) : findT e d t = if bitN e d then findT e (d + 1) (halves t d).2 else findT e (d + 1) (halves t d).1 := by
 cases t with
 | nil => simp only [findT, halves]; split <;> rfl
 | leaf k v =>
  simp only [findT, halves]
  by_cases hk : bitN k d = true
  ·rw [if_pos hk]
   by_cases hb : bitN e d = true
   ·rw [if_pos hb]
    rfl
   ·rw [if_neg hb]
    exact if_neg (fun h2 => hb (by rw [← h2]; exact hk))
  ·rw [if_neg hk]
   by_cases hb : bitN e d = true
   ·rw [if_pos hb]
    exact if_neg (fun h2 => hk (by rw [h2]; exact hb))
   ·rw [if_neg hb]
    rfl
 | fork l r => rfl
theorem putB_find {key v e : List Nat} {t t' : Trie} {d : Nat} (h : putB key v t = some t') : findT e d t' = if e = key then v else findT e d t := by
 have one : findT e d (if v = zd then Trie.nil else .leaf key v) = if e = key then v else zd := by
  by_cases hz : v = zd
  ·rw [if_pos hz, hz]
   show zd = _
   split <;> rfl
  ·rw [if_neg hz]
   simp only [findT]
   by_cases he : e = key
   ·rw [if_pos he, if_pos he.symm]
   ·rw [if_neg he, if_neg (fun h2 => he h2.symm)]
 cases t with
 | nil => cases h; exact one
 | leaf k u =>
  simp only [putB] at h
  split at h
  ·rename_i hk
   cases h
   rw [one]
   by_cases he : e = key
   ·rw [if_pos he, if_pos he]
   ·rw [if_neg he, if_neg he]
    exact (if_neg (fun h2 => he (by rw [← h2, hk]))).symm
  ·rename_i hk
   split at h <;> cases h
   rename_i hz
   by_cases he : e = key
   ·rw [if_pos he, hz]
    exact if_neg (fun h2 => hk (by rw [h2, he]))
   ·rw [if_neg he]
 | fork l r => cases h
theorem findT_put {key v : List Nat} (hk : IsD key) (hv : IsD v) (e : List Nat) : ∀ (f d : Nat) (t : Trie), f + d = 256 → t.wf d → t.along d key → findT e d (putT key v f t) = if e = key then v else findT e d t
 | f, d, t, hd, h, ha => by
  cases hb : putB key v t with
  | some t' => rw [putT_some hb]; exact putB_find hb
  | none =>
   have hlt := putB_none hk h ha hb
   obtain ⟨g, rfl⟩ : ∃ g, f = g + 1 := ⟨f - 1, by omega⟩
   obtain rfl : d = 255 - g := by omega
   rw [putT_none hb]
   obtain ⟨w1, w2, w3, w4⟩ := halves_wf h
   obtain ⟨a1, a2⟩ := halves_along ha
   by_cases hbit : bitN key (255 - g) = true
   ·rw [if_pos hbit]
    have al : (halves t (255 - g)).2.along (255 - g + 1) key := along_next a2 fun k hk => by rw [w4 k hk, hbit]
    obtain ⟨p1, p2⟩ := putT_wf hk hv g (255 - g + 1) _ (by omega) w2 al
    rw [findT_join w3 (fun k hk2 => (p2 k hk2).elim (w4 k) (fun h2 => by rw [h2]; exact hbit))]
    rw [findT_halves (e := e) h]
    by_cases he : bitN e (255 - g) = true
    ·rw [if_pos he, if_pos he]
     exact findT_put hk hv e g _ _ (by omega) w2 al
    ·rw [if_neg he, if_neg he, if_neg (fun h2 => he (by rw [h2]; exact hbit))]
   ·have hbit' : bitN key (255 - g) = false := by simpa using hbit
    rw [if_neg hbit]
    have al : (halves t (255 - g)).1.along (255 - g + 1) key := along_next a1 fun k hk => by rw [w3 k hk, hbit']
    obtain ⟨p1, p2⟩ := putT_wf hk hv g (255 - g + 1) _ (by omega) w1 al
    rw [findT_join (fun k hk2 => (p2 k hk2).elim (w3 k) (fun h2 => by rw [h2]; exact hbit')) w4]
    rw [findT_halves (e := e) h]
    by_cases he : bitN e (255 - g) = true
    ·rw [if_pos he, if_pos he, if_neg (fun h2 => hbit (by rw [← h2]; exact he))]
    ·rw [if_neg he, if_neg he]
     exact findT_put hk hv e g _ _ (by omega) w1 al
def Trie.full : Trie → Prop
 | .nil => True
 | .leaf _ v => v ≠ zd
 | .fork l r => l.full ∧ r.full
theorem joinT_full {l r : Trie} (hl : l.full) (hr : r.full) : (joinT l r).full := by
 cases l <;> cases r <;> first | exact hl | exact hr | exact ⟨hl, hr⟩
theorem halves_full {t : Trie} {d : Nat} (h : t.full) : (halves t d).1.full ∧ (halves t d).2.full := by
 cases t with
 | nil => exact ⟨trivial, trivial⟩
 | leaf k v => simp only [halves]; split <;> first | exact ⟨trivial, h⟩ | exact ⟨h, trivial⟩
 | fork l r => exact h
theorem putB_full {key v : List Nat} {t t' : Trie} (h : putB key v t = some t') (ht : t.full) : t'.full := by
 have one : (if v = zd then Trie.nil else .leaf key v).full := by
  split
  ·trivial
  ·assumption
 cases t with
 | nil => cases h; exact one
 | leaf k u =>
  simp only [putB] at h
  split at h
  ·cases h; exact one
  ·split at h <;> cases h
   exact ht
 | fork l r => cases h
theorem putT_full {key v : List Nat} : ∀ (f : Nat) (t : Trie), t.full → (putT key v f t).full
 | 0, t, h => by
  unfold putT
  cases hb : putB key v t with
  | none => exact h
  | some t' => exact putB_full hb h
 | f + 1, t, h => by
  cases hb : putB key v t with
  | some t' => rw [putT_some hb]; exact putB_full hb h
  | none =>
   rw [putT_none hb]
   obtain ⟨h1, h2⟩ := halves_full (d := 255 - f) h
   split
   ·exact joinT_full h1 (putT_full f _ h2)
   ·exact joinT_full (putT_full f _ h1) h2
/-! What a table has -/
theorem nodup_le {α : Type} [DecidableEq α] : ∀ {l m : List α}, l.Nodup → (∀ x ∈ l, x ∈ m) → l.length ≤ m.length
 | [], _, _, _ => Nat.zero_le _
 | x :: l, m, hn, h => by
  have h1 : x ∈ m := h x List.mem_cons_self
  have hn' := List.nodup_cons.1 hn
  have h2 : ∀ y ∈ l, y ∈ m.erase x := fun y hy => by
   have hne : y ≠ x := fun e => hn'.1 (by rw [← e]; exact hy)
   exact (List.mem_erase_of_ne hne).2 (h y (List.mem_cons_of_mem _ hy))
  have h3 := nodup_le hn'.2 h2
  have h4 := List.length_erase_of_mem h1
  have h5 : 0 < m.length := List.length_pos_of_mem h1
  simp only [List.length_cons]
  omega
theorem Sorted.nodup {ks : List ByteArray} (h : Sorted ks) : ks.Nodup := List.Pairwise.imp (fun hab e => by rw [e, slt_irrefl] at hab; cases hab) h
theorem Sorted.one {ks ms : List ByteArray} (h : Sorted ks) (h2 : Sorted ms) (he : ∀ k, k ∈ ks ↔ k ∈ ms) : ks = ms :=
 List.Perm.eq_of_pairwise (le := fun a b => slt a b = true) (fun a b _ _ x y => absurd (slt_trans x y) (by rw [slt_irrefl]; decide)) h h2 ((List.perm_ext_iff_of_nodup h.nodup h2.nodup).2 he)
def TabD.cont (c : TabD) : ByteArray → List Nat := fun k => ((getK c.vals k).map (·.2)).getD []
structure GoodT (K : List W32) (c : TabD) : Prop where
 wf : c.wf K c.vals.length
 nd : (c.vals.map (·.1)).Nodup
 tree : ∀ d, IsD d → findT d 0 c.tree = c.lastD K d
 full : c.tree.full
theorem TabD.wf.least {K : List W32} {n : Nat} {c : TabD} (h : c.wf K n) : c.wf K c.vals.length := by
 refine ⟨h.vals, fun p hp => ?_, h.back, h.node, h.tree, h.keys⟩
 obtain ⟨h1, h2, _, h4, h5⟩ := h.ofs p hp
 refine ⟨h1, h2, ?_, h4, h5⟩
 have := nodup_le (m := c.vals.map (·.1)) (Sorted.nodup h2) fun k hk => by
  obtain ⟨q, hq, rfl⟩ := mem_getK (h5 k hk).2
  exact List.mem_map.2 ⟨q, hq, rfl⟩
 simpa using this
theorem cont_some {K : List W32} {n : Nat} {c : TabD} (h : c.wf K n) (k : ByteArray) : c.cont k ≠ [] ↔ (getK c.vals k).isSome = true := by
 unfold TabD.cont
 cases hg : getK c.vals k with
 | none => simp
 | some y =>
  have := (h.vals _ (getK_mem hg)).2.2.1
  simpa using this
theorem lastD_eq {K : List W32} {n m : Nat} {c c' : TabD} (hw : c.wf K n) (hw' : c'.wf K m) {d : List Nat} (h : ∀ k, dig K (strN k) = d → c.cont k = c'.cont k) : c.lastD K d = c'.lastD K d := by
 obtain ⟨_, s1, _, m1⟩ := hw.at d
 obtain ⟨_, s2, _, m2⟩ := hw'.at d
 have e : (c.at d).2 = (c'.at d).2 := Sorted.one s1 s2 fun k => by
  constructor
  ·intro hk
   obtain ⟨h1, h2⟩ := m1 k hk
   have h3 := (cont_some hw k).2 h2
   rw [h k h1] at h3
   have h4 := (hw'.there k).2 ((cont_some hw' k).1 h3)
   rw [h1] at h4
   exact h4
  ·intro hk
   obtain ⟨h1, h2⟩ := m2 k hk
   have h3 := (cont_some hw' k).2 h2
   rw [← h k h1] at h3
   have h4 := (hw.there k).2 ((cont_some hw k).1 h3)
   rw [h1] at h4
   exact h4
 unfold TabD.lastD
 rw [← e]
 cases hl : (c.at d).2.getLast? with
 | none => rfl
 | some k =>
  have hk := List.mem_of_getLast? hl
  have := h k (m1 k hk).1
  show dig K (c.cont k) = dig K (c'.cont k)
  rw [this]
theorem lastD_isD (K : List W32) (c : TabD) (d : List Nat) : IsD (c.lastD K d) := by
 unfold TabD.lastD
 split
 ·exact IsD.zd
 ·exact IsD.dig _ _
theorem LayOk.cont {K : List W32} {n : Nat} {c c' : TabD} {key : ByteArray} {bs : List Nat} (h : LayOk K n c key bs c') : c'.cont = fun k => if k = key then bs else c.cont k := by
 funext k
 unfold TabD.cont
 by_cases hb : bs = []
 ·rw [h.del hb, getK_del]
  by_cases hk : k = key
  ·rw [if_pos hk, if_pos hk, hb]; rfl
  ·rw [if_neg hk, if_neg hk]
 ·obtain ⟨x, hx⟩ := h.put hb
  rw [hx, getK_put]
  by_cases hk : k = key
  ·rw [if_pos hk, if_pos hk]; rfl
  ·rw [if_neg hk, if_neg hk]
theorem putK_nodup {l : List (KV ByteArray)} {x : ByteArray} {v : Value} {bs : List Nat} (h : (l.map (·.1)).Nodup) : ((putK l x v bs).map (·.1)).Nodup := by
 unfold putK
 split
 ·rw [List.map_map]
  have e : l.map ((fun p : KV ByteArray => p.1) ∘ fun p => if p.1 = x then (x, v, bs) else p) = l.map (·.1) := by
   apply List.map_congr_left
   intro p _
   simp only [Function.comp]
   split
   ·rename_i h; exact h.symm
   ·rfl
  rw [e]
  exact h
 ·rename_i hx
  rw [List.map_append, List.nodup_append]
  refine ⟨h, by simp, fun a ha b hb e => hx ?_⟩
  have : b = x := by simpa using hb
  rw [← this, ← e]
  exact ha
theorem GoodT.lay {K : List W32} {n : Nat} {c c' : TabD} {key : ByteArray} {bs : List Nat} (hg : GoodT K c) (h : LayOk K n c key bs c') : GoodT K c' := by
 have hc := h.cont
 refine ⟨h.wf.least, ?_, fun d hd => ?_, ?_⟩
 ·by_cases hb : bs = []
  ·rw [h.del hb]
   exact hg.nd.sublist (List.filter_sublist.map _)
  ·obtain ⟨x, hx⟩ := h.put hb
   rw [hx]
   exact putK_nodup hg.nd
 ·rw [h.tree, findT_put (IsD.dig K (strN key)) (lastD_isD K c' _) d 256 0 c.tree rfl hg.wf.tree (along_zero _ _)]
  by_cases hd2 : d = dig K (strN key)
  ·rw [if_pos hd2, hd2]
  ·rw [if_neg hd2, hg.tree d hd]
   refine lastD_eq hg.wf h.wf fun k hk => ?_
   rw [hc]
   exact (if_neg (fun e => hd2 (by rw [← hk, e]))).symm
 ·rw [h.tree]
  exact putT_full 256 c.tree hg.full
def putC (f : ByteArray → List Nat) (key : ByteArray) (bs : List Nat) : ByteArray → List Nat := if mayI key bs.length = 0 then fun k => if k = key then bs else f k else f
def putsC (f : ByteArray → List Nat) (l : List PairD) : ByteArray → List Nat := l.foldl (fun f p => putC f p.key p.bs) f
theorem putsC_step {f : ByteArray → List Nat} {l : List PairD} {i : Nat} {p : PairD} (h : l[i]? = some p) : putsC f (l.take (i + 1)) = putC (putsC f (l.take i)) p.key p.bs := by
 unfold putsC
 rw [List.take_add_one, h, List.foldl_append]
 rfl
theorem LayOk.len {K : List W32} {n : Nat} {c c' : TabD} {key : ByteArray} {bs : List Nat} (h : LayOk K n c key bs c') : c'.vals.length ≤ c.vals.length + if bs = [] then 0 else 1 := by
 by_cases hb : bs = []
 ·rw [h.del hb, if_pos hb]
  exact List.length_filter_le _ _
 ·obtain ⟨x, hx⟩ := h.put hb
  rw [hx, if_neg hb]
  unfold putK
  split
  ·rw [List.length_map]; omega
  ·rw [List.length_append]; exact Nat.le_refl _
theorem GoodT.may {K : List W32} {c : TabD} (hg : GoodT K c) {k : ByteArray} (h : c.cont k ≠ []) : mayI k (c.cont k).length = 0 ∧ (c.cont k).length ≤ 4096 ∧ ∀ b ∈ c.cont k, b < 256 := by
 have h1 := (cont_some hg.wf k).1 h
 cases hgk : getK c.vals k with
 | none => rw [hgk] at h1; cases h1
 | some y =>
  have hc : c.cont k = y.2 := by unfold TabD.cont; rw [hgk]; rfl
  obtain ⟨_, h2, _, h3⟩ := hg.wf.vals _ (getK_mem hgk)
  obtain ⟨h4, h5⟩ := hg.wf.keys _ (getK_mem hgk)
  simp only at h2 h3 h4 h5
  rw [hc]
  refine ⟨?_, h2, h3⟩
  unfold mayI
  rw [if_neg (by omega), if_neg (by omega)]
end Go.Sl
