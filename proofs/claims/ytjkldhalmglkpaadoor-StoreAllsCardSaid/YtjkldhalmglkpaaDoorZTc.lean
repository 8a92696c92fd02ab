import Derived.Test.YtjkldhalmglkpaaDoorZPa
import Derived.Test.YtjkldhalmglkpaaDoorZCh
namespace Go.Sl
open Go Go.Sort
/-! Trees of bits -/
theorem findT_no {e : List Nat} : ∀ {t : Trie} {d : Nat}, e ∉ t.keys → findT e d t = zd
 | .nil, _, _ => rfl
 | .leaf k v, _, h => if_neg (fun h2 => h (by simp [Trie.keys, h2]))
 | .fork l r, d, h => by
  have h' : e ∉ l.keys ∧ e ∉ r.keys := by simpa [Trie.keys] using h
  unfold findT
  split
  ·exact findT_no h'.2
  ·exact findT_no h'.1
theorem leaf_right {e k v : List Nat} {d : Nat} (h : bitN k d = true) : findT e d (.leaf k v) = if bitN e d then findT e (d + 1) (.leaf k v) else zd := by
 by_cases hb : bitN e d = true
 ·rw [if_pos hb]
  rfl
 ·rw [if_neg hb]
  exact if_neg (fun h2 => hb (by rw [← h2]; exact h))
theorem leaf_left {e k v : List Nat} {d : Nat} (h : bitN k d = false) : findT e d (.leaf k v) = if bitN e d then zd else findT e (d + 1) (.leaf k v) := by
 by_cases hb : bitN e d = true
 ·rw [if_pos hb]
  exact if_neg (fun h2 => by rw [h2, hb] at h; cases h)
 ·rw [if_neg hb]
  rfl
theorem findT_join {e : List Nat} {d : Nat} {l r : Trie} (h0 : ∀ k ∈ l.keys, bitN k d = false) (h1 : ∀ k ∈ r.keys, bitN k d = true) : findT e d (joinT l r) = if bitN e d then findT e (d + 1) r else findT e (d + 1) l := by
 cases l with
 | nil =>
  cases r with
  | nil => simp [joinT, findT]
  | leaf k v => exact leaf_right (h1 k (by simp [Trie.keys]))
  | fork a b => rfl
 | leaf k v =>
  cases r with
  | nil => exact leaf_left (h0 k (by simp [Trie.keys]))
  | leaf a b => rfl
  | fork a b => rfl
 | fork a b => cases r <;> rfl
theorem findT_halves {e : List Nat} {d : Nat} {t : Trie} (h : t.wf d) : findT e d t = if bitN e d then findT e (d + 1) (halves t d).2 else findT e (d + 1) (halves t d).1 := by
 cases t with
 | nil => simp only [findT, halves]; split <;> rfl
 | leaf k v =>
  simp only [findT, halves]
  by_cases hk : bitN k d = true
  ·rw [if_pos hk]
   by_cases hb : bitN e d = true
   ·rw [if_pos hb]
    rfl
   ·rw [if_neg hb]
    exact if_neg (fun h2 => hb (by rw [← h2]; exact hk))
  ·rw [if_neg hk]
   by_cases hb : bitN e d = true
   ·rw [if_pos hb]
    exact if_neg (fun h2 => hk (by rw [h2]; exact hb))
   ·rw [if_neg hb]
    rfl
 | fork l r => rfl
theorem putB_find {key v e : List Nat} {t t' : Trie} {d : Nat} (h : putB key v t = some t') : findT e d t' = if e = key then v else findT e d t := by
 have one : findT e d (if v = zd then Trie.nil else .leaf key v) = if e = key then v else zd := by
  by_cases hz : v = zd
  ·rw [if_pos hz, hz]
   show zd = _
   split <;> rfl
  ·rw [if_neg hz]
   simp only [findT]
   by_cases he : e = key
   ·rw [if_pos he, if_pos he.symm]
   ·rw [if_neg he, if_neg (fun h2 => he h2.symm)]
 cases t with
 | nil => cases h; exact one
 | leaf k u =>
  simp only [putB] at h
  split at h
  ·rename_i hk
   cases h
   rw [one]
   by_cases he : e = key
   ·rw [if_pos he, if_pos he]
   ·rw [if_neg he, if_neg he]
    exact (if_neg (fun h2 => he (by rw [← h2, hk]))).symm
  ·rename_i hk
   split at h <;> cases h
   rename_i hz
   by_cases he : e = key
   ·rw [if_pos he, hz]
    exact if_neg (fun h2 => hk (by rw [h2, he]))
   ·rw [if_neg he]
 | fork l r => cases h
theorem findT_put {key v : List Nat} (hk : IsD key) (hv : IsD v) (e : List Nat) : ∀ (f d : Nat) (t : Trie), f + d = 256 → t.wf d → t.along d key → findT e d (putT key v f t) = if e = key then v else findT e d t
 | f, d, t, hd, h, ha => by
  cases hb : putB key v t with
  | some t' => rw [putT_some hb]; exact putB_find hb
  | none =>
   have hlt := putB_none hk h ha hb
   obtain ⟨g, rfl⟩ : ∃ g, f = g + 1 := ⟨f - 1, by omega⟩
   obtain rfl : d = 255 - g := by omega
   rw [putT_none hb]
   obtain ⟨w1, w2, w3, w4⟩ := halves_wf h
   obtain ⟨a1, a2⟩ := halves_along ha
   by_cases hbit : bitN key (255 - g) = true
   ·rw [if_pos hbit]
    have al : (halves t (255 - g)).2.along (255 - g + 1) key := along_next a2 fun k hk => by rw [w4 k hk, hbit]
    obtain ⟨p1, p2⟩ := putT_wf hk hv g (255 - g + 1) _ (by omega) w2 al
    rw [findT_join w3 (fun k hk2 => (p2 k hk2).elim (w4 k) (fun h2 => by rw [h2]; exact hbit))]
    rw [findT_halves (e := e) h]
    by_cases he : bitN e (255 - g) = true
    ·rw [if_pos he, if_pos he]
     exact findT_put hk hv e g _ _ (by omega) w2 al
    ·rw [if_neg he, if_neg he, if_neg (fun h2 => he (by rw [h2]; exact hbit))]
   ·have hbit' : bitN key (255 - g) = false := by simpa using hbit
    rw [if_neg hbit]
    have al : (halves t (255 - g)).1.along (255 - g + 1) key := along_next a1 fun k hk => by rw [w3 k hk, hbit']
    obtain ⟨p1, p2⟩ := putT_wf hk hv g (255 - g + 1) _ (by omega) w1 al
    rw [findT_join (fun k hk2 => (p2 k hk2).elim (w3 k) (fun h2 => by rw [h2]; exact hbit')) w4]
    rw [findT_halves (e := e) h]
    by_cases he : bitN e (255 - g) = true
    ·rw [if_pos he, if_pos he, if_neg (fun h2 => hbit (by rw [← h2]; exact he))]
    ·rw [if_neg he, if_neg he]
     exact findT_put hk hv e g _ _ (by omega) w1 al
def Trie.full : Trie → Prop
 | .nil => True
 | .leaf _ v => v ≠ zd
 | .fork l r => l.full ∧ r.full
theorem joinT_full {l r : Trie} (hl : l.full) (hr : r.full) : (joinT l r).full := by
 cases l <;> cases r <;> first | exact hl | exact hr | exact ⟨hl, hr⟩
theorem halves_full {t : Trie} {d : Nat} (h : t.full) : (halves t d).1.full ∧ (halves t d).2.full := by
 cases t with
 | nil => exact ⟨trivial, trivial⟩
 | leaf k v => simp only [halves]; split <;> first | exact ⟨trivial, h⟩ | exact ⟨h, trivial⟩
 | fork l r => exact h
theorem putB_full {key v : List Nat} {t t' : Trie} (h : putB key v t = some t') (ht : t.full) : t'.full := by
 have one : (if v = zd then Trie.nil else .leaf key v).full := by
  split
  ·trivial
  ·assumption
 cases t with
 | nil => cases h; exact one
 | leaf k u =>
  simp only [putB] at h
  split at h
  ·cases h; exact one
  ·split at h <;> cases h
   exact ht
 | fork l r => cases h
theorem putT_full {key v : List Nat} : ∀ (f : Nat) (t : Trie), t.full → (putT key v f t).full
 | 0, t, h => by
  unfold putT
  cases hb : putB key v t with
  | none => exact h
  | some t' => exact putB_full hb h
 | f + 1, t, h => by
  cases hb : putB key v t with
  | some t' => rw [putT_some hb]; exact putB_full hb h
  | none =>
   rw [putT_none hb]
   obtain ⟨h1, h2⟩ := halves_full (d := 255 - f) h
   split
   ·exact joinT_full h1 (putT_full f _ h2)
   ·exact joinT_full (putT_full f _ h1) h2
theorem findT_mem {k : List Nat} : ∀ {t : Trie} {d : Nat}, t.wf d → t.full → k ∈ t.keys → IsD k ∧ findT k d t ≠ zd
 | .nil, _, _, _, h => by cases h
 | .leaf k' v, _, hw, hf, h => by
  obtain rfl : k = k' := by simpa [Trie.keys] using h
  exact ⟨hw.1, by simp only [findT, if_true]; exact hf⟩
 | .fork l r, d, hw, hf, h => by
  obtain ⟨h1, h2, h3, h4, h5, h6⟩ := hw
  simp only [Trie.keys, List.mem_append] at h
  unfold findT
  rcases h with h | h
  ·rw [h4 k h, if_neg (by decide)]
   exact findT_mem h2 hf.1 h
  ·rw [h5 k h, if_pos rfl]
   exact findT_mem h3 hf.2 h
theorem keys_some : ∀ {t : Trie} {d : Nat}, t.wf d → t ≠ .nil → ∃ k, k ∈ t.keys
 | .nil, _, _, h => absurd rfl h
 | .leaf k v, _, _, _ => ⟨k, by simp [Trie.keys]⟩
 | .fork l r, d, hw, _ => by
  obtain ⟨h1, h2, h3, h4, h5, h6⟩ := hw
  cases hl : l with
  | nil =>
   cases hr : r with
   | nil => rw [hl, hr] at h6; cases h6
   | _ =>
    obtain ⟨k, hk⟩ := keys_some h3 (by rw [hr]; simp)
    exact ⟨k, by rw [Trie.keys, List.mem_append]; exact .inr (by rw [← hr]; exact hk)⟩
  | _ =>
   obtain ⟨k, hk⟩ := keys_some h2 (by rw [hl]; simp)
   exact ⟨k, by rw [Trie.keys, List.mem_append]; exact .inl (by rw [← hl]; exact hk)⟩
theorem keys_two {l r : Trie} {d : Nat} (hw : (Trie.fork l r).wf d) : ∃ a b, a ∈ (Trie.fork l r).keys ∧ b ∈ (Trie.fork l r).keys ∧ a ≠ b := by
 obtain ⟨h1, h2, h3, h4, h5, h6⟩ := hw
 have both : ∀ a b, a ∈ l.keys → b ∈ r.keys → ∃ a b, a ∈ (Trie.fork l r).keys ∧ b ∈ (Trie.fork l r).keys ∧ a ≠ b := fun a b ha hb =>
  ⟨a, b, List.mem_append_left _ ha, List.mem_append_right _ hb, fun e => by have := h4 a ha; rw [e, h5 b hb] at this; cases this⟩
 have sub : ∀ {x : Trie}, (x = l ∨ x = r) → x.wf (d + 1) → (∃ p q, x = .fork p q) → ∃ a b, a ∈ (Trie.fork l r).keys ∧ b ∈ (Trie.fork l r).keys ∧ a ≠ b := fun {x} hx hxw ⟨p, q, e⟩ => by
  subst e
  obtain ⟨a, b, ha, hb, hne⟩ := keys_two hxw
  rcases hx with rfl | rfl
  ·exact ⟨a, b, List.mem_append_left _ ha, List.mem_append_left _ hb, hne⟩
  ·exact ⟨a, b, List.mem_append_right _ ha, List.mem_append_right _ hb, hne⟩
 cases hl : l with
 | fork p q => rw [← hl]; exact sub (.inl rfl) h2 ⟨p, q, hl⟩
 | nil =>
  cases hr : r with
  | fork p q => rw [← hl, ← hr]; exact sub (.inr rfl) h3 ⟨p, q, hr⟩
  | _ => rw [hl, hr] at h6; cases h6
 | leaf k v =>
  cases hr : r with
  | fork p q => rw [← hl, ← hr]; exact sub (.inr rfl) h3 ⟨p, q, hr⟩
  | nil => rw [hl, hr] at h6; cases h6
  | leaf k' v' => rw [← hl, ← hr]; exact both k k' (by rw [hl]; simp [Trie.keys]) (by rw [hr]; simp [Trie.keys])
termination_by SizeOf.sizeOf l + SizeOf.sizeOf r
decreasing_by
 rcases hx with h | h <;> (have := congrArg SizeOf.sizeOf h; simp at this; omega)
theorem trie_one : ∀ {t u : Trie} {d : Nat}, t.wf d → u.wf d → t.full → u.full → (∀ e, IsD e → findT e d t = findT e d u) → t = u
 | .nil, u, d, ht, hu, ft, fu, h => by
  by_cases hn : u = .nil
  ·exact hn.symm
  ·obtain ⟨k, hk⟩ := keys_some hu hn
   obtain ⟨h1, h2⟩ := findT_mem hu fu hk
   exact absurd (h k h1).symm h2
 | .leaf k v, u, d, ht, hu, ft, fu, h => by
  have only : ∀ e ∈ u.keys, e = k := fun e he => by
   obtain ⟨h1, h2⟩ := findT_mem hu fu he
   rw [← h e h1] at h2
   by_cases hk : k = e
   ·exact hk.symm
   ·exact absurd (if_neg hk) h2
  have hv := h k ht.1
  simp only [findT, if_true] at hv
  cases u with
  | nil => exact absurd hv ft
  | leaf k' v' =>
   obtain rfl := only k' (by simp [Trie.keys])
   simp only [findT, if_true] at hv
   rw [hv]
  | fork l r =>
   obtain ⟨a, b, ha, hb, hne⟩ := keys_two hu
   exact absurd ((only a ha).trans (only b hb).symm) hne
 | .fork l r, .nil, d, ht, hu, ft, fu, h => by
  obtain ⟨a, _, ha, _⟩ := keys_two ht
  obtain ⟨h1, h2⟩ := findT_mem ht ft ha
  exact absurd (h a h1) h2
 | .fork l r, .leaf k v, d, ht, hu, ft, fu, h => by
  obtain ⟨a, b, ha, hb, hne⟩ := keys_two ht
  have only : ∀ e ∈ (Trie.fork l r).keys, e = k := fun e he => by
   obtain ⟨h1, h2⟩ := findT_mem ht ft he
   rw [h e h1] at h2
   by_cases hk : k = e
   ·exact hk.symm
   ·exact absurd (if_neg hk) h2
  exact absurd ((only a ha).trans (only b hb).symm) hne
 | .fork l r, .fork l' r', d, ht, hu, ft, fu, h => by
  obtain ⟨_, a2, a3, a4, a5, _⟩ := ht
  obtain ⟨_, b2, b3, b4, b5, _⟩ := hu
  have e1 : l = l' := trie_one a2 b2 ft.1 fu.1 fun e he => by
   by_cases hb : bitN e d = true
   ·rw [findT_no (fun hm => by rw [a4 e hm] at hb; cases hb), findT_no (fun hm => by rw [b4 e hm] at hb; cases hb)]
   ·have := h e he
    simpa only [findT, if_neg hb] using this
  have e2 : r = r' := trie_one a3 b3 ft.2 fu.2 fun e he => by
   by_cases hb : bitN e d = true
   ·have := h e he
    simpa only [findT, if_pos hb] using this
   ·rw [findT_no (fun hm => hb (a5 e hm)), findT_no (fun hm => hb (b5 e hm))]
  rw [e1, e2]
/-! What a table has -/
theorem nodup_le {α : Type} [DecidableEq α] : ∀ {l m : List α}, l.Nodup → (∀ x ∈ l, x ∈ m) → l.length ≤ m.length
 | [], _, _, _ => Nat.zero_le _
 | x :: l, m, hn, h => by
  have h1 : x ∈ m := h x List.mem_cons_self
  have hn' := List.nodup_cons.1 hn
  have h2 : ∀ y ∈ l, y ∈ m.erase x := fun y hy => by
   have hne : y ≠ x := fun e => hn'.1 (by rw [← e]; exact hy)
   exact (List.mem_erase_of_ne hne).2 (h y (List.mem_cons_of_mem _ hy))
  have h3 := nodup_le hn'.2 h2
  have h4 := List.length_erase_of_mem h1
  have h5 : 0 < m.length := List.length_pos_of_mem h1
  simp only [List.length_cons]
  omega
theorem Sorted.nodup {ks : List ByteArray} (h : Sorted ks) : ks.Nodup := List.Pairwise.imp (fun hab e => by rw [e, slt_irrefl] at hab; cases hab) h
theorem Sorted.one {ks ms : List ByteArray} (h : Sorted ks) (h2 : Sorted ms) (he : ∀ k, k ∈ ks ↔ k ∈ ms) : ks = ms :=
 List.Perm.eq_of_pairwise (le := fun a b => slt a b = true) (fun a b _ _ x y => absurd (slt_trans x y) (by rw [slt_irrefl]; decide)) h h2 ((List.perm_ext_iff_of_nodup h.nodup h2.nodup).2 he)
def TabD.cont (c : TabD) : ByteArray → List Nat := fun k => ((getK c.vals k).map (·.2)).getD []
structure GoodT (K : List W32) (c : TabD) : Prop where
 wf : c.wf K c.vals.length
 nd : (c.vals.map (·.1)).Nodup
 tree : ∀ d, IsD d → findT d 0 c.tree = c.lastD K d
 full : c.tree.full
theorem TabD.wf.least {K : List W32} {n : Nat} {c : TabD} (h : c.wf K n) : c.wf K c.vals.length := by
 refine ⟨h.vals, fun p hp => ?_, h.back, h.node, h.tree, h.keys⟩
 obtain ⟨h1, h2, _, h4, h5⟩ := h.ofs p hp
 refine ⟨h1, h2, ?_, h4, h5⟩
 have := nodup_le (m := c.vals.map (·.1)) (Sorted.nodup h2) fun k hk => by
  obtain ⟨q, hq, rfl⟩ := mem_getK (h5 k hk).2
  exact List.mem_map.2 ⟨q, hq, rfl⟩
 simpa using this
theorem cont_some {K : List W32} {n : Nat} {c : TabD} (h : c.wf K n) (k : ByteArray) : c.cont k ≠ [] ↔ (getK c.vals k).isSome = true := by
 unfold TabD.cont
 cases hg : getK c.vals k with
 | none => simp
 | some y =>
  have := (h.vals _ (getK_mem hg)).2.2.1
  simpa using this
theorem lastD_eq {K : List W32} {n m : Nat} {c c' : TabD} (hw : c.wf K n) (hw' : c'.wf K m) {d : List Nat} (h : ∀ k, dig K (strN k) = d → c.cont k = c'.cont k) : c.lastD K d = c'.lastD K d := by
 obtain ⟨_, s1, _, m1⟩ := hw.at d
 obtain ⟨_, s2, _, m2⟩ := hw'.at d
 have e : (c.at d).2 = (c'.at d).2 := Sorted.one s1 s2 fun k => by
  constructor
  ·intro hk
   obtain ⟨h1, h2⟩ := m1 k hk
   have h3 := (cont_some hw k).2 h2
   rw [h k h1] at h3
   have h4 := (hw'.there k).2 ((cont_some hw' k).1 h3)
   rw [h1] at h4
   exact h4
  ·intro hk
   obtain ⟨h1, h2⟩ := m2 k hk
   have h3 := (cont_some hw' k).2 h2
   rw [← h k h1] at h3
   have h4 := (hw.there k).2 ((cont_some hw k).1 h3)
   rw [h1] at h4
   exact h4
 unfold TabD.lastD
 rw [← e]
 cases hl : (c.at d).2.getLast? with
 | none => rfl
 | some k =>
  have hk := List.mem_of_getLast? hl
  have := h k (m1 k hk).1
  show dig K (c.cont k) = dig K (c'.cont k)
  rw [this]
theorem lastD_isD (K : List W32) (c : TabD) (d : List Nat) : IsD (c.lastD K d) := by
 unfold TabD.lastD
 split
 ·exact IsD.zd
 ·exact IsD.dig _ _
theorem LayOk.cont {K : List W32} {n : Nat} {c c' : TabD} {key : ByteArray} {bs : List Nat} (h : LayOk K n c key bs c') : c'.cont = fun k => if k = key then bs else c.cont k := by
 funext k
 unfold TabD.cont
 by_cases hb : bs = []
 ·rw [h.del hb, getK_del]
  by_cases hk : k = key
  ·rw [if_pos hk, if_pos hk, hb]; rfl
  ·rw [if_neg hk, if_neg hk]
 ·obtain ⟨x, hx⟩ := h.put hb
  rw [hx, getK_put]
  by_cases hk : k = key
  ·rw [if_pos hk, if_pos hk]; rfl
  ·rw [if_neg hk, if_neg hk]
theorem putK_nodup {l : List (KV ByteArray)} {x : ByteArray} {v : Value} {bs : List Nat} (h : (l.map (·.1)).Nodup) : ((putK l x v bs).map (·.1)).Nodup := by
 unfold putK
 split
 ·rw [List.map_map]
  have e : l.map ((fun p : KV ByteArray => p.1) ∘ fun p => if p.1 = x then (x, v, bs) else p) = l.map (·.1) := by
   apply List.map_congr_left
   intro p _
   simp only [Function.comp]
   split
   ·rename_i h; exact h.symm
   ·rfl
  rw [e]
  exact h
 ·rename_i hx
  rw [List.map_append, List.nodup_append]
  refine ⟨h, by simp, fun a ha b hb e => hx ?_⟩
  have : b = x := by simpa using hb
  rw [← this, ← e]
  exact ha
theorem GoodT.lay {K : List W32} {n : Nat} {c c' : TabD} {key : ByteArray} {bs : List Nat} (hg : GoodT K c) (h : LayOk K n c key bs c') : GoodT K c' := by
 have hc := h.cont
 refine ⟨h.wf.least, ?_, fun d hd => ?_, ?_⟩
 ·by_cases hb : bs = []
  ·rw [h.del hb]
   exact hg.nd.sublist (List.filter_sublist.map _)
  ·obtain ⟨x, hx⟩ := h.put hb
   rw [hx]
   exact putK_nodup hg.nd
 ·rw [h.tree, findT_put (IsD.dig K (strN key)) (lastD_isD K c' _) d 256 0 c.tree rfl hg.wf.tree (along_zero _ _)]
  by_cases hd2 : d = dig K (strN key)
  ·rw [if_pos hd2, hd2]
  ·rw [if_neg hd2, hg.tree d hd]
   refine lastD_eq hg.wf h.wf fun k hk => ?_
   rw [hc]
   exact (if_neg (fun e => hd2 (by rw [← hk, e]))).symm
 ·rw [h.tree]
  exact putT_full 256 c.tree hg.full
theorem GoodT.one {K : List W32} {c c' : TabD} (hg : GoodT K c) (hg' : GoodT K c') (h : c.cont = c'.cont) : c.tree = c'.tree ∧ c.vals.length = c'.vals.length := by
 refine ⟨trie_one hg.wf.tree hg'.wf.tree hg.full hg'.full fun e he => ?_, ?_⟩
 ·rw [hg.tree e he, hg'.tree e he]
  exact lastD_eq hg.wf hg'.wf fun k _ => by rw [h]
 ·have key : ∀ {c c' : TabD}, GoodT K c → GoodT K c' → c.cont = c'.cont → c.vals.length ≤ c'.vals.length := fun {c c'} hg hg' h => by
   have := nodup_le (m := c'.vals.map (·.1)) hg.nd fun k hk => by
    obtain ⟨q, hq, rfl⟩ := List.mem_map.1 hk
    have h1 := (cont_some hg.wf q.1).2 (getK_in hq)
    rw [h] at h1
    obtain ⟨q', hq', e⟩ := mem_getK ((cont_some hg'.wf q.1).1 h1)
    exact List.mem_map.2 ⟨q', hq', e⟩
   simpa using this
  have h1 := key hg hg' h
  have h2 := key hg' hg h.symm
  omega
structure AllD (f : ByteArray → List Nat) (l : List (ByteArray × List Nat)) : Prop where
 rise : l.Pairwise fun a b => slt a.1 b.1 = true
 mem : ∀ p ∈ l, f p.1 = p.2 ∧ p.2 ≠ []
 all : ∀ k, f k ≠ [] → k ∈ l.map (·.1)
theorem AllD.keys {f : ByteArray → List Nat} {l : List (ByteArray × List Nat)} (h : AllD f l) : Sorted (l.map (·.1)) := List.pairwise_map.2 h.rise
theorem AllD.one {f : ByteArray → List Nat} {l m : List (ByteArray × List Nat)} (h : AllD f l) (h2 : AllD f m) : l = m := by
 have key : ∀ {l m : List (ByteArray × List Nat)}, AllD f l → AllD f m → ∀ k, k ∈ l.map (·.1) → k ∈ m.map (·.1) := fun {l m} h h2 k hk => by
  obtain ⟨p, hp, rfl⟩ := List.mem_map.1 hk
  obtain ⟨h3, h4⟩ := h.mem p hp
  exact h2.all p.1 (by rw [h3]; exact h4)
 have e := Sorted.one h.keys h2.keys fun k => ⟨key h h2 k, key h2 h k⟩
 have f1 : ∀ {l : List (ByteArray × List Nat)}, AllD f l → l = (l.map (·.1)).map fun k => (k, f k) := fun {l} h => by
  rw [List.map_map]
  conv => lhs; rw [← List.map_id l]
  apply List.map_congr_left
  intro p hp
  show p = (p.1, f p.1)
  rw [(h.mem p hp).1]
 rw [f1 h, f1 h2, e]
def ordK (V : List (KV ByteArray)) (ks : List ByteArray) : List PairD := ks.map fun k => ⟨k, ((getK V k).map (·.1)).getD (.slice none 0 0), ((getK V k).map (·.2)).getD []⟩
theorem ordK_all {K : List W32} {c : TabD} (hg : GoodT K c) {ss : List (List UInt8)} (hp : ss.Perm (c.vals.map fun p => p.1.data.toList)) :
 AllD c.cont ((ordK c.vals ((ss.mergeSort leB).map strOfB)).map PairD.e) ∧ (ordK c.vals ((ss.mergeSort leB).map strOfB)).length = c.vals.length ∧ ∀ p ∈ ordK c.vals ((ss.mergeSort leB).map strOfB), getK c.vals p.key = some (p.v, p.bs) := by
 obtain ⟨ks, hks⟩ : ∃ ks, ks = (ss.mergeSort leB).map strOfB := ⟨_, rfl⟩
 have hin : ∀ k, k ∈ ks ↔ (getK c.vals k).isSome = true := fun k => by
  rw [hks]
  constructor
  ·intro hk
   obtain ⟨x, hx, rfl⟩ := List.mem_map.1 hk
   obtain ⟨p, hpm, e⟩ := List.mem_map.1 (hp.mem_iff.1 ((List.mergeSort_perm ss leB).mem_iff.1 hx))
   have e2 : p.1 = strOfB x := data_inj e
   rw [← e2]
   exact getK_in hpm
  ·intro hk
   obtain ⟨q, hq, rfl⟩ := mem_getK hk
   exact List.mem_map.2 ⟨q.1.data.toList, (List.mergeSort_perm ss leB).mem_iff.2 (hp.mem_iff.2 (List.mem_map.2 ⟨q, hq, rfl⟩)), rfl⟩
 have hsd : ks.map (fun k => k.data.toList) = ss.mergeSort leB := by
  rw [hks, List.map_map]
  exact List.map_id'' (fun _ => rfl) _
 have hsn : (ss.mergeSort leB).Nodup := by
  refine (List.mergeSort_perm ss leB).nodup_iff.2 (hp.nodup_iff.2 ?_)
  have := List.pairwise_map.1 hg.nd
  exact List.pairwise_map.2 (this.imp fun hne e => hne (data_inj e))
 have hsort : Sorted ks := by
  have h1 : (ks.map fun k => k.data.toList).Pairwise fun x y => leB x y = true ∧ x ≠ y := by
   rw [hsd]
   exact List.pairwise_and_iff.2 ⟨leB_pair ss, hsn⟩
  refine (List.pairwise_map.1 h1).imp fun {a b} h => ?_
  obtain ⟨h2, h3⟩ := h
  rw [slt_eq]
  simp only [leB, decide_eq_true_eq] at h2 ⊢
  by_cases h4 : a.data.toList < b.data.toList
  ·exact h4
  ·exact absurd (List.le_antisymm h2 (List.not_lt.1 h4)) h3
 rw [← hks]
 have hget : ∀ p ∈ ordK c.vals ks, p.key ∈ ks ∧ getK c.vals p.key = some (p.v, p.bs) := fun p hp => by
  obtain ⟨k, hk, rfl⟩ := List.mem_map.1 hp
  have h1 := (hin k).1 hk
  refine ⟨hk, ?_⟩
  show getK c.vals k = _
  cases hg : getK c.vals k with
  | none => rw [hg] at h1; cases h1
  | some y => rfl
 have hkeys : ((ordK c.vals ks).map PairD.e).map (·.1) = ks := by
  unfold ordK
  rw [List.map_map, List.map_map]
  exact List.map_id'' (fun _ => rfl) _
 refine ⟨⟨?_, fun p hp => ?_, fun k hk => ?_⟩, ?_, fun p hp => (hget p hp).2⟩
 ·have h := hsort
  rw [← hkeys] at h
  exact List.pairwise_map.1 h
 ·obtain ⟨q, hq, rfl⟩ := List.mem_map.1 hp
  obtain ⟨h1, h2⟩ := hget q hq
  have h3 : c.cont q.key = q.bs := by unfold TabD.cont; rw [h2]; rfl
  refine ⟨h3, ?_⟩
  have := (cont_some hg.wf q.key).2 (by rw [h2]; rfl)
  rw [h3] at this
  exact this
 ·rw [hkeys]
  exact (hin k).2 ((cont_some hg.wf k).1 hk)
 ·unfold ordK
  rw [List.length_map, hks, List.length_map, List.length_mergeSort, hp.length_eq, List.length_map]
def putC (f : ByteArray → List Nat) (key : ByteArray) (bs : List Nat) : ByteArray → List Nat := if mayI key bs.length = 0 then fun k => if k = key then bs else f k else f
def putsC (f : ByteArray → List Nat) (l : List PairD) : ByteArray → List Nat := l.foldl (fun f p => putC f p.key p.bs) f
theorem putsC_step {f : ByteArray → List Nat} {l : List PairD} {i : Nat} {p : PairD} (h : l[i]? = some p) : putsC f (l.take (i + 1)) = putC (putsC f (l.take i)) p.key p.bs := by
 unfold putsC
 rw [List.take_add_one, h, List.foldl_append]
 rfl
theorem LayOk.len {K : List W32} {n : Nat} {c c' : TabD} {key : ByteArray} {bs : List Nat} (h : LayOk K n c key bs c') : c'.vals.length ≤ c.vals.length + if bs = [] then 0 else 1 := by
 by_cases hb : bs = []
 ·rw [h.del hb, if_pos hb]
  exact List.length_filter_le _ _
 ·obtain ⟨x, hx⟩ := h.put hb
  rw [hx, if_neg hb]
  unfold putK
  split
  ·rw [List.length_map]; omega
  ·rw [List.length_append]; exact Nat.le_refl _
end Go.Sl
