import Derived.Test.YtjkldhalmglkpaaDoorZMk
import Derived.Test.YtjkldhalmglkpaaDoorZPk
namespace Go.Sl
open Go
inductive Trie where
 | nil
 | leaf (k v : List Nat)
 | fork (l r : Trie)
def zd : List Nat := List.replicate 32 0
def bitN (key : List Nat) (i : Nat) : Bool := key.getD (i / 8) 0 / 2 ^ (7 - i % 8) % 2 == 1
def Trie.sum (K : List W32) : Trie → List Nat
 | .nil => zd
 | .leaf k v => dig K (2 :: (k ++ v))
 | .fork l r => dig K (3 :: (l.sum K ++ r.sum K))
def Trie.keys : Trie → List (List Nat)
 | .nil => []
 | .leaf k _ => [k]
 | .fork l r => l.keys ++ r.keys
def joinT : Trie → Trie → Trie
 | .nil, .nil => .nil
 | .nil, .leaf k v => .leaf k v
 | .leaf k v, .nil => .leaf k v
 | l, r => .fork l r
def putB (key value : List Nat) : Trie → Option Trie
 | .nil => some (if value = zd then .nil else .leaf key value)
 | .leaf k v => if k = key then some (if value = zd then .nil else .leaf key value) else if value = zd then some (.leaf k v) else none
 | .fork _ _ => none
def halves : Trie → Nat → Trie × Trie
 | .nil, _ => (.nil, .nil)
 | .leaf k v, d => if bitN k d then (.nil, .leaf k v) else (.leaf k v, .nil)
 | .fork l r, _ => (l, r)
def putT (key value : List Nat) : Nat → Trie → Trie
 | 0, t => (putB key value t).getD t
 | f + 1, t => match putB key value t with
  | some t' => t'
  | none => if bitN key (255 - f) then joinT (halves t (255 - f)).1 (putT key value f (halves t (255 - f)).2) else joinT (putT key value f (halves t (255 - f)).1) (halves t (255 - f)).2
def findT (key : List Nat) : Nat → Trie → List Nat
 | _, .nil => zd
 | _, .leaf k v => if k = key then v else zd
 | d, .fork l r => if bitN key d then findT key (d + 1) r else findT key (d + 1) l
structure IsD (d : List Nat) : Prop where
 len : d.length = 32
 byte : ∀ b ∈ d, b < 256
theorem IsD.dig (K : List W32) (m : List Nat) : IsD (dig K m) := ⟨dig_len K m, dig_byte K m⟩
theorem IsD.zd : IsD zd := ⟨rfl, by simp [Go.Sl.zd]⟩
theorem bits_byte {x y : Nat} (hx : x < 256) (hy : y < 256) (h : ∀ j, j < 8 → (x / 2 ^ (7 - j) % 2 == 1) = (y / 2 ^ (7 - j) % 2 == 1)) : x = y := by
 have h0 := h 0 (by decide)
 have h1 := h 1 (by decide)
 have h2 := h 2 (by decide)
 have h3 := h 3 (by decide)
 have h4 := h 4 (by decide)
 have h5 := h 5 (by decide)
 have h6 := h 6 (by decide)
 have h7 := h 7 (by decide)
 simp only [Nat.reducePow, Nat.reduceSub] at h0 h1 h2 h3 h4 h5 h6 h7
 have c : ∀ a b : Nat, (a % 2 == 1) = (b % 2 == 1) → a % 2 = b % 2 := by
  intro a b hab
  rcases Nat.mod_two_eq_zero_or_one a with ha | ha <;> rcases Nat.mod_two_eq_zero_or_one b with hb | hb <;> simp [ha, hb] at hab ⊢
 have c0 := c _ _ h0
 have c1 := c _ _ h1
 have c2 := c _ _ h2
 have c3 := c _ _ h3
 have c4 := c _ _ h4
 have c5 := c _ _ h5
 have c6 := c _ _ h6
 have c7 := c _ _ h7
 omega
theorem bits_inj {a b : List Nat} (ha : IsD a) (hb : IsD b) (h : ∀ i, i < 256 → bitN a i = bitN b i) : a = b := by
 apply List.ext_getElem (by rw [ha.len, hb.len])
 intro i h1 h2
 have hi : i < 32 := by rw [ha.len] at h1; exact h1
 refine bits_byte (ha.byte _ (List.getElem_mem h1)) (hb.byte _ (List.getElem_mem h2)) fun j hj => ?_
 have := h (i * 8 + j) (by omega)
 unfold bitN at this
 rw [show (i * 8 + j) / 8 = i by omega, show (i * 8 + j) % 8 = j by omega] at this
 simpa [List.getD, List.getElem?_eq_getElem h1, List.getElem?_eq_getElem h2] using this
def Trie.wf : Nat → Trie → Prop
 | _, .nil => True
 | _, .leaf k v => IsD k ∧ IsD v
 | d, .fork l r => d < 256 ∧ l.wf (d + 1) ∧ r.wf (d + 1) ∧ (∀ k ∈ l.keys, bitN k d = false) ∧ (∀ k ∈ r.keys, bitN k d = true) ∧ joinT l r = .fork l r
def Trie.along (d : Nat) (key : List Nat) (t : Trie) : Prop := ∀ k ∈ t.keys, ∀ i, i < d → bitN k i = bitN key i
theorem joinT_keys (l r : Trie) : (joinT l r).keys = l.keys ++ r.keys := by
 cases l <;> cases r <;> rfl
theorem joinT_wf {d : Nat} {l r : Trie} (hd : d < 256) (hl : l.wf (d + 1)) (hr : r.wf (d + 1)) (h0 : ∀ k ∈ l.keys, bitN k d = false) (h1 : ∀ k ∈ r.keys, bitN k d = true) : (joinT l r).wf d := by
 cases l <;> cases r <;> first | trivial | exact hr | exact hl | exact ⟨hd, hl, hr, h0, h1, rfl⟩
theorem halves_keys (t : Trie) (d : Nat) : (halves t d).1.keys ++ (halves t d).2.keys = t.keys := by
 cases t with
 | nil => rfl
 | leaf k v => simp only [halves]; split <;> rfl
 | fork l r => rfl
theorem halves_wf {t : Trie} {d : Nat} (h : t.wf d) : (halves t d).1.wf (d + 1) ∧ (halves t d).2.wf (d + 1) ∧ (∀ k ∈ (halves t d).1.keys, bitN k d = false) ∧ (∀ k ∈ (halves t d).2.keys, bitN k d = true) := by
 cases t with
 | nil => exact ⟨trivial, trivial, by simp [halves, Trie.keys], by simp [halves, Trie.keys]⟩
 | leaf k v =>
  simp only [halves]
  by_cases hb : bitN k d = true
  ·rw [if_pos hb]; exact ⟨trivial, h, by simp [Trie.keys], by simp [Trie.keys, hb]⟩
  ·rw [if_neg hb]; exact ⟨h, trivial, by simp [Trie.keys]; simpa using hb, by simp [Trie.keys]⟩
 | fork l r => exact ⟨h.2.1, h.2.2.1, h.2.2.2.1, h.2.2.2.2.1⟩
theorem along_next {t : Trie} {d : Nat} {key : List Nat} (ha : t.along d key) (h : ∀ k ∈ t.keys, bitN k d = bitN key d) : t.along (d + 1) key := fun k hk i hi => by
 by_cases e : i = d
 ·subst e; exact h k hk
 ·exact ha k hk i (by omega)
theorem halves_along {t : Trie} {d : Nat} {key : List Nat} (ha : t.along d key) : (halves t d).1.along d key ∧ (halves t d).2.along d key := by
 have e := halves_keys t d
 exact ⟨fun k hk => ha k (by rw [← e]; exact List.mem_append_left _ hk), fun k hk => ha k (by rw [← e]; exact List.mem_append_right _ hk)⟩
theorem putB_none {t : Trie} {d : Nat} {key value : List Nat} (hk : IsD key) (h : t.wf d) (ha : t.along d key) (hn : putB key value t = none) : d < 256 := by
 cases t with
 | nil => cases hn
 | leaf k v =>
  simp only [putB] at hn
  split at hn
  ·cases hn
  ·rename_i hne
   refine Nat.lt_of_not_le fun hd => hne (bits_inj h.1 hk fun i hi => ha k (by simp [Trie.keys]) i (by omega))
 | fork l r => exact h.1
theorem putB_wf {t t' : Trie} {d : Nat} {key value : List Nat} (hk : IsD key) (hv : IsD value) (h : t.wf d) (hn : putB key value t = some t') : t'.wf d ∧ ∀ k ∈ t'.keys, k ∈ t.keys ∨ k = key := by
 have one : (if value = zd then Trie.nil else .leaf key value).wf d ∧ ∀ k ∈ (if value = zd then Trie.nil else .leaf key value).keys, k = key := by
  split
  ·exact ⟨trivial, by simp [Trie.keys]⟩
  ·exact ⟨⟨hk, hv⟩, by simp [Trie.keys]⟩
 cases t with
 | nil => cases hn; exact ⟨one.1, fun k hk => .inr (one.2 k hk)⟩
 | leaf k v =>
  simp only [putB] at hn
  split at hn
  ·cases hn; exact ⟨one.1, fun k hk => .inr (one.2 k hk)⟩
  ·split at hn
   ·cases hn; exact ⟨h, fun k hk => .inl hk⟩
   ·cases hn
 | fork l r => cases hn
theorem putT_some {key value : List Nat} {t t' : Trie} (h : putB key value t = some t') (f : Nat) : putT key value f t = t' := by
 cases f <;> simp [putT, h]
theorem putT_none {key value : List Nat} {t : Trie} (h : putB key value t = none) (f : Nat) :
 putT key value (f + 1) t = if bitN key (255 - f) then joinT (halves t (255 - f)).1 (putT key value f (halves t (255 - f)).2) else joinT (putT key value f (halves t (255 - f)).1) (halves t (255 - f)).2 := by
 simp [putT, h]
theorem putT_wf {key value : List Nat} (hk : IsD key) (hv : IsD value) : ∀ (f d : Nat) (t : Trie), f + d = 256 → t.wf d → t.along d key → (putT key value f t).wf d ∧ ∀ k ∈ (putT key value f t).keys, k ∈ t.keys ∨ k = key
 | 0, d, t, hd, h, ha => by
  cases hb : putB key value t with
  | none => exact absurd (putB_none hk h ha hb) (by omega)
  | some t' => simpa [putT, hb] using putB_wf hk hv h hb
 | f + 1, d, t, hd, h, ha => by
  have ed : 255 - f = d := by omega
  cases hb : putB key value t with
  | some t' => simpa [putT, hb] using putB_wf hk hv h hb
  | none =>
   have hlt := putB_none hk h ha hb
   obtain ⟨h1, h2, h3, h4⟩ := halves_wf h
   obtain ⟨a1, a2⟩ := halves_along ha
   have hkeys := halves_keys t d
   simp only [putT, hb, ed]
   by_cases hbit : bitN key d = true
   ·rw [if_pos hbit]
    obtain ⟨g1, g2⟩ := putT_wf hk hv f (d + 1) _ (by omega) h2 (along_next a2 fun k hm => by rw [h4 k hm, hbit])
    refine ⟨joinT_wf hlt h1 g1 h3 fun k hm => ?_, fun k hm => ?_⟩
    ·rcases g2 k hm with e | e
     ·exact h4 k e
     ·rw [e]; exact hbit
    ·rw [joinT_keys] at hm
     rcases List.mem_append.1 hm with hm | hm
     ·exact .inl (by rw [← hkeys]; exact List.mem_append_left _ hm)
     ·rcases g2 k hm with e | e
      ·exact .inl (by rw [← hkeys]; exact List.mem_append_right _ e)
      ·exact .inr e
   ·rw [if_neg hbit]
    have hbit' : bitN key d = false := by simpa using hbit
    obtain ⟨g1, g2⟩ := putT_wf hk hv f (d + 1) _ (by omega) h1 (along_next a1 fun k hm => by rw [h3 k hm, hbit'])
    refine ⟨joinT_wf hlt g1 h2 (fun k hm => ?_) h4, fun k hm => ?_⟩
    ·rcases g2 k hm with e | e
     ·exact h3 k e
     ·rw [e]; exact hbit'
    ·rw [joinT_keys] at hm
     rcases List.mem_append.1 hm with hm | hm
     ·rcases g2 k hm with e | e
      ·exact .inl (by rw [← hkeys]; exact List.mem_append_left _ e)
      ·exact .inr e
     ·exact .inl (by rw [← hkeys]; exact List.mem_append_right _ hm)
theorem along_zero (key : List Nat) (t : Trie) : t.along 0 key := fun _ _ i hi => absurd hi (by omega)

theorem Trie.sum_len (K : List W32) (t : Trie) : (t.sum K).length = 32 := by
 cases t <;> first | rfl | exact dig_len _ _
theorem Trie.sum_is (K : List W32) (t : Trie) : IsD (t.sum K) := by
 cases t <;> first | exact IsD.zd | exact IsD.dig _ _
theorem findT_is (key : List Nat) : ∀ (d : Nat) (t : Trie), t.wf d → IsD (findT key d t)
 | _, .nil, _ => IsD.zd
 | _, .leaf k v, h => by simp only [findT]; split; exact h.2; exact IsD.zd
 | d, .fork l r, h => by simp only [findT]; split; exact findT_is key _ r h.2.2.1; exact findT_is key _ l h.2.1

/-! A block of cells that nobody writes -/
def rcel (b : Nat) (t : TypeId) (cs : List Value) : HP := rob b (.cells ⟨cs⟩ t (0, 0))
theorem CelN.hereR {L : List HP} {b o : Nat} {t : TypeId} {cs vs : List Value} (h : (cs.drop o).take vs.length = vs) : CelN (rcel b t cs :: L) b o vs := fun w hs j u hj => by
 refine cell_of_heap (Sat.rob_heap hs) ?_
 rw [← h] at hj
 rw [List.getElem?_take] at hj
 split at hj
 ·simpa using hj
 ·cases hj
theorem rcel_of {L : List HP} {b : Nat} {t : TypeId} {cs : List Value} : Ent (cel b t cs :: L) (rcel b t cs :: L) := fun _ _ hs => hs.share

/-! A part's blocks -/
def nodeC (sum k v : List Nat) (l r : Value) (shut : Bool) : List Value := bvs sum ++ (bvs k ++ (bvs v ++ [l, r, .bool shut]))
def ptrV (b : Nat) : Value := .pointer (some ⟨b, 0, none⟩)
theorem fill_part {a m c m' : List Value} {off n : Nat} {v : Value} {ps : List (Nat × Nat × Value)} (ha : a.length = off) (hm : m.length = n) (hv : v.cells.toList = m') (hm' : m'.length = n) : fillL (a ++ (m ++ c)) ((off, n, v) :: ps) = fillL (a ++ (m' ++ c)) ps := by
 have h1 : v.cells.size = n := by rw [← Array.length_toList, hv, hm']
 have h2 : off + n ≤ (a ++ (m ++ c)).length := by simp; omega
 rw [fillL, if_pos ⟨h1, h2⟩, hv]
 have e1 : (a ++ (m ++ c)).take off = a := by rw [← ha, List.take_left]
 have e2 : (a ++ (m ++ c)).drop (off + n) = c := by
  rw [← List.append_assoc, ← ha, ← hm, ← List.length_append, List.drop_left]
 rw [e1, e2, List.append_assoc]
theorem fill_leaf {s k v : List Nat} (hs : s.length = 32) (hk : k.length = 32) (hv : v.length = 32) : fillL (nodeC zd zd zd (.pointer none) (.pointer none) false) [(0, 32, .agg ⟨bvs s⟩), (32, 32, .agg ⟨bvs k⟩), (64, 32, .agg ⟨bvs v⟩)] = some (nodeC s k v (.pointer none) (.pointer none) false) := by
 unfold nodeC
 have e1 := fill_part (a := []) (m := bvs zd) (m' := bvs s) (c := bvs zd ++ (bvs zd ++ [Value.pointer none, Value.pointer none, Value.bool false])) (v := .agg ⟨bvs s⟩) (ps := [(32, 32, .agg ⟨bvs k⟩), (64, 32, .agg ⟨bvs v⟩)]) (off := 0) rfl (n := 32) rfl rfl (by rw [bvs_len, hs])
 rw [List.nil_append, List.nil_append] at e1
 rw [e1]
 have e2 := fill_part (a := bvs s) (m := bvs zd) (m' := bvs k) (c := bvs zd ++ [Value.pointer none, Value.pointer none, Value.bool false]) (v := .agg ⟨bvs k⟩) (ps := [(64, 32, .agg ⟨bvs v⟩)]) (off := 32) (by rw [bvs_len, hs]) (n := 32) rfl rfl (by rw [bvs_len, hk])
 rw [e2]
 have e3 := fill_part (a := bvs s ++ bvs k) (m := bvs zd) (m' := bvs v) (c := [Value.pointer none, Value.pointer none, Value.bool false]) (v := .agg ⟨bvs v⟩) (ps := []) (off := 64) (by rw [List.length_append, bvs_len, bvs_len, hs, hk]) (n := 32) rfl rfl (by rw [bvs_len, hv])
 rw [List.append_assoc, List.append_assoc] at e3
 rw [e3]
 rfl
theorem fill_fork {s : List Nat} {l r : Value} (hs : s.length = 32) (hl : l.cells = #[l]) (hr : r.cells = #[r]) : fillL (nodeC zd zd zd (.pointer none) (.pointer none) false) [(0, 32, .agg ⟨bvs s⟩), (96, 1, l), (97, 1, r)] = some (nodeC s zd zd l r false) := by
 unfold nodeC
 have e1 := fill_part (a := []) (m := bvs zd) (m' := bvs s) (c := bvs zd ++ (bvs zd ++ [Value.pointer none, Value.pointer none, Value.bool false])) (v := .agg ⟨bvs s⟩) (ps := [(96, 1, l), (97, 1, r)]) (off := 0) rfl (n := 32) rfl rfl (by rw [bvs_len, hs])
 rw [List.nil_append, List.nil_append] at e1
 rw [e1]
 have e2 := fill_part (a := bvs s ++ (bvs zd ++ bvs zd)) (m := [Value.pointer none]) (m' := [l]) (c := [Value.pointer none, Value.bool false]) (v := l) (ps := [(97, 1, r)]) (off := 96) (by rw [List.length_append, bvs_len, hs]; rfl) (n := 1) rfl (by rw [hl]) rfl
 rw [List.append_assoc, List.append_assoc, List.append_assoc, List.append_assoc] at e2
 erw [e2]
 have e3 := fill_part (a := bvs s ++ (bvs zd ++ (bvs zd ++ [l]))) (m := [Value.pointer none]) (m' := [r]) (c := [Value.bool false]) (v := r) (ps := []) (off := 97) (by rw [List.length_append, bvs_len, hs]; rfl) (n := 1) rfl (by rw [hr]) rfl
 rw [List.append_assoc, List.append_assoc, List.append_assoc, List.append_assoc, List.append_assoc, List.append_assoc] at e3
 erw [e3]
 rfl
abbrev Bls := List (Nat × List Value)
def rcs (T : TypeId) (Bs : Bls) : List HP := Bs.map fun p => rcel p.1 T p.2
theorem rcs_app {T : TypeId} (As Bs : Bls) : rcs T (As ++ Bs) = rcs T As ++ rcs T Bs := by simp [rcs]
inductive NdB (K : List W32) (Bs : Bls) : Trie → Value → Prop where
 | nil : NdB K Bs .nil (.pointer none)
 | leaf (b : Nat) (k d : List Nat) (h : (b, nodeC (Trie.sum K (.leaf k d)) k d (.pointer none) (.pointer none) false) ∈ Bs) : NdB K Bs (.leaf k d) (ptrV b)
 | fork (b : Nat) (l r : Trie) (lv rv : Value) (h : (b, nodeC (Trie.sum K (.fork l r)) zd zd lv rv false) ∈ Bs) (hl : NdB K Bs l lv) (hr : NdB K Bs r rv) : NdB K Bs (.fork l r) (ptrV b)
theorem NdB.mono {K : List W32} {Bs Cs : Bls} (hL : ∀ p ∈ Bs, p ∈ Cs) {t : Trie} {v : Value} (h : NdB K Bs t v) : NdB K Cs t v := by
 induction h with
 | nil => exact .nil
 | leaf b k d h => exact .leaf b k d (hL _ h)
 | fork b l r lv rv h _ _ ih1 ih2 => exact .fork b l r lv rv (hL _ h) ih1 ih2
theorem NdB.app {K : List W32} {Bs : Bls} (Ns : Bls) {t : Trie} {v : Value} (h : NdB K Bs t v) : NdB K (Ns ++ Bs) t v := h.mono fun _ hp => List.mem_append_right _ hp
def BsG (L : List HP) (Bs : Bls) : Prop := ∀ p ∈ Bs, CelN L p.1 0 p.2
theorem BsG.right {L : List HP} {Bs : Bls} (h : BsG L Bs) (M : List HP) : BsG (M ++ L) Bs := fun p hp => (h p hp).right M
theorem BsG.left {L : List HP} {Bs : Bls} (h : BsG L Bs) (M : List HP) : BsG (L ++ M) Bs := fun p hp => (h p hp).left M
theorem BsG.tl {L : List HP} {Bs : Bls} {p : HP} (h : BsG L Bs) : BsG (p :: L) Bs := fun q hq => (h q hq).tl
theorem BsG.app {L : List HP} {Bs Ns : Bls} (h1 : BsG L Ns) (h2 : BsG L Bs) : BsG L (Ns ++ Bs) := fun p hp => by
 rcases List.mem_append.1 hp with h | h
 ·exact h1 p h
 ·exact h2 p h
theorem BsG.here {T : TypeId} : ∀ {Bs : Bls} {L : List HP}, BsG (rcs T Bs ++ L) Bs
 | [], _ => fun p hp => by cases hp
 | q :: Bs, L => fun p hp => by
  rcases List.mem_cons.1 hp with rfl | hp
  ·exact CelN.hereR (by simp)
  ·exact (BsG.here (T := T) (Bs := Bs) (L := L) p hp).tl
end Go.Sl
