import Derived.Test.YtjkldhalmglkpaaDoorSd
import Derived.Test.YtjkldhalmglkpaaDoorZSr
namespace Go.Proofs.YtjkldhalmglkpaaDoor
open Go Go.Sl
theorem nodeC_l {s k v : List Nat} {l r : Value} {b : Bool} (hs : s.length = 32) (hk : k.length = 32) (hv : v.length = 32) : (nodeC s k v l r b)[96]? = some l := by
 unfold nodeC
 rw [List.getElem?_append_right (by simp [bvs_len, hs]), List.getElem?_append_right (by simp [bvs_len, hs, hk]), List.getElem?_append_right (by simp [bvs_len, hs, hk, hv])]
 simp [bvs_len, hs, hk, hv]
theorem nodeC_r {s k v : List Nat} {l r : Value} {b : Bool} (hs : s.length = 32) (hk : k.length = 32) (hv : v.length = 32) : (nodeC s k v l r b)[97]? = some r := by
 unfold nodeC
 rw [List.getElem?_append_right (by simp [bvs_len, hs]), List.getElem?_append_right (by simp [bvs_len, hs, hk]), List.getElem?_append_right (by simp [bvs_len, hs, hk, hv])]
 simp [bvs_len, hs, hk, hv]
theorem nodeC_s {s k v : List Nat} {l r : Value} {b : Bool} (hs : s.length = 32) (hk : k.length = 32) (hv : v.length = 32) : (nodeC s k v l r b)[98]? = some (.bool b) := by
 unfold nodeC
 rw [List.getElem?_append_right (by simp [bvs_len, hs]), List.getElem?_append_right (by simp [bvs_len, hs, hk]), List.getElem?_append_right (by simp [bvs_len, hs, hk, hv])]
 simp [bvs_len, hs, hk, hv]
theorem nodeC_sum {s k v : List Nat} {l r : Value} {b : Bool} : ((nodeC s k v l r b).drop 0).take (bvs s).length = bvs s := by simp [nodeC]
theorem nodeC_key {s k v : List Nat} {l r : Value} {b : Bool} (hs : s.length = 32) : ((nodeC s k v l r b).drop 32).take (bvs k).length = bvs k := by
 have e : 32 = (bvs s).length := by rw [bvs_len, hs]
 unfold nodeC
 rw [e, List.drop_left, List.take_left]
theorem nodeC_val {s k v : List Nat} {l r : Value} {b : Bool} (hs : s.length = 32) (hk : k.length = 32) : ((nodeC s k v l r b).drop 64).take (bvs v).length = bvs v := by
 have e : 64 = (bvs s ++ bvs k).length := by rw [List.length_append, bvs_len, bvs_len, hs, hk]
 unfold nodeC
 rw [← List.append_assoc, e, List.drop_left, List.take_left]
section
variable {F : List HP} {b o : Nat} {s k v : List Nat} {l r : Value} {c : Bool}
theorem celn_l (h : CelN F b 0 (nodeC s k v l r c)) (hs : s.length = 32) (hk : k.length = 32) (hv : v.length = 32) : Cel F b 96 l := by simpa using h.one (nodeC_l (r := r) (b := c) hs hk hv)
theorem celn_r (h : CelN F b 0 (nodeC s k v l r c)) (hs : s.length = 32) (hk : k.length = 32) (hv : v.length = 32) : Cel F b 97 r := by simpa using h.one (nodeC_r (l := l) (b := c) hs hk hv)
theorem celn_s (h : CelN F b 0 (nodeC s k v l r c)) (hs : s.length = 32) (hk : k.length = 32) (hv : v.length = 32) : Cel F b 98 (.bool c) := by simpa using h.one (nodeC_s (l := l) (r := r) hs hk hv)
theorem celn_sum (h : CelN F b 0 (nodeC s k v l r c)) : CelN F b 0 (bvs s) := by simpa using h.part (i := 0) nodeC_sum
theorem celn_key (h : CelN F b 0 (nodeC s k v l r c)) (hs : s.length = 32) : CelN F b 32 (bvs k) := by simpa using h.part (i := 32) (nodeC_key hs)
theorem celn_val (h : CelN F b 0 (nodeC s k v l r c)) (hs : s.length = 32) (hk : k.length = 32) : CelN F b 64 (bvs v) := by simpa using h.part (i := 64) (nodeC_val hs hk)
end
def Trie.isLeaf : Trie → Bool
 | .leaf _ _ => true
 | _ => false
section
variable {K : List W32} (hk : K.length = 64) {Bs : Bls}
theorem single_spec (F : List HP) (hB : BsG F Bs) (t : Trie) (v : Value) (h : NdB K Bs t v) (d : Nat) (hw : t.wf d) : SpecF Tryd.prog 111 [v] F [] (fun r L => r = .bool (Trie.isLeaf t) ∧ L = []) := by
 cases h with
 | nil =>
  refine fun111.spec rfl ?_
  (conv=>whnf);repeat((with_reducible first|refine .tt ?_|refine .ff ?_|refine .ntt ?_|refine .nff ?_);conv=>whnf)
  exact ret_here ⟨rfl, rfl⟩
 | leaf b k d h =>
  have hc : CelN F b 0 _ := hB _ h
  have hs := Trie.sum_len K (.leaf k d)
  refine fun111.spec rfl ?_
  (conv=>whnf);repeat((with_reducible first|refine .tt ?_|refine .ntt ?_);conv=>whnf)
  refine LoadG.atF (celn_l hc hs hw.1.len hw.2.len) ?_
  (conv=>whnf);refine .tt ?_;(conv=>whnf);refine .tt ?_;(conv=>whnf);refine .tt ?_;(conv=>whnf);refine .tt ?_;(conv=>whnf);refine .tt ?_;(conv=>whnf);refine .tt ?_;(conv=>whnf)
  refine LoadG.atF (celn_r hc hs hw.1.len hw.2.len) ?_
  (conv=>whnf);refine .tt ?_;(conv=>whnf);refine .tt ?_;(conv=>whnf);refine .tt ?_;(conv=>whnf);refine .tt ?_;(conv=>whnf);refine .tt ?_;(conv=>whnf);refine .tt ?_;(conv=>whnf)
  refine LoadG.atF (celn_s hc hs hw.1.len hw.2.len) ?_
  (conv=>whnf);refine .tt ?_;(conv=>whnf);refine .tt ?_;(conv=>whnf)
  exact ret_here ⟨rfl, rfl⟩
 | fork b l r lv rv h hl hr =>
  have hc : CelN F b 0 _ := hB _ h
  have hs := Trie.sum_len K (.fork l r)
  refine fun111.spec rfl ?_
  (conv=>whnf);repeat((with_reducible first|refine .tt ?_|refine .ntt ?_);conv=>whnf)
  refine LoadG.atF (celn_l hc hs rfl rfl) ?_
  cases hl with
  | nil =>
   (conv=>whnf);refine .tt ?_;(conv=>whnf);refine .tt ?_;(conv=>whnf);refine .tt ?_;(conv=>whnf);refine .tt ?_;(conv=>whnf);refine .tt ?_;(conv=>whnf);refine .tt ?_;(conv=>whnf)
   refine LoadG.atF (celn_r hc hs rfl rfl) ?_
   cases hr with
   | nil => exact absurd hw.2.2.2.2.2 (by simp [joinT])
   | leaf =>
    (conv=>whnf);repeat((with_reducible first|refine .tt ?_|refine .ff ?_);conv=>whnf)
    exact ret_here ⟨rfl, rfl⟩
   | fork =>
    (conv=>whnf);repeat((with_reducible first|refine .tt ?_|refine .ff ?_);conv=>whnf)
    exact ret_here ⟨rfl, rfl⟩
  | leaf =>
   (conv=>whnf);repeat((with_reducible first|refine .tt ?_|refine .ff ?_|refine .ntt ?_|refine .nff ?_);conv=>whnf)
   exact ret_here ⟨rfl, rfl⟩
  | fork =>
   (conv=>whnf);repeat((with_reducible first|refine .tt ?_|refine .ff ?_|refine .ntt ?_|refine .nff ?_);conv=>whnf)
   exact ret_here ⟨rfl, rfl⟩
theorem and1b : ∀ y, y < 256 → decide (IntKind.u8.wrap ((BitVec.ofInt IntKind.u8.bits (y : Nat) &&& BitVec.ofInt IntKind.u8.bits (1 : Int)).toNat : Int) = 1) = (y % 2 == 1) := by decide +kernel
theorem bit_spec (F : List HP) (key : List Nat) (i : Nat) (hk : IsD key) (hi : i < 256) : SpecF Tryd.prog 117 [.agg ⟨bvs key⟩, .int .i64 i] F [] (fun r L => r = .bool (bitN key i) ∧ L = []) := by
 have hq : (i : Int).tdiv 8 = ((i / 8 : Nat) : Int) := rfl
 have hr : (i : Int).tmod 8 = ((i % 8 : Nat) : Int) := rfl
 have hl := hk.len
 have hlt : i / 8 < key.length := by omega
 refine fun117.spec rfl ?_
 conv=>whnf
 intro b2
 conv=>whnf
 refine SideG.of (by decide) ?_
 conv=>whnf
 refine ArithG.i64' _ hq (by omega) ?_
 conv=>whnf
 refine SideG.of (by omega) ?_
 conv=>whnf
 have hg : (bvs key)[0 + ((i / 8 : Nat) : Int).toNat * 1]? = some (bv (key.getD (i / 8) 0)) := by
  have e1 : 0 + ((i / 8 : Nat) : Int).toNat * 1 = i / 8 := by omega
  rw [e1]
  simp [bvs, List.getD, List.getElem?_eq_getElem hlt]
 refine LoadG.at (v := bv (key.getD (i / 8) 0)) (.here hg) ?_
 conv=>whnf
 refine SideG.of (by decide) ?_
 conv=>whnf
 refine ArithG.i64 (by omega) ?_
 conv=>whnf
 refine SideG.of (by omega) ?_
 conv=>whnf
 have hb : key.getD (i / 8) 0 < 256 := by
  simp only [List.getD, List.getElem?_eq_getElem hlt, Option.getD_some]
  exact hk.byte _ (List.getElem_mem hlt)
 have hsh : ((key.getD (i / 8) 0 : Nat) : Int).fdiv (2 ^ (min (7 - (i : Int).tmod 8).toNat IntKind.u8.bits)) = ((key.getD (i / 8) 0 / 2 ^ (7 - i % 8) : Nat) : Int) := by
  have e : min (7 - (i : Int).tmod 8).toNat IntKind.u8.bits = 7 - i % 8 := by
   rw [hr]
   show min (7 - ((i % 8 : Nat) : Int)).toNat 8 = 7 - i % 8
   omega
  rw [e, Int.fdiv_eq_ediv_of_nonneg _ (by exact_mod_cast Nat.zero_le _)]
  norm_cast
 refine ⟨[], Ent.nil _, ?_, rfl⟩
 have hq2 : key.getD (i / 8) 0 / 2 ^ (7 - i % 8) < 256 := Nat.lt_of_le_of_lt (Nat.div_le_self _ _) hb
 show Value.bool (decide (IntKind.u8.wrap ((BitVec.ofInt IntKind.u8.bits (((key.getD (i / 8) 0 : Nat) : Int).fdiv (2 ^ (min (7 - (i : Int).tmod 8).toNat IntKind.u8.bits))) &&& BitVec.ofInt IntKind.u8.bits (1 : Int)).toNat : Int) = 1)) = _
 rw [hsh, and1b _ hq2]
 rfl
theorem over_spec' (F : List HP) (hB : BsG F Bs) (t : Trie) (v : Value) (h : NdB K Bs t v) : SpecF Tryd.prog 76 [v] F [] (fun r L => r = .agg ⟨bvs (t.sum K)⟩ ∧ L = []) := by
 cases h with
 | nil =>
  refine fun76.spec rfl ?_
  conv=>whnf
  intro b2
  (conv=>whnf);refine .tt ?_;(conv=>whnf)
  refine BuildG.of rfl ?_
  conv=>whnf
  refine StoreG.at rfl (Upd.whole rfl (bvs_one zd)) ?_
  conv=>whnf
  refine LoadNG.at (vs := bvs zd) rfl .all ?_
  conv=>whnf
  exact ⟨[], Ent.nil _, rfl, rfl⟩
 | leaf b k d h =>
  have hc : CelN F b 0 _ := hB _ h
  refine fun76.spec rfl ?_
  conv=>whnf
  intro b2
  (conv=>whnf);refine .ff ?_;(conv=>whnf)
  refine LoadNG.atF (by rw [bvs_len, Trie.sum_len]) (celn_sum hc) ?_
  conv=>whnf
  refine StoreG.at (by rw [bvs_len, Trie.sum_len]) (Upd.whole (by rw [bvs_len, Trie.sum_len]; rfl) (bvs_one _)) ?_
  conv=>whnf
  refine LoadNG.at (vs := bvs (Trie.sum K (.leaf k d))) (by rw [bvs_len, Trie.sum_len]) .all ?_
  conv=>whnf
  exact ⟨[], Ent.nil _, rfl, rfl⟩
 | fork b l r lv rv h hl hr =>
  have hc : CelN F b 0 _ := hB _ h
  refine fun76.spec rfl ?_
  conv=>whnf
  intro b2
  (conv=>whnf);refine .ff ?_;(conv=>whnf)
  refine LoadNG.atF (by rw [bvs_len, Trie.sum_len]) (celn_sum hc) ?_
  conv=>whnf
  refine StoreG.at (by rw [bvs_len, Trie.sum_len]) (Upd.whole (by rw [bvs_len, Trie.sum_len]; rfl) (bvs_one _)) ?_
  conv=>whnf
  refine LoadNG.at (vs := bvs (Trie.sum K (.fork l r))) (by rw [bvs_len, Trie.sum_len]) .all ?_
  conv=>whnf
  exact ⟨[], Ent.nil _, rfl, rfl⟩
include hk
theorem leaf_spec (F : List HP) (hK : CelN F 0 0 (wvs K)) (key val : List Nat) (h1 : IsD key) (h2 : IsD val) : SpecF Tryd.prog 118 [.agg ⟨bvs key⟩, .agg ⟨bvs val⟩] F []
 (fun r L => ∃ b, r = ptrV b ∧ L = [cel b 144 (nodeC (Trie.sum K (.leaf key val)) key val (.pointer none) (.pointer none) false)]) := by
 have l1 := h1.len
 have l2 := h2.len
 refine fun118.spec rfl ?_
 conv=>whnf
 intro b2
 conv=>whnf
 intro b3
 conv=>whnf
 refine DrawG.mk 12 [cel b3 46 (bvs val), cel b2 46 (bvs key)] [] (Ent.refl _) ?_
 conv=>whnf
 refine .take 1 ?_
 conv=>whnf
 refine ⟨rfl, ?_⟩
 conv=>whnf
 refine SideG.of (by decide) ?_
 conv=>whnf
 refine SliceG.zero ?_
 conv=>whnf
 refine .take 2 ?_
 conv=>whnf
 refine ⟨rfl, ?_⟩
 conv=>whnf
 refine SideG.of (by decide) ?_
 conv=>whnf
 refine SliceG.zero ?_
 conv=>whnf
 refine .take 5 ?_
 conv=>whnf
 refine ⟨rfl, ?_⟩
 conv=>whnf
 refine LoadNG.at (by rw [bvs_len, l1]) (.tl .all) ?_
 conv=>whnf
 refine .take 6 ?_
 conv=>whnf
 refine ⟨rfl, ?_⟩
 conv=>whnf
 refine LoadNG.at (by rw [bvs_len, l2]) .all ?_
 conv=>whnf
 refine .all ?_
 conv=>whnf
 refine ⟨by decide, ?_⟩
 conv=>whnf
 refine BuildG.of rfl ?_
 conv=>whnf
 intro b5
 conv=>whnf
 refine .all ?_
 conv=>whnf
 refine ⟨by decide, ?_⟩
 conv=>whnf
 refine BuildG.of rfl ?_
 conv=>whnf
 intro b8
 conv=>whnf
 refine .all ?_
 conv=>whnf
 refine ⟨by decide, ?_⟩
 conv=>whnf
 refine CallG.pure (dparts_spec _ K (.right (.right hK _) _) hk _ [[2], key, val] ?_ (by simp) (by simp [sumL]; omega) ?_) ?_
 ·refine ⟨[_, _, _], .mk _ _ _ _ _ (Nat.le_refl _) (.left .all _), rfl, fun i h => ?_⟩
  match i, h with
  | 0, _ => exact ⟨_, rfl, .mk _ _ _ _ _ (Nat.le_refl _) (.left (.tl .all) _)⟩
  | 1, _ => exact ⟨_, rfl, by rw [show [[2], key, val][1] = key from rfl, l1]; exact .mk _ _ _ _ _ (Nat.le_refl _) (.right (.left (.tl .all) F) _)⟩
  | 2, _ => exact ⟨_, rfl, by rw [show [[2], key, val][2] = val from rfl, l2]; exact .mk _ _ _ _ _ (Nat.le_refl _) (.right (.left .all F) _)⟩
 ·intro l hl x hx
  simp only [List.mem_cons, List.not_mem_nil, or_false] at hl
  rcases hl with rfl | rfl | rfl
  ·simp at hx; omega
  ·exact h1.byte x hx
  ·exact h2.byte x hx
 rintro _ _ ⟨rfl, rfl⟩
 have e : [[2], key, val].flatten = 2 :: (key ++ val) := by simp
 rw [e]
 conv=>whnf
 refine .all ?_
 conv=>whnf
 refine ⟨by decide, ?_⟩
 conv=>whnf
 refine BuildG.of (cs := nodeC (dig K (2 :: (key ++ val))) key val (.pointer none) (.pointer none) false) (fill_leaf (dig_len _ _) l1 l2) ?_
 conv=>whnf
 refine .all ?_
 conv=>whnf
 refine ⟨by decide, ?_⟩
 conv=>whnf
 intro b13
 conv=>whnf
 refine .all ?_
 conv=>whnf
 refine ⟨by decide, ?_⟩
 conv=>whnf
 refine ⟨rfl, ?_⟩
 conv=>whnf
 exact ⟨[_], Ent.dropL [_] _, b13, rfl, rfl⟩
abbrev trOf {K : List W32} {Bs : Bls} {t : Trie} {v : Value} (_ : NdB K Bs t v) : Trie := t
omit hk in
theorem ptr_cells {t : Trie} {v : Value} (h : NdB K Bs t v) : v.cells = #[v] := by cases h <;> rfl
omit hk in
omit hk in
theorem flat3 (a b : List Nat) : [[3], a, b].flatten = 3 :: (a ++ b) := by simp
theorem joined_spec (F : List HP) (hK : CelN F 0 0 (wvs K)) (hB : BsG F Bs) (l r : Trie) (lv rv : Value) (hl : NdB K Bs l lv) (hr : NdB K Bs r rv) (d : Nat) (wl : l.wf d) (wr : r.wf d) :
 SpecF Tryd.prog 119 [lv, rv] F [] (fun v L => ∃ Ns, L = rcs 144 Ns ∧ NdB K (Ns ++ Bs) (joinT l r) v) := by
 have sg := fun M => single_spec (K := K) (Bs := Bs) (M ++ F) (hB.right M)
 refine fun119.spec rfl ?_
 cases hl with
 | nil =>
  have gl : NdB K Bs .nil (.pointer none) := .nil
  cases hr with
  | nil =>
   (conv=>whnf);refine .tt ?_;(conv=>whnf);refine .tt ?_;(conv=>whnf);refine .tt ?_;(conv=>whnf);refine .tt ?_;(conv=>whnf);refine .tt ?_;(conv=>whnf);refine .tt ?_;(conv=>whnf);refine .tt ?_;(conv=>whnf);refine .tt ?_;(conv=>whnf);refine .tt ?_;(conv=>whnf)
   exact ⟨[], Ent.nil _, [], rfl, .nil⟩
  | leaf b k d h =>
   (conv=>whnf);repeat((with_reducible first|refine .tt ?_|refine .ff ?_);conv=>whnf)
   refine CallG.pure (sg _ _ _ (.leaf b k d h) _ wr) ?_
   rintro _ _ ⟨rfl, rfl⟩
   (conv=>whnf);repeat((with_reducible first|refine .tt ?_|refine .ff ?_);conv=>whnf)
   refine CondG.tt ?_
   conv=>whnf
   exact ⟨[], Ent.nil _, [], rfl, .leaf b k d h⟩
  | fork b l' r' lv' rv' h hl' hr' =>
   have gr : NdB K Bs (.fork l' r') (ptrV b) := .fork b l' r' lv' rv' h hl' hr'
   (conv=>whnf);repeat((with_reducible first|refine .tt ?_|refine .ff ?_);conv=>whnf)
   refine CallG.pure (sg _ _ _ gr _ wr) ?_
   rintro _ _ ⟨rfl, rfl⟩
   (conv=>whnf);repeat((with_reducible first|refine .tt ?_|refine .ff ?_);conv=>whnf)
   refine CondG.ff ?_
   (conv=>whnf);refine .ff ?_;(conv=>whnf);refine .ff ?_;(conv=>whnf);refine .ff ?_;(conv=>whnf);refine .ff ?_;(conv=>whnf)
   refine CallG.pure (over_spec' _ (hB.right _) _ _ gl) ?_
   rintro _ _ ⟨rfl, rfl⟩
   conv=>whnf
   refine CallG.pure (over_spec' _ (hB.right _) _ _ gr) ?_
   rintro _ _ ⟨rfl, rfl⟩
   conv=>whnf
   intro b2
   conv=>whnf
   intro b3
   conv=>whnf
   refine StoreG.at (by rw [bvs_len, Trie.sum_len]) (Upd.tl (Upd.whole (by rw [bvs_len, Trie.sum_len]; rfl) (bvs_one _))) ?_
   conv=>whnf
   refine StoreG.at (by rw [bvs_len, Trie.sum_len]) (Upd.whole (by rw [bvs_len, Trie.sum_len]; rfl) (bvs_one _)) ?_
   conv=>whnf
   refine DrawG.mk 12 _ [] (Ent.refl _) ?_
   conv=>whnf
   refine .take 1 ?_
   conv=>whnf
   refine ⟨rfl, ?_⟩
   conv=>whnf
   refine SideG.of (by decide) ?_
   conv=>whnf
   refine SliceG.zero ?_
   conv=>whnf
   refine .take 2 ?_
   conv=>whnf
   refine ⟨rfl, ?_⟩
   conv=>whnf
   refine SideG.of (by decide) ?_
   conv=>whnf
   refine SliceG.zero ?_
   conv=>whnf
   refine .take 5 ?_
   conv=>whnf
   refine ⟨rfl, ?_⟩
   conv=>whnf
   refine .take 6 ?_
   conv=>whnf
   refine ⟨rfl, ?_⟩
   conv=>whnf
   refine .all ?_
   conv=>whnf
   refine ⟨by decide, ?_⟩
   conv=>whnf
   refine BuildG.of rfl ?_
   conv=>whnf
   intro b5
   conv=>whnf
   refine .all ?_
   conv=>whnf
   refine ⟨by decide, ?_⟩
   conv=>whnf
   refine BuildG.of rfl ?_
   conv=>whnf
   intro b8
   conv=>whnf
   refine .all ?_
   conv=>whnf
   refine ⟨by decide, ?_⟩
   conv=>whnf
   refine CallG.pure (dparts_spec _ K (.right (.right hK _) _) hk _ [[3], Trie.sum K (trOf gl), Trie.sum K (trOf gr)] ?_ (by simp) (by simp [sumL, Trie.sum_len]) ?_) ?_
   ·refine ⟨[_, _, _], .mk _ _ _ _ _ (Nat.le_refl _) (.left .all _), rfl, fun i h => ?_⟩
    match i, h with
    | 0, _ => exact ⟨_, rfl, .mk _ _ _ _ _ (Nat.le_refl _) (.left (.tl .all) _)⟩
    | 1, _ => exact ⟨_, rfl, by simp only [List.getElem_cons_succ, List.getElem_cons_zero, Trie.sum_len]; exact .mk _ _ _ _ _ (Nat.le_refl _) (.right (.left (.tl .all) F) _)⟩
    | 2, _ => exact ⟨_, rfl, by simp only [List.getElem_cons_succ, List.getElem_cons_zero, Trie.sum_len]; exact .mk _ _ _ _ _ (Nat.le_refl _) (.right (.left .all F) _)⟩
   ·intro l hl x hx
    simp only [List.mem_cons, List.not_mem_nil, or_false] at hl
    rcases hl with rfl | rfl | rfl
    ·simp at hx; omega
    ·exact (Trie.sum_is K _).byte x hx
    ·exact (Trie.sum_is K _).byte x hx
   rintro _ _ ⟨rfl, rfl⟩
   rw [flat3]
   conv=>whnf
   refine .all ?_
   conv=>whnf
   refine ⟨by decide, ?_⟩
   conv=>whnf
   refine BuildG.of (fill_fork (dig_len _ _) (ptr_cells gl) (ptr_cells gr)) ?_
   conv=>whnf
   refine .all ?_
   conv=>whnf
   refine ⟨by decide, ?_⟩
   conv=>whnf
   intro b13
   conv=>whnf
   refine .all ?_
   conv=>whnf
   refine ⟨by decide, ?_⟩
   conv=>whnf
   refine ⟨rfl, ?_⟩
   conv=>whnf
   refine ⟨rcs 144 [(b13, _)], (Ent.dropL [_] _).trans rcel_of, [(b13, _)], rfl, .fork b13 _ _ _ _ (List.mem_append_left _ (List.mem_singleton.2 rfl)) (gl.app _) (gr.app _)⟩
 | leaf b k d h =>
  have gl : NdB K Bs (.leaf k d) (ptrV b) := .leaf b k d h
  cases hr with
  | nil =>
   (conv=>whnf);repeat((with_reducible first|refine .tt ?_|refine .ff ?_);conv=>whnf)
   refine CallG.pure (sg _ _ _ gl _ wl) ?_
   rintro _ _ ⟨rfl, rfl⟩
   (conv=>whnf);refine .tt ?_;(conv=>whnf)
   refine CondG.tt ?_
   conv=>whnf
   exact ⟨[], Ent.nil _, [], rfl, gl⟩
  | leaf b' k' d' h' =>
   have gr : NdB K Bs (.leaf k' d') (ptrV b') := .leaf b' k' d' h'
   (conv=>whnf);refine .ff ?_;(conv=>whnf);refine .ff ?_;(conv=>whnf);refine .ff ?_;(conv=>whnf);refine .ff ?_;(conv=>whnf);refine .ff ?_;(conv=>whnf);refine .ff ?_;(conv=>whnf);refine .ff ?_;(conv=>whnf);refine .ff ?_;(conv=>whnf);refine .ff ?_;(conv=>whnf);refine .ff ?_;(conv=>whnf)
   refine CallG.pure (over_spec' _ (hB.right _) _ _ gl) ?_
   rintro _ _ ⟨rfl, rfl⟩
   conv=>whnf
   refine CallG.pure (over_spec' _ (hB.right _) _ _ gr) ?_
   rintro _ _ ⟨rfl, rfl⟩
   conv=>whnf
   intro b2
   conv=>whnf
   intro b3
   conv=>whnf
   refine StoreG.at (by rw [bvs_len, Trie.sum_len]) (Upd.tl (Upd.whole (by rw [bvs_len, Trie.sum_len]; rfl) (bvs_one _))) ?_
   conv=>whnf
   refine StoreG.at (by rw [bvs_len, Trie.sum_len]) (Upd.whole (by rw [bvs_len, Trie.sum_len]; rfl) (bvs_one _)) ?_
   conv=>whnf
   refine DrawG.mk 12 _ [] (Ent.refl _) ?_
   conv=>whnf
   refine .take 1 ?_
   conv=>whnf
   refine ⟨rfl, ?_⟩
   conv=>whnf
   refine SideG.of (by decide) ?_
   conv=>whnf
   refine SliceG.zero ?_
   conv=>whnf
   refine .take 2 ?_
   conv=>whnf
   refine ⟨rfl, ?_⟩
   conv=>whnf
   refine SideG.of (by decide) ?_
   conv=>whnf
   refine SliceG.zero ?_
   conv=>whnf
   refine .take 5 ?_
   conv=>whnf
   refine ⟨rfl, ?_⟩
   conv=>whnf
   refine .take 6 ?_
   conv=>whnf
   refine ⟨rfl, ?_⟩
   conv=>whnf
   refine .all ?_
   conv=>whnf
   refine ⟨by decide, ?_⟩
   conv=>whnf
   refine BuildG.of rfl ?_
   conv=>whnf
   intro b5
   conv=>whnf
   refine .all ?_
   conv=>whnf
   refine ⟨by decide, ?_⟩
   conv=>whnf
   refine BuildG.of rfl ?_
   conv=>whnf
   intro b8
   conv=>whnf
   refine .all ?_
   conv=>whnf
   refine ⟨by decide, ?_⟩
   conv=>whnf
   refine CallG.pure (dparts_spec _ K (.right (.right hK _) _) hk _ [[3], Trie.sum K (trOf gl), Trie.sum K (trOf gr)] ?_ (by simp) (by simp [sumL, Trie.sum_len]) ?_) ?_
   ·refine ⟨[_, _, _], .mk _ _ _ _ _ (Nat.le_refl _) (.left .all _), rfl, fun i h => ?_⟩
    match i, h with
    | 0, _ => exact ⟨_, rfl, .mk _ _ _ _ _ (Nat.le_refl _) (.left (.tl .all) _)⟩
    | 1, _ => exact ⟨_, rfl, by simp only [List.getElem_cons_succ, List.getElem_cons_zero, Trie.sum_len]; exact .mk _ _ _ _ _ (Nat.le_refl _) (.right (.left (.tl .all) F) _)⟩
    | 2, _ => exact ⟨_, rfl, by simp only [List.getElem_cons_succ, List.getElem_cons_zero, Trie.sum_len]; exact .mk _ _ _ _ _ (Nat.le_refl _) (.right (.left .all F) _)⟩
   ·intro l hl x hx
    simp only [List.mem_cons, List.not_mem_nil, or_false] at hl
    rcases hl with rfl | rfl | rfl
    ·simp at hx; omega
    ·exact (Trie.sum_is K _).byte x hx
    ·exact (Trie.sum_is K _).byte x hx
   rintro _ _ ⟨rfl, rfl⟩
   rw [flat3]
   conv=>whnf
   refine .all ?_
   conv=>whnf
   refine ⟨by decide, ?_⟩
   conv=>whnf
   refine BuildG.of (fill_fork (dig_len _ _) (ptr_cells gl) (ptr_cells gr)) ?_
   conv=>whnf
   refine .all ?_
   conv=>whnf
   refine ⟨by decide, ?_⟩
   conv=>whnf
   intro b13
   conv=>whnf
   refine .all ?_
   conv=>whnf
   refine ⟨by decide, ?_⟩
   conv=>whnf
   refine ⟨rfl, ?_⟩
   conv=>whnf
   refine ⟨rcs 144 [(b13, _)], (Ent.dropL [_] _).trans rcel_of, [(b13, _)], rfl, .fork b13 _ _ _ _ (List.mem_append_left _ (List.mem_singleton.2 rfl)) (gl.app _) (gr.app _)⟩
  | fork b' l' r' lv' rv' h hl' hr' =>
   have gr : NdB K Bs (.fork l' r') (ptrV b') := .fork b' l' r' lv' rv' h hl' hr'
   (conv=>whnf);refine .ff ?_;(conv=>whnf);refine .ff ?_;(conv=>whnf);refine .ff ?_;(conv=>whnf);refine .ff ?_;(conv=>whnf);refine .ff ?_;(conv=>whnf);refine .ff ?_;(conv=>whnf);refine .ff ?_;(conv=>whnf);refine .ff ?_;(conv=>whnf);refine .ff ?_;(conv=>whnf);refine .ff ?_;(conv=>whnf)
   refine CallG.pure (over_spec' _ (hB.right _) _ _ gl) ?_
   rintro _ _ ⟨rfl, rfl⟩
   conv=>whnf
   refine CallG.pure (over_spec' _ (hB.right _) _ _ gr) ?_
   rintro _ _ ⟨rfl, rfl⟩
   conv=>whnf
   intro b2
   conv=>whnf
   intro b3
   conv=>whnf
   refine StoreG.at (by rw [bvs_len, Trie.sum_len]) (Upd.tl (Upd.whole (by rw [bvs_len, Trie.sum_len]; rfl) (bvs_one _))) ?_
   conv=>whnf
   refine StoreG.at (by rw [bvs_len, Trie.sum_len]) (Upd.whole (by rw [bvs_len, Trie.sum_len]; rfl) (bvs_one _)) ?_
   conv=>whnf
   refine DrawG.mk 12 _ [] (Ent.refl _) ?_
   conv=>whnf
   refine .take 1 ?_
   conv=>whnf
   refine ⟨rfl, ?_⟩
   conv=>whnf
   refine SideG.of (by decide) ?_
   conv=>whnf
   refine SliceG.zero ?_
   conv=>whnf
   refine .take 2 ?_
   conv=>whnf
   refine ⟨rfl, ?_⟩
   conv=>whnf
   refine SideG.of (by decide) ?_
   conv=>whnf
   refine SliceG.zero ?_
   conv=>whnf
   refine .take 5 ?_
   conv=>whnf
   refine ⟨rfl, ?_⟩
   conv=>whnf
   refine .take 6 ?_
   conv=>whnf
   refine ⟨rfl, ?_⟩
   conv=>whnf
   refine .all ?_
   conv=>whnf
   refine ⟨by decide, ?_⟩
   conv=>whnf
   refine BuildG.of rfl ?_
   conv=>whnf
   intro b5
   conv=>whnf
   refine .all ?_
   conv=>whnf
   refine ⟨by decide, ?_⟩
   conv=>whnf
   refine BuildG.of rfl ?_
   conv=>whnf
   intro b8
   conv=>whnf
   refine .all ?_
   conv=>whnf
   refine ⟨by decide, ?_⟩
   conv=>whnf
   refine CallG.pure (dparts_spec _ K (.right (.right hK _) _) hk _ [[3], Trie.sum K (trOf gl), Trie.sum K (trOf gr)] ?_ (by simp) (by simp [sumL, Trie.sum_len]) ?_) ?_
   ·refine ⟨[_, _, _], .mk _ _ _ _ _ (Nat.le_refl _) (.left .all _), rfl, fun i h => ?_⟩
    match i, h with
    | 0, _ => exact ⟨_, rfl, .mk _ _ _ _ _ (Nat.le_refl _) (.left (.tl .all) _)⟩
    | 1, _ => exact ⟨_, rfl, by simp only [List.getElem_cons_succ, List.getElem_cons_zero, Trie.sum_len]; exact .mk _ _ _ _ _ (Nat.le_refl _) (.right (.left (.tl .all) F) _)⟩
    | 2, _ => exact ⟨_, rfl, by simp only [List.getElem_cons_succ, List.getElem_cons_zero, Trie.sum_len]; exact .mk _ _ _ _ _ (Nat.le_refl _) (.right (.left .all F) _)⟩
   ·intro l hl x hx
    simp only [List.mem_cons, List.not_mem_nil, or_false] at hl
    rcases hl with rfl | rfl | rfl
    ·simp at hx; omega
    ·exact (Trie.sum_is K _).byte x hx
    ·exact (Trie.sum_is K _).byte x hx
   rintro _ _ ⟨rfl, rfl⟩
   rw [flat3]
   conv=>whnf
   refine .all ?_
   conv=>whnf
   refine ⟨by decide, ?_⟩
   conv=>whnf
   refine BuildG.of (fill_fork (dig_len _ _) (ptr_cells gl) (ptr_cells gr)) ?_
   conv=>whnf
   refine .all ?_
   conv=>whnf
   refine ⟨by decide, ?_⟩
   conv=>whnf
   intro b13
   conv=>whnf
   refine .all ?_
   conv=>whnf
   refine ⟨by decide, ?_⟩
   conv=>whnf
   refine ⟨rfl, ?_⟩
   conv=>whnf
   refine ⟨rcs 144 [(b13, _)], (Ent.dropL [_] _).trans rcel_of, [(b13, _)], rfl, .fork b13 _ _ _ _ (List.mem_append_left _ (List.mem_singleton.2 rfl)) (gl.app _) (gr.app _)⟩
 | fork b l' r' lv' rv' h hl' hr' =>
  have gl : NdB K Bs (.fork l' r') (ptrV b) := .fork b l' r' lv' rv' h hl' hr'
  cases hr with
  | nil =>
   have gr : NdB K Bs .nil (.pointer none) := .nil
   (conv=>whnf);repeat((with_reducible first|refine .tt ?_|refine .ff ?_);conv=>whnf)
   refine CallG.pure (sg _ _ _ gl _ wl) ?_
   rintro _ _ ⟨rfl, rfl⟩
   (conv=>whnf);refine .tt ?_;(conv=>whnf)
   refine CondG.ff ?_
   conv=>whnf
   refine CallG.pure (over_spec' _ (hB.right _) _ _ gl) ?_
   rintro _ _ ⟨rfl, rfl⟩
   conv=>whnf
   refine CallG.pure (over_spec' _ (hB.right _) _ _ gr) ?_
   rintro _ _ ⟨rfl, rfl⟩
   conv=>whnf
   intro b2
   conv=>whnf
   intro b3
   conv=>whnf
   refine StoreG.at (by rw [bvs_len, Trie.sum_len]) (Upd.tl (Upd.whole (by rw [bvs_len, Trie.sum_len]; rfl) (bvs_one _))) ?_
   conv=>whnf
   refine StoreG.at (by rw [bvs_len, Trie.sum_len]) (Upd.whole (by rw [bvs_len, Trie.sum_len]; rfl) (bvs_one _)) ?_
   conv=>whnf
   refine DrawG.mk 12 _ [] (Ent.refl _) ?_
   conv=>whnf
   refine .take 1 ?_
   conv=>whnf
   refine ⟨rfl, ?_⟩
   conv=>whnf
   refine SideG.of (by decide) ?_
   conv=>whnf
   refine SliceG.zero ?_
   conv=>whnf
   refine .take 2 ?_
   conv=>whnf
   refine ⟨rfl, ?_⟩
   conv=>whnf
   refine SideG.of (by decide) ?_
   conv=>whnf
   refine SliceG.zero ?_
   conv=>whnf
   refine .take 5 ?_
   conv=>whnf
   refine ⟨rfl, ?_⟩
   conv=>whnf
   refine .take 6 ?_
   conv=>whnf
   refine ⟨rfl, ?_⟩
   conv=>whnf
   refine .all ?_
   conv=>whnf
   refine ⟨by decide, ?_⟩
   conv=>whnf
   refine BuildG.of rfl ?_
   conv=>whnf
   intro b5
   conv=>whnf
   refine .all ?_
   conv=>whnf
   refine ⟨by decide, ?_⟩
   conv=>whnf
   refine BuildG.of rfl ?_
   conv=>whnf
   intro b8
   conv=>whnf
   refine .all ?_
   conv=>whnf
   refine ⟨by decide, ?_⟩
   conv=>whnf
   refine CallG.pure (dparts_spec _ K (.right (.right hK _) _) hk _ [[3], Trie.sum K (trOf gl), Trie.sum K (trOf gr)] ?_ (by simp) (by simp [sumL, Trie.sum_len]) ?_) ?_
   ·refine ⟨[_, _, _], .mk _ _ _ _ _ (Nat.le_refl _) (.left .all _), rfl, fun i h => ?_⟩
    match i, h with
    | 0, _ => exact ⟨_, rfl, .mk _ _ _ _ _ (Nat.le_refl _) (.left (.tl .all) _)⟩
    | 1, _ => exact ⟨_, rfl, by simp only [List.getElem_cons_succ, List.getElem_cons_zero, Trie.sum_len]; exact .mk _ _ _ _ _ (Nat.le_refl _) (.right (.left (.tl .all) F) _)⟩
    | 2, _ => exact ⟨_, rfl, by simp only [List.getElem_cons_succ, List.getElem_cons_zero, Trie.sum_len]; exact .mk _ _ _ _ _ (Nat.le_refl _) (.right (.left .all F) _)⟩
   ·intro l hl x hx
    simp only [List.mem_cons, List.not_mem_nil, or_false] at hl
    rcases hl with rfl | rfl | rfl
    ·simp at hx; omega
    ·exact (Trie.sum_is K _).byte x hx
    ·exact (Trie.sum_is K _).byte x hx
   rintro _ _ ⟨rfl, rfl⟩
   rw [flat3]
   conv=>whnf
   refine .all ?_
   conv=>whnf
   refine ⟨by decide, ?_⟩
   conv=>whnf
   refine BuildG.of (fill_fork (dig_len _ _) (ptr_cells gl) (ptr_cells gr)) ?_
   conv=>whnf
   refine .all ?_
   conv=>whnf
   refine ⟨by decide, ?_⟩
   conv=>whnf
   intro b13
   conv=>whnf
   refine .all ?_
   conv=>whnf
   refine ⟨by decide, ?_⟩
   conv=>whnf
   refine ⟨rfl, ?_⟩
   conv=>whnf
   refine ⟨rcs 144 [(b13, _)], (Ent.dropL [_] _).trans rcel_of, [(b13, _)], rfl, .fork b13 _ _ _ _ (List.mem_append_left _ (List.mem_singleton.2 rfl)) (gl.app _) (gr.app _)⟩
  | leaf b' k' d' h' =>
   have gr : NdB K Bs (.leaf k' d') (ptrV b') := .leaf b' k' d' h'
   (conv=>whnf);refine .ff ?_;(conv=>whnf);refine .ff ?_;(conv=>whnf);refine .ff ?_;(conv=>whnf);refine .ff ?_;(conv=>whnf);refine .ff ?_;(conv=>whnf);refine .ff ?_;(conv=>whnf);refine .ff ?_;(conv=>whnf);refine .ff ?_;(conv=>whnf);refine .ff ?_;(conv=>whnf);refine .ff ?_;(conv=>whnf)
   refine CallG.pure (over_spec' _ (hB.right _) _ _ gl) ?_
   rintro _ _ ⟨rfl, rfl⟩
   conv=>whnf
   refine CallG.pure (over_spec' _ (hB.right _) _ _ gr) ?_
   rintro _ _ ⟨rfl, rfl⟩
   conv=>whnf
   intro b2
   conv=>whnf
   intro b3
   conv=>whnf
   refine StoreG.at (by rw [bvs_len, Trie.sum_len]) (Upd.tl (Upd.whole (by rw [bvs_len, Trie.sum_len]; rfl) (bvs_one _))) ?_
   conv=>whnf
   refine StoreG.at (by rw [bvs_len, Trie.sum_len]) (Upd.whole (by rw [bvs_len, Trie.sum_len]; rfl) (bvs_one _)) ?_
   conv=>whnf
   refine DrawG.mk 12 _ [] (Ent.refl _) ?_
   conv=>whnf
   refine .take 1 ?_
   conv=>whnf
   refine ⟨rfl, ?_⟩
   conv=>whnf
   refine SideG.of (by decide) ?_
   conv=>whnf
   refine SliceG.zero ?_
   conv=>whnf
   refine .take 2 ?_
   conv=>whnf
   refine ⟨rfl, ?_⟩
   conv=>whnf
   refine SideG.of (by decide) ?_
   conv=>whnf
   refine SliceG.zero ?_
   conv=>whnf
   refine .take 5 ?_
   conv=>whnf
   refine ⟨rfl, ?_⟩
   conv=>whnf
   refine .take 6 ?_
   conv=>whnf
   refine ⟨rfl, ?_⟩
   conv=>whnf
   refine .all ?_
   conv=>whnf
   refine ⟨by decide, ?_⟩
   conv=>whnf
   refine BuildG.of rfl ?_
   conv=>whnf
   intro b5
   conv=>whnf
   refine .all ?_
   conv=>whnf
   refine ⟨by decide, ?_⟩
   conv=>whnf
   refine BuildG.of rfl ?_
   conv=>whnf
   intro b8
   conv=>whnf
   refine .all ?_
   conv=>whnf
   refine ⟨by decide, ?_⟩
   conv=>whnf
   refine CallG.pure (dparts_spec _ K (.right (.right hK _) _) hk _ [[3], Trie.sum K (trOf gl), Trie.sum K (trOf gr)] ?_ (by simp) (by simp [sumL, Trie.sum_len]) ?_) ?_
   ·refine ⟨[_, _, _], .mk _ _ _ _ _ (Nat.le_refl _) (.left .all _), rfl, fun i h => ?_⟩
    match i, h with
    | 0, _ => exact ⟨_, rfl, .mk _ _ _ _ _ (Nat.le_refl _) (.left (.tl .all) _)⟩
    | 1, _ => exact ⟨_, rfl, by simp only [List.getElem_cons_succ, List.getElem_cons_zero, Trie.sum_len]; exact .mk _ _ _ _ _ (Nat.le_refl _) (.right (.left (.tl .all) F) _)⟩
    | 2, _ => exact ⟨_, rfl, by simp only [List.getElem_cons_succ, List.getElem_cons_zero, Trie.sum_len]; exact .mk _ _ _ _ _ (Nat.le_refl _) (.right (.left .all F) _)⟩
   ·intro l hl x hx
    simp only [List.mem_cons, List.not_mem_nil, or_false] at hl
    rcases hl with rfl | rfl | rfl
    ·simp at hx; omega
    ·exact (Trie.sum_is K _).byte x hx
    ·exact (Trie.sum_is K _).byte x hx
   rintro _ _ ⟨rfl, rfl⟩
   rw [flat3]
   conv=>whnf
   refine .all ?_
   conv=>whnf
   refine ⟨by decide, ?_⟩
   conv=>whnf
   refine BuildG.of (fill_fork (dig_len _ _) (ptr_cells gl) (ptr_cells gr)) ?_
   conv=>whnf
   refine .all ?_
   conv=>whnf
   refine ⟨by decide, ?_⟩
   conv=>whnf
   intro b13
   conv=>whnf
   refine .all ?_
   conv=>whnf
   refine ⟨by decide, ?_⟩
   conv=>whnf
   refine ⟨rfl, ?_⟩
   conv=>whnf
   refine ⟨rcs 144 [(b13, _)], (Ent.dropL [_] _).trans rcel_of, [(b13, _)], rfl, .fork b13 _ _ _ _ (List.mem_append_left _ (List.mem_singleton.2 rfl)) (gl.app _) (gr.app _)⟩
  | fork b' l2 r2 lv2 rv2 h2 hl2 hr2 =>
   have gr : NdB K Bs (.fork l2 r2) (ptrV b') := .fork b' l2 r2 lv2 rv2 h2 hl2 hr2
   (conv=>whnf);refine .ff ?_;(conv=>whnf);refine .ff ?_;(conv=>whnf);refine .ff ?_;(conv=>whnf);refine .ff ?_;(conv=>whnf);refine .ff ?_;(conv=>whnf);refine .ff ?_;(conv=>whnf);refine .ff ?_;(conv=>whnf);refine .ff ?_;(conv=>whnf);refine .ff ?_;(conv=>whnf);refine .ff ?_;(conv=>whnf)
   refine CallG.pure (over_spec' _ (hB.right _) _ _ gl) ?_
   rintro _ _ ⟨rfl, rfl⟩
   conv=>whnf
   refine CallG.pure (over_spec' _ (hB.right _) _ _ gr) ?_
   rintro _ _ ⟨rfl, rfl⟩
   conv=>whnf
   intro b2
   conv=>whnf
   intro b3
   conv=>whnf
   refine StoreG.at (by rw [bvs_len, Trie.sum_len]) (Upd.tl (Upd.whole (by rw [bvs_len, Trie.sum_len]; rfl) (bvs_one _))) ?_
   conv=>whnf
   refine StoreG.at (by rw [bvs_len, Trie.sum_len]) (Upd.whole (by rw [bvs_len, Trie.sum_len]; rfl) (bvs_one _)) ?_
   conv=>whnf
   refine DrawG.mk 12 _ [] (Ent.refl _) ?_
   conv=>whnf
   refine .take 1 ?_
   conv=>whnf
   refine ⟨rfl, ?_⟩
   conv=>whnf
   refine SideG.of (by decide) ?_
   conv=>whnf
   refine SliceG.zero ?_
   conv=>whnf
   refine .take 2 ?_
   conv=>whnf
   refine ⟨rfl, ?_⟩
   conv=>whnf
   refine SideG.of (by decide) ?_
   conv=>whnf
   refine SliceG.zero ?_
   conv=>whnf
   refine .take 5 ?_
   conv=>whnf
   refine ⟨rfl, ?_⟩
   conv=>whnf
   refine .take 6 ?_
   conv=>whnf
   refine ⟨rfl, ?_⟩
   conv=>whnf
   refine .all ?_
   conv=>whnf
   refine ⟨by decide, ?_⟩
   conv=>whnf
   refine BuildG.of rfl ?_
   conv=>whnf
   intro b5
   conv=>whnf
   refine .all ?_
   conv=>whnf
   refine ⟨by decide, ?_⟩
   conv=>whnf
   refine BuildG.of rfl ?_
   conv=>whnf
   intro b8
   conv=>whnf
   refine .all ?_
   conv=>whnf
   refine ⟨by decide, ?_⟩
   conv=>whnf
   refine CallG.pure (dparts_spec _ K (.right (.right hK _) _) hk _ [[3], Trie.sum K (trOf gl), Trie.sum K (trOf gr)] ?_ (by simp) (by simp [sumL, Trie.sum_len]) ?_) ?_
   ·refine ⟨[_, _, _], .mk _ _ _ _ _ (Nat.le_refl _) (.left .all _), rfl, fun i h => ?_⟩
    match i, h with
    | 0, _ => exact ⟨_, rfl, .mk _ _ _ _ _ (Nat.le_refl _) (.left (.tl .all) _)⟩
    | 1, _ => exact ⟨_, rfl, by simp only [List.getElem_cons_succ, List.getElem_cons_zero, Trie.sum_len]; exact .mk _ _ _ _ _ (Nat.le_refl _) (.right (.left (.tl .all) F) _)⟩
    | 2, _ => exact ⟨_, rfl, by simp only [List.getElem_cons_succ, List.getElem_cons_zero, Trie.sum_len]; exact .mk _ _ _ _ _ (Nat.le_refl _) (.right (.left .all F) _)⟩
   ·intro l hl x hx
    simp only [List.mem_cons, List.not_mem_nil, or_false] at hl
    rcases hl with rfl | rfl | rfl
    ·simp at hx; omega
    ·exact (Trie.sum_is K _).byte x hx
    ·exact (Trie.sum_is K _).byte x hx
   rintro _ _ ⟨rfl, rfl⟩
   rw [flat3]
   conv=>whnf
   refine .all ?_
   conv=>whnf
   refine ⟨by decide, ?_⟩
   conv=>whnf
   refine BuildG.of (fill_fork (dig_len _ _) (ptr_cells gl) (ptr_cells gr)) ?_
   conv=>whnf
   refine .all ?_
   conv=>whnf
   refine ⟨by decide, ?_⟩
   conv=>whnf
   intro b13
   conv=>whnf
   refine .all ?_
   conv=>whnf
   refine ⟨by decide, ?_⟩
   conv=>whnf
   refine ⟨rfl, ?_⟩
   conv=>whnf
   refine ⟨rcs 144 [(b13, _)], (Ent.dropL [_] _).trans rcel_of, [(b13, _)], rfl, .fork b13 _ _ _ _ (List.mem_append_left _ (List.mem_singleton.2 rfl)) (gl.app _) (gr.app _)⟩
open Classical in
omit hk in
theorem eqD {F L : List HP} {a b : List Nat} (ha : a.length = 32) (hb : b.length = 32) {k : Value → List HP → Prop} (h1 : a = b → k (.bool true) L) (h2 : ¬ a = b → k (.bool false) L) :
 DoesG Tryd.prog F (.bool <$> Op.equal 46 (.agg ⟨bvs a⟩) (.agg ⟨bvs b⟩)) L k := by
 refine DoesG.eqv 8 (List.replicate 32 (.int .u8)) (by kernel_rfl) (by decide) (by kernel_rfl) (by kernel_rfl) (wt_bvs ha) (wt_bvs hb) ?_
 by_cases h : a = b
 ·rw [decide_eq_true (bvs_inj.2 h)]; exact h1 h
 ·rw [decide_eq_false (fun e => h (bvs_inj.1 e))]; exact h2 h
omit hk in
theorem single_leaf (F : List HP) (hB : BsG F Bs) {k d : List Nat} {v : Value} (h : NdB K Bs (.leaf k d) v) {n : Nat} (hw : (Trie.leaf k d).wf n) : SpecF Tryd.prog 111 [v] F [] (fun r L => r = .bool true ∧ L = []) := single_spec F hB _ v h n hw
omit hk in
theorem single_fork (F : List HP) (hB : BsG F Bs) {l r : Trie} {v : Value} (h : NdB K Bs (.fork l r) v) {n : Nat} (hw : (Trie.fork l r).wf n) : SpecF Tryd.prog 111 [v] F [] (fun r L => r = .bool false ∧ L = []) := single_spec F hB _ v h n hw
open Classical in
omit hk in
theorem find_spec_x (F : List HP) (hB : BsG F Bs) (t : Trie) (v : Value) (hn : NdB K Bs t v) (hw : t.wf 0) (key : List Nat) (h1 : IsD key) :
 SpecF Tryd.prog 91 [v, .agg ⟨bvs key⟩] F [] (fun r L => r = .agg ⟨bvs (findT key 0 t)⟩ ∧ L = []) := by
 have l1 := h1.len
 refine fun91.spec rfl ?_
 conv=>whnf
 intro b3
 conv=>whnf
 intro b4
 conv=>whnf
 refine LoopG.mk (fun m ev L => ∃ (t' : Trie) (v' : Value) (d : Nat), NdB K Bs t' v' ∧ t'.wf d ∧ d ≤ 256 ∧ findT key d t' = findT key 0 t ∧ m = 256 - d ∧
  ev = [(0, v'), (3, .pointer (some ⟨b3, 0, none⟩)), (4, .pointer (some ⟨b4, 0, none⟩)), (5, .int .i64 d)] ∧ L = [cel b4 46 (bvs zd), cel b3 46 (bvs key)]) 256
  [(0, v), (3, .pointer (some ⟨b3, 0, none⟩)), (4, .pointer (some ⟨b4, 0, none⟩)), (5, .int .i64 0)] _ ⟨rfl, rfl, rfl, rfl, trivial⟩ (Ent.refl _) ⟨t, v, 0, hn, hw, by omega, rfl, rfl, rfl, rfl⟩ ?_
 rintro m ev L ⟨t', v', d, hn', hw', hd, he, rfl, rfl, rfl⟩
 cases hn' with
 | nil =>
  (conv=>whnf);refine .nff ?_;(conv=>whnf)
  refine BuildG.of rfl ?_
  conv=>whnf
  refine StoreG.at rfl (Upd.whole (vs := bvs zd) rfl (bvs_one _)) ?_
  conv=>whnf
  refine LoadNG.at (vs := bvs zd) rfl .all ?_
  conv=>whnf
  exact ⟨[], Ent.nil _, by rw [← he]; rfl, rfl⟩
 | leaf b k dv h =>
  have hc : CelN F b 0 _ := hB _ h
  have hs := Trie.sum_len K (.leaf k dv)
  (conv=>whnf);refine .ntt ?_;(conv=>whnf)
  refine CallG.pure (single_spec (K := K) (Bs := Bs) _ (hB.right _) _ _ (.leaf b k dv h) _ hw') ?_
  rintro _ _ ⟨rfl, rfl⟩
  conv=>whnf
  refine CondG.tt ?_
  conv=>whnf
  refine DrawG.mk 6 _ [] (Ent.refl _) ?_
  conv=>whnf
  refine .take 0 ?_
  conv=>whnf
  refine ⟨rfl, ?_⟩
  conv=>whnf
  refine .take 1 ?_
  conv=>whnf
  refine ⟨rfl, ?_⟩
  conv=>whnf
  refine .take 2 ?_
  conv=>whnf
  refine ⟨rfl, ?_⟩
  conv=>whnf
  refine .take 3 ?_
  conv=>whnf
  refine ⟨rfl, ?_⟩
  conv=>whnf
  refine LoadNG.atF (by rw [bvs_len, hw'.1.len]) (celn_key hc hs) ?_
  conv=>whnf
  refine .take 4 ?_
  conv=>whnf
  refine ⟨rfl, ?_⟩
  conv=>whnf
  refine LoadNG.at (vs := bvs key) (by rw [bvs_len, l1]) (.tl .all) ?_
  conv=>whnf
  refine .all ?_
  conv=>whnf
  refine ⟨by decide, ?_⟩
  conv=>whnf
  refine DoesG.eqv 8 (List.replicate 32 (.int .u8)) (by kernel_rfl) (by decide) (by kernel_rfl) (by kernel_rfl) (wt_bvs hw'.1.len) (wt_bvs l1) ?_
  conv=>whnf
  refine ⟨rfl, ?_⟩
  conv=>whnf
  refine CondG.dec (fun e => ?_) (fun e => ?_)
  ·have e' := bvs_inj.1 e
   conv=>whnf
   refine LoadNG.atF (by rw [bvs_len, hw'.2.len]) (celn_val hc hs hw'.1.len) ?_
   conv=>whnf
   refine StoreG.at (by rw [bvs_len, hw'.2.len]) (Upd.whole (by rw [bvs_len, hw'.2.len]; rfl) (bvs_one _)) ?_
   conv=>whnf
   refine LoadNG.at (vs := bvs dv) (by rw [bvs_len, hw'.2.len]) .all ?_
   conv=>whnf
   exact ⟨[], Ent.nil _, by rw [← he]; simp [findT, e', retV], rfl⟩
  ·have e' : ¬ k = key := fun e2 => e (by rw [e2])
   conv=>whnf
   refine BuildG.of rfl ?_
   conv=>whnf
   refine StoreG.at rfl (Upd.whole (vs := bvs zd) rfl (bvs_one _)) ?_
   conv=>whnf
   refine LoadNG.at (vs := bvs zd) rfl .all ?_
   conv=>whnf
   exact ⟨[], Ent.nil _, by rw [← he]; simp [findT, e', retV], rfl⟩
 | fork b l r lv rv h hl hr =>
  have hc : CelN F b 0 _ := hB _ h
  have hs := Trie.sum_len K (.fork l r)
  (conv=>whnf);refine .ntt ?_;(conv=>whnf)
  refine CallG.pure (single_spec (K := K) (Bs := Bs) _ (hB.right _) _ _ (.fork b l r lv rv h hl hr) _ hw') ?_
  rintro _ _ ⟨rfl, rfl⟩
  conv=>whnf
  refine CondG.ff ?_
  conv=>whnf
  refine LoadNG.at (vs := bvs key) (by rw [bvs_len, l1]) (.tl .all) ?_
  conv=>whnf
  refine CallG.pure (bit_spec _ key d h1 hw'.1) ?_
  rintro _ _ ⟨rfl, rfl⟩
  have hlt := hw'.1
  conv=>whnf
  refine CondG.split (fun hb => ?_) (fun hb => ?_)
  ·conv=>whnf
   refine LoadG.atF (celn_r hc hs rfl rfl) ?_
   conv=>whnf
   refine ArithG.i64' ((d + 1 : Nat) : Int) (by omega) (by omega) ?_
   conv=>whnf
   refine ⟨256 - (d + 1), [(0, rv), (3, .pointer (some ⟨b3, 0, none⟩)), (4, .pointer (some ⟨b4, 0, none⟩)), (5, .int .i64 (d + 1 : Nat))], _, by omega, ⟨rfl, rfl, rfl, rfl, trivial⟩, Ent.refl _, r, rv, d + 1, hr, hw'.2.2.1, by omega, ?_, rfl, rfl, rfl⟩
   rw [← he]
   simp [findT, hb]
  ·conv=>whnf
   refine LoadG.atF (celn_l hc hs rfl rfl) ?_
   conv=>whnf
   refine ArithG.i64' ((d + 1 : Nat) : Int) (by omega) (by omega) ?_
   conv=>whnf
   refine ⟨256 - (d + 1), [(0, lv), (3, .pointer (some ⟨b3, 0, none⟩)), (4, .pointer (some ⟨b4, 0, none⟩)), (5, .int .i64 (d + 1 : Nat))], _, by omega, ⟨rfl, rfl, rfl, rfl, trivial⟩, Ent.refl _, l, lv, d + 1, hl, hw'.2.1, by omega, ?_, rfl, rfl, rfl⟩
   rw [← he]
   simp [findT, hb]
open Classical in
theorem put_spec_x (key val : List Nat) (h1 : IsD key) (h2 : IsD val) : ∀ (f : Nat) (F : List HP) (Bs : Bls) (t : Trie) (v : Value) (d : Nat), f + d = 256 → CelN F 0 0 (wvs K) → BsG F Bs → NdB K Bs t v → t.wf d → t.along d key →
 SpecF Tryd.prog 92 [v, .agg ⟨bvs key⟩, .agg ⟨bvs val⟩, .int .i64 d] F [] (fun r L => ∃ Ns, L = rcs 144 Ns ∧ NdB K (Ns ++ Bs) (putT key val f t) r) := by
 have l1 := h1.len
 have l2 := h2.len
 intro f
 induction f using Nat.strongRecOn with
 | _ f ih =>
 intro F Bs t v d hfd hK hB hn hw ha
 refine fun92.spec rfl ?_
 conv=>whnf
 intro b5
 conv=>whnf
 intro b6
 conv=>whnf
 refine LoadNG.at (vs := bvs val) (by rw [bvs_len, l2]) .all ?_
 conv=>whnf
 refine BuildG.of (cs := bvs zd) rfl ?_
 conv=>whnf
 refine eqD l2 rfl (fun hz => ?_) (fun hz => ?_)
 ·cases t with
  | nil =>
   cases hn
   (conv=>whnf);refine .tt ?_;(conv=>whnf);refine .tt ?_;(conv=>whnf);refine .tt ?_;(conv=>whnf)
   exact ⟨[], Ent.nil _, [], rfl, by rw [putT_some (t' := .nil) (by simp [putB, hz])]; exact .nil⟩
  | leaf k dv =>
   have hn' := hn
   cases hn' with
   | leaf b _ _ h =>
   have hc : CelN F b 0 _ := hB _ h
   have hs := Trie.sum_len K (.leaf k dv)
   (conv=>whnf);refine .ff ?_;(conv=>whnf);refine .ff ?_;(conv=>whnf);refine .ff ?_;(conv=>whnf);refine .ff ?_;(conv=>whnf)
   refine DrawG.mk 14 _ [] (Ent.refl _) ?_
   conv=>whnf
   refine .take 0 ?_
   conv=>whnf
   refine ⟨rfl, ?_⟩
   conv=>whnf
   refine .all ?_
   conv=>whnf
   refine ⟨by decide, ?_⟩
   conv=>whnf
   refine CallG.pure (single_leaf _ ((hB.right _).right _) hn hw) ?_
   rintro _ _ ⟨rfl, rfl⟩
   conv=>whnf
   refine .take 2 ?_
   conv=>whnf
   refine ⟨rfl, ?_⟩
   conv=>whnf
   refine .take 3 ?_
   conv=>whnf
   refine ⟨rfl, ?_⟩
   (conv=>whnf);refine .tt ?_;(conv=>whnf)
   refine .take 4 ?_
   conv=>whnf
   refine ⟨rfl, ?_⟩
   (conv=>whnf);refine .tt ?_;(conv=>whnf)
   refine .take 5 ?_
   conv=>whnf
   refine ⟨rfl, ?_⟩
   (conv=>whnf);refine .tt ?_;(conv=>whnf)
   refine .take 6 ?_
   conv=>whnf
   refine ⟨rfl, ?_⟩
   (conv=>whnf);refine .tt ?_;(conv=>whnf)
   refine LoadNG.atF (by rw [bvs_len, hw.1.len]) (celn_key hc hs) ?_
   conv=>whnf
   refine .take 7 ?_
   conv=>whnf
   refine ⟨rfl, ?_⟩
   (conv=>whnf);refine .tt ?_;(conv=>whnf)
   refine LoadNG.at (vs := bvs key) (by rw [bvs_len, l1]) (.tl .all) ?_
   conv=>whnf
   refine .all ?_
   conv=>whnf
   refine ⟨by decide, ?_⟩
   (conv=>whnf);refine .tt ?_;(conv=>whnf)
   refine eqD hw.1.len l1 (fun hkk => ?_) (fun hkk => ?_)
   ·conv=>whnf
    refine .take 9 ?_
    conv=>whnf
    refine ⟨rfl, ?_⟩
    (conv=>whnf);refine .tt ?_;(conv=>whnf)
    refine .take 10 ?_
    conv=>whnf
    refine ⟨rfl, ?_⟩
    conv=>whnf
    refine .take 11 ?_
    conv=>whnf
    refine ⟨rfl, ?_⟩
    (conv=>whnf);refine .tt ?_;(conv=>whnf)
    refine .take 12 ?_
    conv=>whnf
    refine ⟨rfl, ?_⟩
    (conv=>whnf);refine .tt ?_;(conv=>whnf)
    refine .take 13 ?_
    conv=>whnf
    refine ⟨rfl, ?_⟩
    conv=>whnf
    refine ⟨rfl, ?_⟩
    (conv=>whnf);refine .tt ?_;(conv=>whnf)
    exact ⟨[], Ent.nil _, [], rfl, by rw [putT_some (t' := .nil) (by simp [putB, hz, hkk])]; exact .nil⟩
   ·conv=>whnf
    refine .take 9 ?_
    conv=>whnf
    refine ⟨rfl, ?_⟩
    (conv=>whnf);refine .tt ?_;(conv=>whnf)
    refine .take 10 ?_
    conv=>whnf
    refine ⟨rfl, ?_⟩
    conv=>whnf
    refine .take 11 ?_
    conv=>whnf
    refine ⟨rfl, ?_⟩
    (conv=>whnf);refine .ff ?_;(conv=>whnf)
    refine .take 12 ?_
    conv=>whnf
    refine ⟨rfl, ?_⟩
    (conv=>whnf);refine .ff ?_;(conv=>whnf)
    refine .take 13 ?_
    conv=>whnf
    refine ⟨rfl, ?_⟩
    conv=>whnf
    refine ⟨rfl, ?_⟩
    (conv=>whnf);refine .ff ?_;(conv=>whnf)
    refine DrawG.mk 11 _ [] (Ent.refl _) ?_
    conv=>whnf
    refine .take 0 ?_
    conv=>whnf
    refine ⟨rfl, ?_⟩
    conv=>whnf
    refine .all ?_
    conv=>whnf
    refine ⟨by decide, ?_⟩
    conv=>whnf
    refine CallG.pure (single_leaf _ ((hB.right _).right _) hn hw) ?_
    rintro _ _ ⟨rfl, rfl⟩
    conv=>whnf
    refine .take 2 ?_
    conv=>whnf
    refine ⟨rfl, ?_⟩
    conv=>whnf
    refine .take 3 ?_
    conv=>whnf
    refine ⟨rfl, ?_⟩
    (conv=>whnf);refine .tt ?_;(conv=>whnf)
    refine .take 4 ?_
    conv=>whnf
    refine ⟨rfl, ?_⟩
    (conv=>whnf);refine .tt ?_;(conv=>whnf)
    refine .take 5 ?_
    conv=>whnf
    refine ⟨rfl, ?_⟩
    (conv=>whnf);refine .tt ?_;(conv=>whnf)
    refine .take 6 ?_
    conv=>whnf
    refine ⟨rfl, ?_⟩
    (conv=>whnf);refine .tt ?_;(conv=>whnf)
    refine LoadNG.atF (by rw [bvs_len, hw.1.len]) (celn_key hc hs) ?_
    conv=>whnf
    refine .take 7 ?_
    conv=>whnf
    refine ⟨rfl, ?_⟩
    (conv=>whnf);refine .tt ?_;(conv=>whnf)
    refine LoadNG.at (vs := bvs key) (by rw [bvs_len, l1]) (.tl .all) ?_
    conv=>whnf
    refine .all ?_
    conv=>whnf
    refine ⟨by decide, ?_⟩
    (conv=>whnf);refine .tt ?_;(conv=>whnf)
    refine eqD hw.1.len l1 (fun hk2 => ?_) (fun hk2 => ?_)
    ·exact absurd hk2 hkk
    conv=>whnf
    refine .take 9 ?_
    conv=>whnf
    refine ⟨rfl, ?_⟩
    (conv=>whnf);refine .tt ?_;(conv=>whnf)
    refine .take 10 ?_
    conv=>whnf
    refine ⟨rfl, ?_⟩
    conv=>whnf
    refine ⟨rfl, ?_⟩
    (conv=>whnf);refine .ff ?_;(conv=>whnf)
    refine CallG.pure (single_leaf _ (hB.right _) hn hw) ?_
    rintro _ _ ⟨rfl, rfl⟩
    (conv=>whnf);refine .tt ?_;(conv=>whnf);refine .tt ?_;(conv=>whnf);refine .tt ?_;(conv=>whnf)
    exact ⟨[], Ent.nil _, [], rfl, by rw [putT_some (t' := .leaf k dv) (by simp [putB, hz, hkk])]; exact hn⟩
  | fork l r =>
   have hn' := hn
   cases hn' with
   | fork b _ _ lv rv h gl gr =>
   have hc : CelN F b 0 _ := hB _ h
   have hs := Trie.sum_len K (.fork l r)
   have hnone : putB key val (.fork l r) = none := rfl
   have hlt := putB_none h1 hw ha hnone
   obtain ⟨f', rfl⟩ : ∃ f', f = f' + 1 := ⟨f - 1, by omega⟩
   have ed : 255 - f' = d := by omega
   have eput := putT_none hnone f'
   rw [ed] at eput
   obtain ⟨w1, w2, w3, w4⟩ := halves_wf hw
   obtain ⟨a1, a2⟩ := halves_along ha
   (conv=>whnf);refine .ff ?_;(conv=>whnf);refine .ff ?_;(conv=>whnf);refine .ff ?_;(conv=>whnf);refine .ff ?_;(conv=>whnf)
   refine DrawG.mk 14 _ [] (Ent.refl _) ?_
   conv=>whnf
   refine .take 0 ?_
   conv=>whnf
   refine ⟨rfl, ?_⟩
   conv=>whnf
   refine .all ?_
   conv=>whnf
   refine ⟨by decide, ?_⟩
   conv=>whnf
   refine CallG.pure (single_fork _ ((hB.right _).right _) hn hw) ?_
   rintro _ _ ⟨rfl, rfl⟩
   conv=>whnf
   refine .take 2 ?_
   conv=>whnf
   refine ⟨rfl, ?_⟩
   conv=>whnf
   refine .take 3 ?_
   conv=>whnf
   refine ⟨rfl, ?_⟩
   (conv=>whnf);refine .ff ?_;(conv=>whnf)
   refine .take 4 ?_
   conv=>whnf
   refine ⟨rfl, ?_⟩
   (conv=>whnf);refine .ff ?_;(conv=>whnf)
   refine .take 5 ?_
   conv=>whnf
   refine ⟨rfl, ?_⟩
   (conv=>whnf);refine .ff ?_;(conv=>whnf)
   refine .take 6 ?_
   conv=>whnf
   refine ⟨rfl, ?_⟩
   (conv=>whnf);refine .ff ?_;(conv=>whnf)
   refine .take 7 ?_
   conv=>whnf
   refine ⟨rfl, ?_⟩
   (conv=>whnf);refine .ff ?_;(conv=>whnf)
   refine .all ?_
   conv=>whnf
   refine ⟨by decide, ?_⟩
   (conv=>whnf);refine .ff ?_;(conv=>whnf)
   refine .take 9 ?_
   conv=>whnf
   refine ⟨rfl, ?_⟩
   (conv=>whnf);refine .ff ?_;(conv=>whnf)
   refine .take 10 ?_
   conv=>whnf
   refine ⟨rfl, ?_⟩
   conv=>whnf
   refine .take 11 ?_
   conv=>whnf
   refine ⟨rfl, ?_⟩
   (conv=>whnf);refine .ff ?_;(conv=>whnf)
   refine .take 12 ?_
   conv=>whnf
   refine ⟨rfl, ?_⟩
   (conv=>whnf);refine .ff ?_;(conv=>whnf)
   refine .take 13 ?_
   conv=>whnf
   refine ⟨rfl, ?_⟩
   conv=>whnf
   refine ⟨rfl, ?_⟩
   (conv=>whnf);refine .ff ?_;(conv=>whnf)
   refine DrawG.mk 11 _ [] (Ent.refl _) ?_
   conv=>whnf
   refine .take 0 ?_
   conv=>whnf
   refine ⟨rfl, ?_⟩
   conv=>whnf
   refine .all ?_
   conv=>whnf
   refine ⟨by decide, ?_⟩
   conv=>whnf
   refine CallG.pure (single_fork _ ((hB.right _).right _) hn hw) ?_
   rintro _ _ ⟨rfl, rfl⟩
   conv=>whnf
   refine .take 2 ?_
   conv=>whnf
   refine ⟨rfl, ?_⟩
   conv=>whnf
   refine .take 3 ?_
   conv=>whnf
   refine ⟨rfl, ?_⟩
   (conv=>whnf);refine .ff ?_;(conv=>whnf)
   refine .take 4 ?_
   conv=>whnf
   refine ⟨rfl, ?_⟩
   (conv=>whnf);refine .ff ?_;(conv=>whnf)
   refine .take 5 ?_
   conv=>whnf
   refine ⟨rfl, ?_⟩
   (conv=>whnf);refine .ff ?_;(conv=>whnf)
   refine .take 6 ?_
   conv=>whnf
   refine ⟨rfl, ?_⟩
   (conv=>whnf);refine .ff ?_;(conv=>whnf)
   refine .take 7 ?_
   conv=>whnf
   refine ⟨rfl, ?_⟩
   (conv=>whnf);refine .ff ?_;(conv=>whnf)
   refine .all ?_
   conv=>whnf
   refine ⟨by decide, ?_⟩
   (conv=>whnf);refine .ff ?_;(conv=>whnf)
   refine .take 9 ?_
   conv=>whnf
   refine ⟨rfl, ?_⟩
   (conv=>whnf);refine .ff ?_;(conv=>whnf)
   refine .take 10 ?_
   conv=>whnf
   refine ⟨rfl, ?_⟩
   conv=>whnf
   refine ⟨rfl, ?_⟩
   (conv=>whnf);refine .ff ?_;(conv=>whnf)
   refine CallG.pure (single_fork _ (hB.right _) hn hw) ?_
   rintro _ _ ⟨rfl, rfl⟩
   (conv=>whnf);refine .ff ?_;(conv=>whnf);refine .ff ?_;(conv=>whnf);refine .ff ?_;(conv=>whnf)
   refine DrawG.mk 10 _ [] (Ent.refl _) ?_
   conv=>whnf
   refine .take 0 ?_
   conv=>whnf
   refine ⟨rfl, ?_⟩
   conv=>whnf
   refine .take 1 ?_
   conv=>whnf
   refine ⟨rfl, ?_⟩
   conv=>whnf
   refine .take 2 ?_
   conv=>whnf
   refine ⟨rfl, ?_⟩
   conv=>whnf
   refine .take 3 ?_
   conv=>whnf
   refine ⟨rfl, ?_⟩
   conv=>whnf
   refine LoadG.atF (celn_l hc hs rfl rfl) ?_
   conv=>whnf
   refine .take 4 ?_
   conv=>whnf
   refine ⟨rfl, ?_⟩
   conv=>whnf
   refine .take 5 ?_
   conv=>whnf
   refine ⟨rfl, ?_⟩
   conv=>whnf
   refine .take 6 ?_
   conv=>whnf
   refine ⟨rfl, ?_⟩
   conv=>whnf
   refine .take 7 ?_
   conv=>whnf
   refine ⟨rfl, ?_⟩
   conv=>whnf
   refine LoadG.atF (celn_r hc hs rfl rfl) ?_
   conv=>whnf
   refine .take 8 ?_
   conv=>whnf
   refine ⟨rfl, ?_⟩
   conv=>whnf
   refine .take 9 ?_
   conv=>whnf
   refine ⟨rfl, ?_⟩
   conv=>whnf
   refine ⟨rfl, ?_⟩
   conv=>whnf
   refine CallG.pure (single_fork _ (hB.right _) hn hw) ?_
   rintro _ _ ⟨rfl, rfl⟩
   (conv=>whnf);refine .ff ?_;(conv=>whnf)
   refine LoadNG.at (vs := bvs key) (by rw [bvs_len, l1]) (.tl .all) ?_
   conv=>whnf
   refine CallG.pure (bit_spec _ key d h1 hlt) ?_
   rintro _ _ ⟨rfl, rfl⟩
   conv=>whnf
   refine CondG.split (fun hbit => ?_) (fun hbit => ?_)
   ·conv=>whnf
    refine LoadNG.at (vs := bvs key) (by rw [bvs_len, l1]) (.tl .all) ?_
    conv=>whnf
    refine LoadNG.at (vs := bvs val) (by rw [bvs_len, l2]) .all ?_
    conv=>whnf
    refine ArithG.i64' ((d + 1 : Nat) : Int) (by omega) (by omega) ?_
    conv=>whnf
    refine CallG.pure (ih f' (by omega) _ Bs _ _ (d + 1) (by omega) (hK.right _) (hB.right _) gr w2 (along_next a2 fun k hm => by rw [w4 k hm, hbit])) ?_
    rintro rv' _ ⟨Ns, rfl, hN⟩
    conv=>whnf
    have wN := (putT_wf h1 h2 f' (d + 1) _ (by omega) w2 (along_next a2 fun k hm => by rw [w4 k hm, hbit])).1
    refine CallG.pure (joined_spec hk _ (.right hK _) (BsG.app (BsG.left (BsG.here) F) (hB.right _)) _ _ _ _ (gl.app Ns) hN _ w1 wN) ?_
    rintro r _ ⟨Ms, rfl, hM⟩
    conv=>whnf
    refine ⟨rcs 144 (Ms ++ Ns), by rw [rcs_app, ← List.append_assoc]; exact Ent.dropL _ _, Ms ++ Ns, rfl, ?_⟩
    rw [eput, if_pos hbit, List.append_assoc]
    exact hM
   ·conv=>whnf
    refine LoadNG.at (vs := bvs key) (by rw [bvs_len, l1]) (.tl .all) ?_
    conv=>whnf
    refine LoadNG.at (vs := bvs val) (by rw [bvs_len, l2]) .all ?_
    conv=>whnf
    refine ArithG.i64' ((d + 1 : Nat) : Int) (by omega) (by omega) ?_
    conv=>whnf
    refine CallG.pure (ih f' (by omega) _ Bs _ _ (d + 1) (by omega) (hK.right _) (hB.right _) gl w1 (along_next a1 fun k hm => by rw [w3 k hm, hbit])) ?_
    rintro lv' _ ⟨Ns, rfl, hN⟩
    conv=>whnf
    have wN := (putT_wf h1 h2 f' (d + 1) _ (by omega) w1 (along_next a1 fun k hm => by rw [w3 k hm, hbit])).1
    refine CallG.pure (joined_spec hk _ (.right hK _) (BsG.app (BsG.left (BsG.here) F) (hB.right _)) _ _ _ _ hN (gr.app Ns) _ wN w2) ?_
    rintro r _ ⟨Ms, rfl, hM⟩
    conv=>whnf
    refine ⟨rcs 144 (Ms ++ Ns), by rw [rcs_app, ← List.append_assoc]; exact Ent.dropL _ _, Ms ++ Ns, rfl, ?_⟩
    rw [eput, if_neg (by simp [hbit]), List.append_assoc]
    exact hM
 ·cases t with
  | nil =>
   cases hn
   (conv=>whnf);repeat((with_reducible first|refine .tt ?_|refine .ff ?_);conv=>whnf)
   refine LoadNG.at (vs := bvs key) (by rw [bvs_len, l1]) (.tl .all) ?_
   conv=>whnf
   refine LoadNG.at (vs := bvs val) (by rw [bvs_len, l2]) .all ?_
   conv=>whnf
   refine CallG.pure (leaf_spec hk _ (hK.right _) key val h1 h2) ?_
   rintro _ _ ⟨b9, rfl, rfl⟩
   conv=>whnf
   refine ⟨rcs 144 [(b9, _)], (Ent.dropL [_] _).trans rcel_of, [(b9, _)], rfl, ?_⟩
   rw [putT_some (t' := .leaf key val) (by simp [putB, hz])]
   exact .leaf b9 _ _ (List.mem_append_left _ (List.mem_singleton.2 rfl))
  | leaf k dv =>
   have hn' := hn
   cases hn' with
   | leaf b _ _ h =>
   have hc : CelN F b 0 _ := hB _ h
   have hs := Trie.sum_len K (.leaf k dv)
   (conv=>whnf);refine .ff ?_;(conv=>whnf);refine .ff ?_;(conv=>whnf);refine .ff ?_;(conv=>whnf);refine .ff ?_;(conv=>whnf)
   refine DrawG.mk 14 _ [] (Ent.refl _) ?_
   conv=>whnf
   refine .take 0 ?_
   conv=>whnf
   refine ⟨rfl, ?_⟩
   conv=>whnf
   refine .all ?_
   conv=>whnf
   refine ⟨by decide, ?_⟩
   conv=>whnf
   refine CallG.pure (single_leaf _ ((hB.right _).right _) hn hw) ?_
   rintro _ _ ⟨rfl, rfl⟩
   conv=>whnf
   refine .take 2 ?_
   conv=>whnf
   refine ⟨rfl, ?_⟩
   conv=>whnf
   refine .take 3 ?_
   conv=>whnf
   refine ⟨rfl, ?_⟩
   (conv=>whnf);refine .tt ?_;(conv=>whnf)
   refine .take 4 ?_
   conv=>whnf
   refine ⟨rfl, ?_⟩
   (conv=>whnf);refine .tt ?_;(conv=>whnf)
   refine .take 5 ?_
   conv=>whnf
   refine ⟨rfl, ?_⟩
   (conv=>whnf);refine .tt ?_;(conv=>whnf)
   refine .take 6 ?_
   conv=>whnf
   refine ⟨rfl, ?_⟩
   (conv=>whnf);refine .tt ?_;(conv=>whnf)
   refine LoadNG.atF (by rw [bvs_len, hw.1.len]) (celn_key hc hs) ?_
   conv=>whnf
   refine .take 7 ?_
   conv=>whnf
   refine ⟨rfl, ?_⟩
   (conv=>whnf);refine .tt ?_;(conv=>whnf)
   refine LoadNG.at (vs := bvs key) (by rw [bvs_len, l1]) (.tl .all) ?_
   conv=>whnf
   refine .all ?_
   conv=>whnf
   refine ⟨by decide, ?_⟩
   (conv=>whnf);refine .tt ?_;(conv=>whnf)
   refine eqD hw.1.len l1 (fun hkk => ?_) (fun hkk => ?_)
   ·conv=>whnf
    refine .take 9 ?_
    conv=>whnf
    refine ⟨rfl, ?_⟩
    (conv=>whnf);refine .tt ?_;(conv=>whnf)
    refine .take 10 ?_
    conv=>whnf
    refine ⟨rfl, ?_⟩
    conv=>whnf
    refine .take 11 ?_
    conv=>whnf
    refine ⟨rfl, ?_⟩
    (conv=>whnf);refine .tt ?_;(conv=>whnf)
    refine .take 12 ?_
    conv=>whnf
    refine ⟨rfl, ?_⟩
    (conv=>whnf);refine .tt ?_;(conv=>whnf)
    refine .take 13 ?_
    conv=>whnf
    refine ⟨rfl, ?_⟩
    conv=>whnf
    refine ⟨rfl, ?_⟩
    (conv=>whnf);refine .ff ?_;(conv=>whnf)
    refine DrawG.mk 11 _ [] (Ent.refl _) ?_
    conv=>whnf
    refine .take 0 ?_
    conv=>whnf
    refine ⟨rfl, ?_⟩
    conv=>whnf
    refine .all ?_
    conv=>whnf
    refine ⟨by decide, ?_⟩
    conv=>whnf
    refine CallG.pure (single_leaf _ ((hB.right _).right _) hn hw) ?_
    rintro _ _ ⟨rfl, rfl⟩
    conv=>whnf
    refine .take 2 ?_
    conv=>whnf
    refine ⟨rfl, ?_⟩
    conv=>whnf
    refine .take 3 ?_
    conv=>whnf
    refine ⟨rfl, ?_⟩
    (conv=>whnf);refine .tt ?_;(conv=>whnf)
    refine .take 4 ?_
    conv=>whnf
    refine ⟨rfl, ?_⟩
    (conv=>whnf);refine .tt ?_;(conv=>whnf)
    refine .take 5 ?_
    conv=>whnf
    refine ⟨rfl, ?_⟩
    (conv=>whnf);refine .tt ?_;(conv=>whnf)
    refine .take 6 ?_
    conv=>whnf
    refine ⟨rfl, ?_⟩
    (conv=>whnf);refine .tt ?_;(conv=>whnf)
    refine LoadNG.atF (by rw [bvs_len, hw.1.len]) (celn_key hc hs) ?_
    conv=>whnf
    refine .take 7 ?_
    conv=>whnf
    refine ⟨rfl, ?_⟩
    (conv=>whnf);refine .tt ?_;(conv=>whnf)
    refine LoadNG.at (vs := bvs key) (by rw [bvs_len, l1]) (.tl .all) ?_
    conv=>whnf
    refine .all ?_
    conv=>whnf
    refine ⟨by decide, ?_⟩
    (conv=>whnf);refine .tt ?_;(conv=>whnf)
    refine eqD hw.1.len l1 (fun hk2 => ?_) (fun hk2 => ?_)
    ·conv=>whnf
     refine .take 9 ?_
     conv=>whnf
     refine ⟨rfl, ?_⟩
     (conv=>whnf);refine .tt ?_;(conv=>whnf)
     refine .take 10 ?_
     conv=>whnf
     refine ⟨rfl, ?_⟩
     conv=>whnf
     refine ⟨rfl, ?_⟩
     (conv=>whnf);refine .tt ?_;(conv=>whnf)
     refine LoadNG.at (vs := bvs key) (by rw [bvs_len, l1]) (.tl .all) ?_
     conv=>whnf
     refine LoadNG.at (vs := bvs val) (by rw [bvs_len, l2]) .all ?_
     conv=>whnf
     refine CallG.pure (leaf_spec hk _ (hK.right _) key val h1 h2) ?_
     rintro _ _ ⟨b9, rfl, rfl⟩
     conv=>whnf
     refine ⟨rcs 144 [(b9, _)], (Ent.dropL [_] _).trans rcel_of, [(b9, _)], rfl, ?_⟩
     rw [putT_some (t' := .leaf key val) (by simp [putB, hz, hkk])]
     exact .leaf b9 _ _ (List.mem_append_left _ (List.mem_singleton.2 rfl))
    ·exact absurd hkk hk2
   ·conv=>whnf
    refine .take 9 ?_
    conv=>whnf
    refine ⟨rfl, ?_⟩
    (conv=>whnf);refine .tt ?_;(conv=>whnf)
    refine .take 10 ?_
    conv=>whnf
    refine ⟨rfl, ?_⟩
    conv=>whnf
    refine .take 11 ?_
    conv=>whnf
    refine ⟨rfl, ?_⟩
    (conv=>whnf);refine .ff ?_;(conv=>whnf)
    refine .take 12 ?_
    conv=>whnf
    refine ⟨rfl, ?_⟩
    (conv=>whnf);refine .ff ?_;(conv=>whnf)
    refine .take 13 ?_
    conv=>whnf
    refine ⟨rfl, ?_⟩
    conv=>whnf
    refine ⟨rfl, ?_⟩
    (conv=>whnf);refine .ff ?_;(conv=>whnf)
    refine DrawG.mk 11 _ [] (Ent.refl _) ?_
    conv=>whnf
    refine .take 0 ?_
    conv=>whnf
    refine ⟨rfl, ?_⟩
    conv=>whnf
    refine .all ?_
    conv=>whnf
    refine ⟨by decide, ?_⟩
    conv=>whnf
    refine CallG.pure (single_leaf _ ((hB.right _).right _) hn hw) ?_
    rintro _ _ ⟨rfl, rfl⟩
    conv=>whnf
    refine .take 2 ?_
    conv=>whnf
    refine ⟨rfl, ?_⟩
    conv=>whnf
    refine .take 3 ?_
    conv=>whnf
    refine ⟨rfl, ?_⟩
    (conv=>whnf);refine .tt ?_;(conv=>whnf)
    refine .take 4 ?_
    conv=>whnf
    refine ⟨rfl, ?_⟩
    (conv=>whnf);refine .tt ?_;(conv=>whnf)
    refine .take 5 ?_
    conv=>whnf
    refine ⟨rfl, ?_⟩
    (conv=>whnf);refine .tt ?_;(conv=>whnf)
    refine .take 6 ?_
    conv=>whnf
    refine ⟨rfl, ?_⟩
    (conv=>whnf);refine .tt ?_;(conv=>whnf)
    refine LoadNG.atF (by rw [bvs_len, hw.1.len]) (celn_key hc hs) ?_
    conv=>whnf
    refine .take 7 ?_
    conv=>whnf
    refine ⟨rfl, ?_⟩
    (conv=>whnf);refine .tt ?_;(conv=>whnf)
    refine LoadNG.at (vs := bvs key) (by rw [bvs_len, l1]) (.tl .all) ?_
    conv=>whnf
    refine .all ?_
    conv=>whnf
    refine ⟨by decide, ?_⟩
    (conv=>whnf);refine .tt ?_;(conv=>whnf)
    refine eqD hw.1.len l1 (fun hk2 => ?_) (fun hk2 => ?_)
    ·exact absurd hk2 hkk
    conv=>whnf
    refine .take 9 ?_
    conv=>whnf
    refine ⟨rfl, ?_⟩
    (conv=>whnf);refine .tt ?_;(conv=>whnf)
    refine .take 10 ?_
    conv=>whnf
    refine ⟨rfl, ?_⟩
    conv=>whnf
    refine ⟨rfl, ?_⟩
    (conv=>whnf);refine .ff ?_;(conv=>whnf)
    refine CallG.pure (single_leaf _ (hB.right _) hn hw) ?_
    rintro _ _ ⟨rfl, rfl⟩
    (conv=>whnf);repeat((with_reducible first|refine .tt ?_|refine .ff ?_);conv=>whnf)
    have hnone : putB key val (.leaf k dv) = none := by simp [putB, hkk, hz]
    have hlt := putB_none h1 hw ha hnone
    obtain ⟨f', rfl⟩ : ∃ f', f = f' + 1 := ⟨f - 1, by omega⟩
    have ed : 255 - f' = d := by omega
    have eput := putT_none hnone f'
    rw [ed] at eput
    obtain ⟨w1, w2, w3, w4⟩ := halves_wf hw
    obtain ⟨a1, a2⟩ := halves_along ha
    refine DrawG.mk 10 _ [] (Ent.refl _) ?_
    conv=>whnf
    refine .take 0 ?_
    conv=>whnf
    refine ⟨rfl, ?_⟩
    conv=>whnf
    refine .take 1 ?_
    conv=>whnf
    refine ⟨rfl, ?_⟩
    conv=>whnf
    refine .take 2 ?_
    conv=>whnf
    refine ⟨rfl, ?_⟩
    conv=>whnf
    refine .take 3 ?_
    conv=>whnf
    refine ⟨rfl, ?_⟩
    conv=>whnf
    refine LoadG.atF (celn_l hc hs hw.1.len hw.2.len) ?_
    conv=>whnf
    refine .take 4 ?_
    conv=>whnf
    refine ⟨rfl, ?_⟩
    conv=>whnf
    refine .take 5 ?_
    conv=>whnf
    refine ⟨rfl, ?_⟩
    conv=>whnf
    refine .take 6 ?_
    conv=>whnf
    refine ⟨rfl, ?_⟩
    conv=>whnf
    refine .take 7 ?_
    conv=>whnf
    refine ⟨rfl, ?_⟩
    conv=>whnf
    refine LoadG.atF (celn_r hc hs hw.1.len hw.2.len) ?_
    conv=>whnf
    refine .take 8 ?_
    conv=>whnf
    refine ⟨rfl, ?_⟩
    conv=>whnf
    refine .take 9 ?_
    conv=>whnf
    refine ⟨rfl, ?_⟩
    conv=>whnf
    refine ⟨rfl, ?_⟩
    conv=>whnf
    refine CallG.pure (single_leaf _ (hB.right _) hn hw) ?_
    rintro _ _ ⟨rfl, rfl⟩
    (conv=>whnf);refine .tt ?_;(conv=>whnf)
    refine LoadNG.atF (by rw [bvs_len, hw.1.len]) (celn_key hc hs) ?_
    conv=>whnf
    refine CallG.pure (bit_spec _ k d hw.1 hlt) ?_
    rintro _ _ ⟨rfl, rfl⟩
    conv=>whnf
    refine CondG.split (fun hbk => ?_) (fun hbk => ?_)
    ·have gl : NdB K Bs (halves (.leaf k dv) d).1 (.pointer none) := by simp only [halves, hbk, if_true]; exact .nil
     have gr : NdB K Bs (halves (.leaf k dv) d).2 (ptrV b) := by simp only [halves, hbk, if_true]; exact hn
     conv=>whnf
     refine LoadNG.at (vs := bvs key) (by rw [bvs_len, l1]) (.tl .all) ?_
     conv=>whnf
     refine CallG.pure (bit_spec _ key d h1 hlt) ?_
     rintro _ _ ⟨rfl, rfl⟩
     conv=>whnf
     refine CondG.split (fun hbit => ?_) (fun hbit => ?_)
     ·conv=>whnf
      refine LoadNG.at (vs := bvs key) (by rw [bvs_len, l1]) (.tl .all) ?_
      conv=>whnf
      refine LoadNG.at (vs := bvs val) (by rw [bvs_len, l2]) .all ?_
      conv=>whnf
      refine ArithG.i64' ((d + 1 : Nat) : Int) (by omega) (by omega) ?_
      conv=>whnf
      refine CallG.pure (ih f' (by omega) _ Bs _ _ (d + 1) (by omega) (hK.right _) (hB.right _) gr w2 (along_next a2 fun k hm => by rw [w4 k hm, hbit])) ?_
      rintro rv' _ ⟨Ns, rfl, hN⟩
      conv=>whnf
      have wN := (putT_wf h1 h2 f' (d + 1) _ (by omega) w2 (along_next a2 fun k hm => by rw [w4 k hm, hbit])).1
      refine CallG.pure (joined_spec hk _ (.right hK _) (BsG.app (BsG.left (BsG.here) F) (hB.right _)) _ _ _ _ (gl.app Ns) hN _ w1 wN) ?_
      rintro r _ ⟨Ms, rfl, hM⟩
      conv=>whnf
      refine ⟨rcs 144 (Ms ++ Ns), by rw [rcs_app, ← List.append_assoc]; exact Ent.dropL _ _, Ms ++ Ns, rfl, ?_⟩
      rw [eput, if_pos hbit, List.append_assoc]
      exact hM
     ·conv=>whnf
      refine LoadNG.at (vs := bvs key) (by rw [bvs_len, l1]) (.tl .all) ?_
      conv=>whnf
      refine LoadNG.at (vs := bvs val) (by rw [bvs_len, l2]) .all ?_
      conv=>whnf
      refine ArithG.i64' ((d + 1 : Nat) : Int) (by omega) (by omega) ?_
      conv=>whnf
      refine CallG.pure (ih f' (by omega) _ Bs _ _ (d + 1) (by omega) (hK.right _) (hB.right _) gl w1 (along_next a1 fun k hm => by rw [w3 k hm, hbit])) ?_
      rintro lv' _ ⟨Ns, rfl, hN⟩
      conv=>whnf
      have wN := (putT_wf h1 h2 f' (d + 1) _ (by omega) w1 (along_next a1 fun k hm => by rw [w3 k hm, hbit])).1
      refine CallG.pure (joined_spec hk _ (.right hK _) (BsG.app (BsG.left (BsG.here) F) (hB.right _)) _ _ _ _ hN (gr.app Ns) _ wN w2) ?_
      rintro r _ ⟨Ms, rfl, hM⟩
      conv=>whnf
      refine ⟨rcs 144 (Ms ++ Ns), by rw [rcs_app, ← List.append_assoc]; exact Ent.dropL _ _, Ms ++ Ns, rfl, ?_⟩
      rw [eput, if_neg (by simp [hbit]), List.append_assoc]
      exact hM
    ·have gl : NdB K Bs (halves (.leaf k dv) d).1 (ptrV b) := by simp only [halves, hbk, Bool.false_eq_true, if_false]; exact hn
     have gr : NdB K Bs (halves (.leaf k dv) d).2 (.pointer none) := by simp only [halves, hbk, Bool.false_eq_true, if_false]; exact .nil
     conv=>whnf
     refine LoadNG.at (vs := bvs key) (by rw [bvs_len, l1]) (.tl .all) ?_
     conv=>whnf
     refine CallG.pure (bit_spec _ key d h1 hlt) ?_
     rintro _ _ ⟨rfl, rfl⟩
     conv=>whnf
     refine CondG.split (fun hbit => ?_) (fun hbit => ?_)
     ·conv=>whnf
      refine LoadNG.at (vs := bvs key) (by rw [bvs_len, l1]) (.tl .all) ?_
      conv=>whnf
      refine LoadNG.at (vs := bvs val) (by rw [bvs_len, l2]) .all ?_
      conv=>whnf
      refine ArithG.i64' ((d + 1 : Nat) : Int) (by omega) (by omega) ?_
      conv=>whnf
      refine CallG.pure (ih f' (by omega) _ Bs _ _ (d + 1) (by omega) (hK.right _) (hB.right _) gr w2 (along_next a2 fun k hm => by rw [w4 k hm, hbit])) ?_
      rintro rv' _ ⟨Ns, rfl, hN⟩
      conv=>whnf
      have wN := (putT_wf h1 h2 f' (d + 1) _ (by omega) w2 (along_next a2 fun k hm => by rw [w4 k hm, hbit])).1
      refine CallG.pure (joined_spec hk _ (.right hK _) (BsG.app (BsG.left (BsG.here) F) (hB.right _)) _ _ _ _ (gl.app Ns) hN _ w1 wN) ?_
      rintro r _ ⟨Ms, rfl, hM⟩
      conv=>whnf
      refine ⟨rcs 144 (Ms ++ Ns), by rw [rcs_app, ← List.append_assoc]; exact Ent.dropL _ _, Ms ++ Ns, rfl, ?_⟩
      rw [eput, if_pos hbit, List.append_assoc]
      exact hM
     ·conv=>whnf
      refine LoadNG.at (vs := bvs key) (by rw [bvs_len, l1]) (.tl .all) ?_
      conv=>whnf
      refine LoadNG.at (vs := bvs val) (by rw [bvs_len, l2]) .all ?_
      conv=>whnf
      refine ArithG.i64' ((d + 1 : Nat) : Int) (by omega) (by omega) ?_
      conv=>whnf
      refine CallG.pure (ih f' (by omega) _ Bs _ _ (d + 1) (by omega) (hK.right _) (hB.right _) gl w1 (along_next a1 fun k hm => by rw [w3 k hm, hbit])) ?_
      rintro lv' _ ⟨Ns, rfl, hN⟩
      conv=>whnf
      have wN := (putT_wf h1 h2 f' (d + 1) _ (by omega) w1 (along_next a1 fun k hm => by rw [w3 k hm, hbit])).1
      refine CallG.pure (joined_spec hk _ (.right hK _) (BsG.app (BsG.left (BsG.here) F) (hB.right _)) _ _ _ _ hN (gr.app Ns) _ wN w2) ?_
      rintro r _ ⟨Ms, rfl, hM⟩
      conv=>whnf
      refine ⟨rcs 144 (Ms ++ Ns), by rw [rcs_app, ← List.append_assoc]; exact Ent.dropL _ _, Ms ++ Ns, rfl, ?_⟩
      rw [eput, if_neg (by simp [hbit]), List.append_assoc]
      exact hM
  | fork l r =>
   have hn' := hn
   cases hn' with
   | fork b _ _ lv rv h gl gr =>
   have hc : CelN F b 0 _ := hB _ h
   have hs := Trie.sum_len K (.fork l r)
   have hnone : putB key val (.fork l r) = none := rfl
   have hlt := putB_none h1 hw ha hnone
   obtain ⟨f', rfl⟩ : ∃ f', f = f' + 1 := ⟨f - 1, by omega⟩
   have ed : 255 - f' = d := by omega
   have eput := putT_none hnone f'
   rw [ed] at eput
   obtain ⟨w1, w2, w3, w4⟩ := halves_wf hw
   obtain ⟨a1, a2⟩ := halves_along ha
   (conv=>whnf);refine .ff ?_;(conv=>whnf);refine .ff ?_;(conv=>whnf);refine .ff ?_;(conv=>whnf);refine .ff ?_;(conv=>whnf)
   refine DrawG.mk 14 _ [] (Ent.refl _) ?_
   conv=>whnf
   refine .take 0 ?_
   conv=>whnf
   refine ⟨rfl, ?_⟩
   conv=>whnf
   refine .all ?_
   conv=>whnf
   refine ⟨by decide, ?_⟩
   conv=>whnf
   refine CallG.pure (single_fork _ ((hB.right _).right _) hn hw) ?_
   rintro _ _ ⟨rfl, rfl⟩
   conv=>whnf
   refine .take 2 ?_
   conv=>whnf
   refine ⟨rfl, ?_⟩
   conv=>whnf
   refine .take 3 ?_
   conv=>whnf
   refine ⟨rfl, ?_⟩
   (conv=>whnf);refine .ff ?_;(conv=>whnf)
   refine .take 4 ?_
   conv=>whnf
   refine ⟨rfl, ?_⟩
   (conv=>whnf);refine .ff ?_;(conv=>whnf)
   refine .take 5 ?_
   conv=>whnf
   refine ⟨rfl, ?_⟩
   (conv=>whnf);refine .ff ?_;(conv=>whnf)
   refine .take 6 ?_
   conv=>whnf
   refine ⟨rfl, ?_⟩
   (conv=>whnf);refine .ff ?_;(conv=>whnf)
   refine .take 7 ?_
   conv=>whnf
   refine ⟨rfl, ?_⟩
   (conv=>whnf);refine .ff ?_;(conv=>whnf)
   refine .all ?_
   conv=>whnf
   refine ⟨by decide, ?_⟩
   (conv=>whnf);refine .ff ?_;(conv=>whnf)
   refine .take 9 ?_
   conv=>whnf
   refine ⟨rfl, ?_⟩
   (conv=>whnf);refine .ff ?_;(conv=>whnf)
   refine .take 10 ?_
   conv=>whnf
   refine ⟨rfl, ?_⟩
   conv=>whnf
   refine .take 11 ?_
   conv=>whnf
   refine ⟨rfl, ?_⟩
   (conv=>whnf);refine .ff ?_;(conv=>whnf)
   refine .take 12 ?_
   conv=>whnf
   refine ⟨rfl, ?_⟩
   (conv=>whnf);refine .ff ?_;(conv=>whnf)
   refine .take 13 ?_
   conv=>whnf
   refine ⟨rfl, ?_⟩
   conv=>whnf
   refine ⟨rfl, ?_⟩
   (conv=>whnf);refine .ff ?_;(conv=>whnf)
   refine DrawG.mk 11 _ [] (Ent.refl _) ?_
   conv=>whnf
   refine .take 0 ?_
   conv=>whnf
   refine ⟨rfl, ?_⟩
   conv=>whnf
   refine .all ?_
   conv=>whnf
   refine ⟨by decide, ?_⟩
   conv=>whnf
   refine CallG.pure (single_fork _ ((hB.right _).right _) hn hw) ?_
   rintro _ _ ⟨rfl, rfl⟩
   conv=>whnf
   refine .take 2 ?_
   conv=>whnf
   refine ⟨rfl, ?_⟩
   conv=>whnf
   refine .take 3 ?_
   conv=>whnf
   refine ⟨rfl, ?_⟩
   (conv=>whnf);refine .ff ?_;(conv=>whnf)
   refine .take 4 ?_
   conv=>whnf
   refine ⟨rfl, ?_⟩
   (conv=>whnf);refine .ff ?_;(conv=>whnf)
   refine .take 5 ?_
   conv=>whnf
   refine ⟨rfl, ?_⟩
   (conv=>whnf);refine .ff ?_;(conv=>whnf)
   refine .take 6 ?_
   conv=>whnf
   refine ⟨rfl, ?_⟩
   (conv=>whnf);refine .ff ?_;(conv=>whnf)
   refine .take 7 ?_
   conv=>whnf
   refine ⟨rfl, ?_⟩
   (conv=>whnf);refine .ff ?_;(conv=>whnf)
   refine .all ?_
   conv=>whnf
   refine ⟨by decide, ?_⟩
   (conv=>whnf);refine .ff ?_;(conv=>whnf)
   refine .take 9 ?_
   conv=>whnf
   refine ⟨rfl, ?_⟩
   (conv=>whnf);refine .ff ?_;(conv=>whnf)
   refine .take 10 ?_
   conv=>whnf
   refine ⟨rfl, ?_⟩
   conv=>whnf
   refine ⟨rfl, ?_⟩
   (conv=>whnf);refine .ff ?_;(conv=>whnf)
   refine CallG.pure (single_fork _ (hB.right _) hn hw) ?_
   rintro _ _ ⟨rfl, rfl⟩
   (conv=>whnf);refine .ff ?_;(conv=>whnf);refine .ff ?_;(conv=>whnf);refine .ff ?_;(conv=>whnf)
   refine DrawG.mk 10 _ [] (Ent.refl _) ?_
   conv=>whnf
   refine .take 0 ?_
   conv=>whnf
   refine ⟨rfl, ?_⟩
   conv=>whnf
   refine .take 1 ?_
   conv=>whnf
   refine ⟨rfl, ?_⟩
   conv=>whnf
   refine .take 2 ?_
   conv=>whnf
   refine ⟨rfl, ?_⟩
   conv=>whnf
   refine .take 3 ?_
   conv=>whnf
   refine ⟨rfl, ?_⟩
   conv=>whnf
   refine LoadG.atF (celn_l hc hs rfl rfl) ?_
   conv=>whnf
   refine .take 4 ?_
   conv=>whnf
   refine ⟨rfl, ?_⟩
   conv=>whnf
   refine .take 5 ?_
   conv=>whnf
   refine ⟨rfl, ?_⟩
   conv=>whnf
   refine .take 6 ?_
   conv=>whnf
   refine ⟨rfl, ?_⟩
   conv=>whnf
   refine .take 7 ?_
   conv=>whnf
   refine ⟨rfl, ?_⟩
   conv=>whnf
   refine LoadG.atF (celn_r hc hs rfl rfl) ?_
   conv=>whnf
   refine .take 8 ?_
   conv=>whnf
   refine ⟨rfl, ?_⟩
   conv=>whnf
   refine .take 9 ?_
   conv=>whnf
   refine ⟨rfl, ?_⟩
   conv=>whnf
   refine ⟨rfl, ?_⟩
   conv=>whnf
   refine CallG.pure (single_fork _ (hB.right _) hn hw) ?_
   rintro _ _ ⟨rfl, rfl⟩
   (conv=>whnf);refine .ff ?_;(conv=>whnf)
   refine LoadNG.at (vs := bvs key) (by rw [bvs_len, l1]) (.tl .all) ?_
   conv=>whnf
   refine CallG.pure (bit_spec _ key d h1 hlt) ?_
   rintro _ _ ⟨rfl, rfl⟩
   conv=>whnf
   refine CondG.split (fun hbit => ?_) (fun hbit => ?_)
   ·conv=>whnf
    refine LoadNG.at (vs := bvs key) (by rw [bvs_len, l1]) (.tl .all) ?_
    conv=>whnf
    refine LoadNG.at (vs := bvs val) (by rw [bvs_len, l2]) .all ?_
    conv=>whnf
    refine ArithG.i64' ((d + 1 : Nat) : Int) (by omega) (by omega) ?_
    conv=>whnf
    refine CallG.pure (ih f' (by omega) _ Bs _ _ (d + 1) (by omega) (hK.right _) (hB.right _) gr w2 (along_next a2 fun k hm => by rw [w4 k hm, hbit])) ?_
    rintro rv' _ ⟨Ns, rfl, hN⟩
    conv=>whnf
    have wN := (putT_wf h1 h2 f' (d + 1) _ (by omega) w2 (along_next a2 fun k hm => by rw [w4 k hm, hbit])).1
    refine CallG.pure (joined_spec hk _ (.right hK _) (BsG.app (BsG.left (BsG.here) F) (hB.right _)) _ _ _ _ (gl.app Ns) hN _ w1 wN) ?_
    rintro r _ ⟨Ms, rfl, hM⟩
    conv=>whnf
    refine ⟨rcs 144 (Ms ++ Ns), by rw [rcs_app, ← List.append_assoc]; exact Ent.dropL _ _, Ms ++ Ns, rfl, ?_⟩
    rw [eput, if_pos hbit, List.append_assoc]
    exact hM
   ·conv=>whnf
    refine LoadNG.at (vs := bvs key) (by rw [bvs_len, l1]) (.tl .all) ?_
    conv=>whnf
    refine LoadNG.at (vs := bvs val) (by rw [bvs_len, l2]) .all ?_
    conv=>whnf
    refine ArithG.i64' ((d + 1 : Nat) : Int) (by omega) (by omega) ?_
    conv=>whnf
    refine CallG.pure (ih f' (by omega) _ Bs _ _ (d + 1) (by omega) (hK.right _) (hB.right _) gl w1 (along_next a1 fun k hm => by rw [w3 k hm, hbit])) ?_
    rintro lv' _ ⟨Ns, rfl, hN⟩
    conv=>whnf
    have wN := (putT_wf h1 h2 f' (d + 1) _ (by omega) w1 (along_next a1 fun k hm => by rw [w3 k hm, hbit])).1
    refine CallG.pure (joined_spec hk _ (.right hK _) (BsG.app (BsG.left (BsG.here) F) (hB.right _)) _ _ _ _ hN (gr.app Ns) _ wN w2) ?_
    rintro r _ ⟨Ms, rfl, hM⟩
    conv=>whnf
    refine ⟨rcs 144 (Ms ++ Ns), by rw [rcs_app, ← List.append_assoc]; exact Ent.dropL _ _, Ms ++ Ns, rfl, ?_⟩
    rw [eput, if_neg (by simp [hbit]), List.append_assoc]
    exact hM
omit hk in
theorem last5 (A : List HP) (a b c d p : HP) : Ent (A ++ [] ++ [a, b, c, d, p]) (p :: (A ++ [a, b, c, d])) := by
 have h := Ent.last (L := A ++ [a, b, c, d]) (p := p)
 simpa using h
omit hk in
theorem ptr_is {t : Trie} {v : Value} (h : NdB K Bs t v) : ∃ a, v = .pointer a := by cases h <;> exact ⟨_, rfl⟩
open Classical in
theorem mput_spec (F : List HP) (hK : CelN F 0 0 (wvs K)) (hB : BsG F Bs) (q : Nat) (top : Value) (len : Int) (t : Trie) (hn : NdB K Bs t top) (hw : t.wf 0) (key val : List Nat) (h1 : IsD key) (h2 : IsD val) :
 SpecF Tryd.prog 74 [.pointer (some ⟨q, 0, none⟩), .agg ⟨bvs key⟩, .agg ⟨bvs val⟩] F [cel q 124 [top, .int .i64 len]]
  (fun _ L => ∃ Ns top' len', L = cel q 124 [top', .int .i64 len'] :: rcs 144 Ns ∧ NdB K (Ns ++ Bs) (putT key val 256 t) top') := by
 have l1 := h1.len
 have l2 := h2.len
 have lf : (findT key 0 t).length = 32 := (findT_is key 0 t hw).len
 refine fun74.spec rfl ?_
 conv=>whnf
 intro b4
 conv=>whnf
 intro b5
 conv=>whnf
 refine BuildG.of (cs := bvs zd) rfl ?_
 conv=>whnf
 intro b6
 conv=>whnf
 refine StoreG.at rfl (Upd.whole (vs := bvs zd) rfl (bvs_one _)) ?_
 conv=>whnf
 refine DrawG.mk 7 _ [] (Ent.refl _) ?_
 conv=>whnf
 refine .take 0 ?_
 conv=>whnf
 refine ⟨rfl, ?_⟩
 conv=>whnf
 refine .take 1 ?_
 conv=>whnf
 refine ⟨rfl, ?_⟩
 conv=>whnf
 refine .take 2 ?_
 conv=>whnf
 refine ⟨rfl, ?_⟩
 conv=>whnf
 refine .take 3 ?_
 conv=>whnf
 refine ⟨rfl, ?_⟩
 conv=>whnf
 refine LoadG.at (.tl (.tl (.tl (.here rfl)))) ?_
 conv=>whnf
 refine .take 4 ?_
 conv=>whnf
 refine ⟨rfl, ?_⟩
 conv=>whnf
 refine LoadNG.at (vs := bvs key) (by rw [bvs_len, l1]) (.tl (.tl .all)) ?_
 conv=>whnf
 refine .all ?_
 conv=>whnf
 refine ⟨by decide, ?_⟩
 refine ⟨?_, ?_⟩
 ·conv=>whnf
  refine CallG.pure (find_spec_x _ ((hB.right _).right _) t top hn hw key h1) ?_
  rintro _ _ ⟨rfl, rfl⟩
  conv=>whnf
  refine .all ?_
  conv=>whnf
  refine ⟨by decide, ?_⟩
  conv=>whnf
  intro b7
  conv=>whnf
  refine .all ?_
  conv=>whnf
  refine ⟨by decide, ?_⟩
  conv=>whnf
  refine ⟨rfl, ?_⟩
  conv=>whnf
  refine StoreG.at (by rw [bvs_len, lf]) (Upd.whole (vs := bvs (findT key 0 t)) (by rw [bvs_len, lf]; rfl) (bvs_one _)) ?_
  conv=>whnf
  refine ⟨rfl, ?_⟩
  conv=>whnf
  refine LoadNG.at (vs := bvs (findT key 0 t)) (by rw [bvs_len, lf]) .all ?_
  conv=>whnf
  refine LoadNG.at (vs := bvs zd) rfl (.tl .all) ?_
  conv=>whnf
  refine eqD lf rfl (fun hz => ?_) (fun hz => ?_)
  ·(conv=>whnf);refine .nff ?_;(conv=>whnf)
   refine LoadNG.at (vs := bvs val) (by rw [bvs_len, l2]) (.tl (.tl .all)) ?_
   conv=>whnf
   refine LoadNG.at (vs := bvs zd) rfl (.tl .all) ?_
   conv=>whnf
   refine eqD l2 rfl (fun hz2 => ?_) (fun hz2 => ?_)
   ·(conv=>whnf);refine .nff ?_;(conv=>whnf)
    refine DrawG.mk 10 _ [] (Ent.refl _) ?_
    conv=>whnf
    refine .take 0 ?_
    conv=>whnf
    refine ⟨rfl, ?_⟩
    conv=>whnf
    refine .take 1 ?_
    conv=>whnf
    refine ⟨rfl, ?_⟩
    conv=>whnf
    refine .take 2 ?_
    conv=>whnf
    refine ⟨rfl, ?_⟩
    conv=>whnf
    refine .take 3 ?_
    conv=>whnf
    refine ⟨rfl, ?_⟩
    conv=>whnf
    refine .take 4 ?_
    conv=>whnf
    refine ⟨rfl, ?_⟩
    conv=>whnf
    refine LoadG.at (.tl (.tl (.tl (.tl (.here rfl))))) ?_
    conv=>whnf
    refine .take 5 ?_
    conv=>whnf
    refine ⟨rfl, ?_⟩
    conv=>whnf
    refine LoadNG.at (vs := bvs key) (by rw [bvs_len, l1]) (.tl (.tl (.tl .all))) ?_
    conv=>whnf
    refine .take 6 ?_
    conv=>whnf
    refine ⟨rfl, ?_⟩
    conv=>whnf
    refine LoadNG.at (vs := bvs val) (by rw [bvs_len, l2]) (.tl (.tl .all)) ?_
    conv=>whnf
    refine .all ?_
    conv=>whnf
    refine ⟨by decide, ?_⟩
    conv=>whnf
    refine CallG.pure (put_spec_x hk key val h1 h2 256 _ Bs t top 0 rfl (.right (.right hK _) _) ((hB.right _).right _) hn hw (along_zero _ _)) ?_
    rintro top' _ ⟨Ns, rfl, hN⟩
    obtain ⟨ta, rfl⟩ := ptr_is hN
    conv=>whnf
    refine .all ?_
    conv=>whnf
    refine ⟨by decide, ?_⟩
    conv=>whnf
    refine .all ?_
    conv=>whnf
    refine ⟨by decide, ?_⟩
    conv=>whnf
    refine .all ?_
    conv=>whnf
    refine ⟨by decide, ?_⟩
    conv=>whnf
    refine ⟨rfl, ?_⟩
    conv=>whnf
    refine StoreG.ent (last5 (rcs 144 Ns) _ _ _ _ _) ?_
    refine StoreG.at rfl (Upd.here (by simp) rfl) ?_
    conv=>whnf
    refine ⟨rfl, ?_⟩
    conv=>whnf
    exact ⟨cel q 124 [.pointer ta, .int .i64 _] :: rcs 144 Ns, Ent.cons _ (Ent.dropL _ _), Ns, .pointer ta, _, rfl, hN⟩
   ·(conv=>whnf);refine .ntt ?_;(conv=>whnf)
    refine LoadG.at (.tl (.tl (.tl (.tl (.here rfl))))) ?_
    conv=>whnf
    refine ArithG.all ?_
    conv=>whnf
    refine StoreG.at rfl (.tl (.tl (.tl (.tl (.here (by simp) rfl))))) ?_
    conv=>whnf
    refine DrawG.mk 10 _ [] (Ent.refl _) ?_
    conv=>whnf
    refine .take 0 ?_
    conv=>whnf
    refine ⟨rfl, ?_⟩
    conv=>whnf
    refine .take 1 ?_
    conv=>whnf
    refine ⟨rfl, ?_⟩
    conv=>whnf
    refine .take 2 ?_
    conv=>whnf
    refine ⟨rfl, ?_⟩
    conv=>whnf
    refine .take 3 ?_
    conv=>whnf
    refine ⟨rfl, ?_⟩
    conv=>whnf
    refine .take 4 ?_
    conv=>whnf
    refine ⟨rfl, ?_⟩
    conv=>whnf
    refine LoadG.at (.tl (.tl (.tl (.tl (.here rfl))))) ?_
    conv=>whnf
    refine .take 5 ?_
    conv=>whnf
    refine ⟨rfl, ?_⟩
    conv=>whnf
    refine LoadNG.at (vs := bvs key) (by rw [bvs_len, l1]) (.tl (.tl (.tl .all))) ?_
    conv=>whnf
    refine .take 6 ?_
    conv=>whnf
    refine ⟨rfl, ?_⟩
    conv=>whnf
    refine LoadNG.at (vs := bvs val) (by rw [bvs_len, l2]) (.tl (.tl .all)) ?_
    conv=>whnf
    refine .all ?_
    conv=>whnf
    refine ⟨by decide, ?_⟩
    conv=>whnf
    refine CallG.pure (put_spec_x hk key val h1 h2 256 _ Bs t top 0 rfl (.right (.right hK _) _) ((hB.right _).right _) hn hw (along_zero _ _)) ?_
    rintro top' _ ⟨Ns, rfl, hN⟩
    obtain ⟨ta, rfl⟩ := ptr_is hN
    conv=>whnf
    refine .all ?_
    conv=>whnf
    refine ⟨by decide, ?_⟩
    conv=>whnf
    refine .all ?_
    conv=>whnf
    refine ⟨by decide, ?_⟩
    conv=>whnf
    refine .all ?_
    conv=>whnf
    refine ⟨by decide, ?_⟩
    conv=>whnf
    refine ⟨rfl, ?_⟩
    conv=>whnf
    refine StoreG.ent (last5 (rcs 144 Ns) _ _ _ _ _) ?_
    refine StoreG.at rfl (Upd.here (by simp) rfl) ?_
    conv=>whnf
    refine ⟨rfl, ?_⟩
    conv=>whnf
    exact ⟨cel q 124 [.pointer ta, .int .i64 _] :: rcs 144 Ns, Ent.cons _ (Ent.dropL _ _), Ns, .pointer ta, _, rfl, hN⟩
  ·(conv=>whnf);refine .ntt ?_;(conv=>whnf)
   refine LoadG.at (.tl (.tl (.tl (.tl (.here rfl))))) ?_
   conv=>whnf
   refine ArithG.all ?_
   conv=>whnf
   refine StoreG.at rfl (.tl (.tl (.tl (.tl (.here (by simp) rfl))))) ?_
   conv=>whnf
   refine LoadNG.at (vs := bvs val) (by rw [bvs_len, l2]) (.tl (.tl .all)) ?_
   conv=>whnf
   refine LoadNG.at (vs := bvs zd) rfl (.tl .all) ?_
   conv=>whnf
   refine eqD l2 rfl (fun hz2 => ?_) (fun hz2 => ?_)
   ·(conv=>whnf);refine .nff ?_;(conv=>whnf)
    refine DrawG.mk 10 _ [] (Ent.refl _) ?_
    conv=>whnf
    refine .take 0 ?_
    conv=>whnf
    refine ⟨rfl, ?_⟩
    conv=>whnf
    refine .take 1 ?_
    conv=>whnf
    refine ⟨rfl, ?_⟩
    conv=>whnf
    refine .take 2 ?_
    conv=>whnf
    refine ⟨rfl, ?_⟩
    conv=>whnf
    refine .take 3 ?_
    conv=>whnf
    refine ⟨rfl, ?_⟩
    conv=>whnf
    refine .take 4 ?_
    conv=>whnf
    refine ⟨rfl, ?_⟩
    conv=>whnf
    refine LoadG.at (.tl (.tl (.tl (.tl (.here rfl))))) ?_
    conv=>whnf
    refine .take 5 ?_
    conv=>whnf
    refine ⟨rfl, ?_⟩
    conv=>whnf
    refine LoadNG.at (vs := bvs key) (by rw [bvs_len, l1]) (.tl (.tl (.tl .all))) ?_
    conv=>whnf
    refine .take 6 ?_
    conv=>whnf
    refine ⟨rfl, ?_⟩
    conv=>whnf
    refine LoadNG.at (vs := bvs val) (by rw [bvs_len, l2]) (.tl (.tl .all)) ?_
    conv=>whnf
    refine .all ?_
    conv=>whnf
    refine ⟨by decide, ?_⟩
    conv=>whnf
    refine CallG.pure (put_spec_x hk key val h1 h2 256 _ Bs t top 0 rfl (.right (.right hK _) _) ((hB.right _).right _) hn hw (along_zero _ _)) ?_
    rintro top' _ ⟨Ns, rfl, hN⟩
    obtain ⟨ta, rfl⟩ := ptr_is hN
    conv=>whnf
    refine .all ?_
    conv=>whnf
    refine ⟨by decide, ?_⟩
    conv=>whnf
    refine .all ?_
    conv=>whnf
    refine ⟨by decide, ?_⟩
    conv=>whnf
    refine .all ?_
    conv=>whnf
    refine ⟨by decide, ?_⟩
    conv=>whnf
    refine ⟨rfl, ?_⟩
    conv=>whnf
    refine StoreG.ent (last5 (rcs 144 Ns) _ _ _ _ _) ?_
    refine StoreG.at rfl (Upd.here (by simp) rfl) ?_
    conv=>whnf
    refine ⟨rfl, ?_⟩
    conv=>whnf
    exact ⟨cel q 124 [.pointer ta, .int .i64 _] :: rcs 144 Ns, Ent.cons _ (Ent.dropL _ _), Ns, .pointer ta, _, rfl, hN⟩
   ·(conv=>whnf);refine .ntt ?_;(conv=>whnf)
    refine LoadG.at (.tl (.tl (.tl (.tl (.here rfl))))) ?_
    conv=>whnf
    refine ArithG.all ?_
    conv=>whnf
    refine StoreG.at rfl (.tl (.tl (.tl (.tl (.here (by simp) rfl))))) ?_
    conv=>whnf
    refine DrawG.mk 10 _ [] (Ent.refl _) ?_
    conv=>whnf
    refine .take 0 ?_
    conv=>whnf
    refine ⟨rfl, ?_⟩
    conv=>whnf
    refine .take 1 ?_
    conv=>whnf
    refine ⟨rfl, ?_⟩
    conv=>whnf
    refine .take 2 ?_
    conv=>whnf
    refine ⟨rfl, ?_⟩
    conv=>whnf
    refine .take 3 ?_
    conv=>whnf
    refine ⟨rfl, ?_⟩
    conv=>whnf
    refine .take 4 ?_
    conv=>whnf
    refine ⟨rfl, ?_⟩
    conv=>whnf
    refine LoadG.at (.tl (.tl (.tl (.tl (.here rfl))))) ?_
    conv=>whnf
    refine .take 5 ?_
    conv=>whnf
    refine ⟨rfl, ?_⟩
    conv=>whnf
    refine LoadNG.at (vs := bvs key) (by rw [bvs_len, l1]) (.tl (.tl (.tl .all))) ?_
    conv=>whnf
    refine .take 6 ?_
    conv=>whnf
    refine ⟨rfl, ?_⟩
    conv=>whnf
    refine LoadNG.at (vs := bvs val) (by rw [bvs_len, l2]) (.tl (.tl .all)) ?_
    conv=>whnf
    refine .all ?_
    conv=>whnf
    refine ⟨by decide, ?_⟩
    conv=>whnf
    refine CallG.pure (put_spec_x hk key val h1 h2 256 _ Bs t top 0 rfl (.right (.right hK _) _) ((hB.right _).right _) hn hw (along_zero _ _)) ?_
    rintro top' _ ⟨Ns, rfl, hN⟩
    obtain ⟨ta, rfl⟩ := ptr_is hN
    conv=>whnf
    refine .all ?_
    conv=>whnf
    refine ⟨by decide, ?_⟩
    conv=>whnf
    refine .all ?_
    conv=>whnf
    refine ⟨by decide, ?_⟩
    conv=>whnf
    refine .all ?_
    conv=>whnf
    refine ⟨by decide, ?_⟩
    conv=>whnf
    refine ⟨rfl, ?_⟩
    conv=>whnf
    refine StoreG.ent (last5 (rcs 144 Ns) _ _ _ _ _) ?_
    refine StoreG.at rfl (Upd.here (by simp) rfl) ?_
    conv=>whnf
    refine ⟨rfl, ?_⟩
    conv=>whnf
    exact ⟨cel q 124 [.pointer ta, .int .i64 _] :: rcs 144 Ns, Ent.cons _ (Ent.dropL _ _), Ns, .pointer ta, _, rfl, hN⟩
 ·conv=>whnf
  intro b7
  conv=>whnf
  refine .all ?_
  conv=>whnf
  refine ⟨by decide, ?_⟩
  conv=>whnf
  refine CallG.pure (find_spec_x _ ((hB.right _).right _) t top hn hw key h1) ?_
  rintro _ _ ⟨rfl, rfl⟩
  conv=>whnf
  refine .all ?_
  conv=>whnf
  refine ⟨by decide, ?_⟩
  conv=>whnf
  refine ⟨rfl, ?_⟩
  conv=>whnf
  refine StoreG.at (by rw [bvs_len, lf]) (Upd.whole (vs := bvs (findT key 0 t)) (by rw [bvs_len, lf]; rfl) (bvs_one _)) ?_
  conv=>whnf
  refine ⟨rfl, ?_⟩
  conv=>whnf
  refine LoadNG.at (vs := bvs (findT key 0 t)) (by rw [bvs_len, lf]) .all ?_
  conv=>whnf
  refine LoadNG.at (vs := bvs zd) rfl (.tl .all) ?_
  conv=>whnf
  refine eqD lf rfl (fun hz => ?_) (fun hz => ?_)
  ·(conv=>whnf);refine .nff ?_;(conv=>whnf)
   refine LoadNG.at (vs := bvs val) (by rw [bvs_len, l2]) (.tl (.tl .all)) ?_
   conv=>whnf
   refine LoadNG.at (vs := bvs zd) rfl (.tl .all) ?_
   conv=>whnf
   refine eqD l2 rfl (fun hz2 => ?_) (fun hz2 => ?_)
   ·(conv=>whnf);refine .nff ?_;(conv=>whnf)
    refine DrawG.mk 10 _ [] (Ent.refl _) ?_
    conv=>whnf
    refine .take 0 ?_
    conv=>whnf
    refine ⟨rfl, ?_⟩
    conv=>whnf
    refine .take 1 ?_
    conv=>whnf
    refine ⟨rfl, ?_⟩
    conv=>whnf
    refine .take 2 ?_
    conv=>whnf
    refine ⟨rfl, ?_⟩
    conv=>whnf
    refine .take 3 ?_
    conv=>whnf
    refine ⟨rfl, ?_⟩
    conv=>whnf
    refine .take 4 ?_
    conv=>whnf
    refine ⟨rfl, ?_⟩
    conv=>whnf
    refine LoadG.at (.tl (.tl (.tl (.tl (.here rfl))))) ?_
    conv=>whnf
    refine .take 5 ?_
    conv=>whnf
    refine ⟨rfl, ?_⟩
    conv=>whnf
    refine LoadNG.at (vs := bvs key) (by rw [bvs_len, l1]) (.tl (.tl (.tl .all))) ?_
    conv=>whnf
    refine .take 6 ?_
    conv=>whnf
    refine ⟨rfl, ?_⟩
    conv=>whnf
    refine LoadNG.at (vs := bvs val) (by rw [bvs_len, l2]) (.tl (.tl .all)) ?_
    conv=>whnf
    refine .all ?_
    conv=>whnf
    refine ⟨by decide, ?_⟩
    conv=>whnf
    refine CallG.pure (put_spec_x hk key val h1 h2 256 _ Bs t top 0 rfl (.right (.right hK _) _) ((hB.right _).right _) hn hw (along_zero _ _)) ?_
    rintro top' _ ⟨Ns, rfl, hN⟩
    obtain ⟨ta, rfl⟩ := ptr_is hN
    conv=>whnf
    refine .all ?_
    conv=>whnf
    refine ⟨by decide, ?_⟩
    conv=>whnf
    refine .all ?_
    conv=>whnf
    refine ⟨by decide, ?_⟩
    conv=>whnf
    refine .all ?_
    conv=>whnf
    refine ⟨by decide, ?_⟩
    conv=>whnf
    refine ⟨rfl, ?_⟩
    conv=>whnf
    refine StoreG.ent (last5 (rcs 144 Ns) _ _ _ _ _) ?_
    refine StoreG.at rfl (Upd.here (by simp) rfl) ?_
    conv=>whnf
    refine ⟨rfl, ?_⟩
    conv=>whnf
    exact ⟨cel q 124 [.pointer ta, .int .i64 _] :: rcs 144 Ns, Ent.cons _ (Ent.dropL _ _), Ns, .pointer ta, _, rfl, hN⟩
   ·(conv=>whnf);refine .ntt ?_;(conv=>whnf)
    refine LoadG.at (.tl (.tl (.tl (.tl (.here rfl))))) ?_
    conv=>whnf
    refine ArithG.all ?_
    conv=>whnf
    refine StoreG.at rfl (.tl (.tl (.tl (.tl (.here (by simp) rfl))))) ?_
    conv=>whnf
    refine DrawG.mk 10 _ [] (Ent.refl _) ?_
    conv=>whnf
    refine .take 0 ?_
    conv=>whnf
    refine ⟨rfl, ?_⟩
    conv=>whnf
    refine .take 1 ?_
    conv=>whnf
    refine ⟨rfl, ?_⟩
    conv=>whnf
    refine .take 2 ?_
    conv=>whnf
    refine ⟨rfl, ?_⟩
    conv=>whnf
    refine .take 3 ?_
    conv=>whnf
    refine ⟨rfl, ?_⟩
    conv=>whnf
    refine .take 4 ?_
    conv=>whnf
    refine ⟨rfl, ?_⟩
    conv=>whnf
    refine LoadG.at (.tl (.tl (.tl (.tl (.here rfl))))) ?_
    conv=>whnf
    refine .take 5 ?_
    conv=>whnf
    refine ⟨rfl, ?_⟩
    conv=>whnf
    refine LoadNG.at (vs := bvs key) (by rw [bvs_len, l1]) (.tl (.tl (.tl .all))) ?_
    conv=>whnf
    refine .take 6 ?_
    conv=>whnf
    refine ⟨rfl, ?_⟩
    conv=>whnf
    refine LoadNG.at (vs := bvs val) (by rw [bvs_len, l2]) (.tl (.tl .all)) ?_
    conv=>whnf
    refine .all ?_
    conv=>whnf
    refine ⟨by decide, ?_⟩
    conv=>whnf
    refine CallG.pure (put_spec_x hk key val h1 h2 256 _ Bs t top 0 rfl (.right (.right hK _) _) ((hB.right _).right _) hn hw (along_zero _ _)) ?_
    rintro top' _ ⟨Ns, rfl, hN⟩
    obtain ⟨ta, rfl⟩ := ptr_is hN
    conv=>whnf
    refine .all ?_
    conv=>whnf
    refine ⟨by decide, ?_⟩
    conv=>whnf
    refine .all ?_
    conv=>whnf
    refine ⟨by decide, ?_⟩
    conv=>whnf
    refine .all ?_
    conv=>whnf
    refine ⟨by decide, ?_⟩
    conv=>whnf
    refine ⟨rfl, ?_⟩
    conv=>whnf
    refine StoreG.ent (last5 (rcs 144 Ns) _ _ _ _ _) ?_
    refine StoreG.at rfl (Upd.here (by simp) rfl) ?_
    conv=>whnf
    refine ⟨rfl, ?_⟩
    conv=>whnf
    exact ⟨cel q 124 [.pointer ta, .int .i64 _] :: rcs 144 Ns, Ent.cons _ (Ent.dropL _ _), Ns, .pointer ta, _, rfl, hN⟩
  ·(conv=>whnf);refine .ntt ?_;(conv=>whnf)
   refine LoadG.at (.tl (.tl (.tl (.tl (.here rfl))))) ?_
   conv=>whnf
   refine ArithG.all ?_
   conv=>whnf
   refine StoreG.at rfl (.tl (.tl (.tl (.tl (.here (by simp) rfl))))) ?_
   conv=>whnf
   refine LoadNG.at (vs := bvs val) (by rw [bvs_len, l2]) (.tl (.tl .all)) ?_
   conv=>whnf
   refine LoadNG.at (vs := bvs zd) rfl (.tl .all) ?_
   conv=>whnf
   refine eqD l2 rfl (fun hz2 => ?_) (fun hz2 => ?_)
   ·(conv=>whnf);refine .nff ?_;(conv=>whnf)
    refine DrawG.mk 10 _ [] (Ent.refl _) ?_
    conv=>whnf
    refine .take 0 ?_
    conv=>whnf
    refine ⟨rfl, ?_⟩
    conv=>whnf
    refine .take 1 ?_
    conv=>whnf
    refine ⟨rfl, ?_⟩
    conv=>whnf
    refine .take 2 ?_
    conv=>whnf
    refine ⟨rfl, ?_⟩
    conv=>whnf
    refine .take 3 ?_
    conv=>whnf
    refine ⟨rfl, ?_⟩
    conv=>whnf
    refine .take 4 ?_
    conv=>whnf
    refine ⟨rfl, ?_⟩
    conv=>whnf
    refine LoadG.at (.tl (.tl (.tl (.tl (.here rfl))))) ?_
    conv=>whnf
    refine .take 5 ?_
    conv=>whnf
    refine ⟨rfl, ?_⟩
    conv=>whnf
    refine LoadNG.at (vs := bvs key) (by rw [bvs_len, l1]) (.tl (.tl (.tl .all))) ?_
    conv=>whnf
    refine .take 6 ?_
    conv=>whnf
    refine ⟨rfl, ?_⟩
    conv=>whnf
    refine LoadNG.at (vs := bvs val) (by rw [bvs_len, l2]) (.tl (.tl .all)) ?_
    conv=>whnf
    refine .all ?_
    conv=>whnf
    refine ⟨by decide, ?_⟩
    conv=>whnf
    refine CallG.pure (put_spec_x hk key val h1 h2 256 _ Bs t top 0 rfl (.right (.right hK _) _) ((hB.right _).right _) hn hw (along_zero _ _)) ?_
    rintro top' _ ⟨Ns, rfl, hN⟩
    obtain ⟨ta, rfl⟩ := ptr_is hN
    conv=>whnf
    refine .all ?_
    conv=>whnf
    refine ⟨by decide, ?_⟩
    conv=>whnf
    refine .all ?_
    conv=>whnf
    refine ⟨by decide, ?_⟩
    conv=>whnf
    refine .all ?_
    conv=>whnf
    refine ⟨by decide, ?_⟩
    conv=>whnf
    refine ⟨rfl, ?_⟩
    conv=>whnf
    refine StoreG.ent (last5 (rcs 144 Ns) _ _ _ _ _) ?_
    refine StoreG.at rfl (Upd.here (by simp) rfl) ?_
    conv=>whnf
    refine ⟨rfl, ?_⟩
    conv=>whnf
    exact ⟨cel q 124 [.pointer ta, .int .i64 _] :: rcs 144 Ns, Ent.cons _ (Ent.dropL _ _), Ns, .pointer ta, _, rfl, hN⟩
   ·(conv=>whnf);refine .ntt ?_;(conv=>whnf)
    refine LoadG.at (.tl (.tl (.tl (.tl (.here rfl))))) ?_
    conv=>whnf
    refine ArithG.all ?_
    conv=>whnf
    refine StoreG.at rfl (.tl (.tl (.tl (.tl (.here (by simp) rfl))))) ?_
    conv=>whnf
    refine DrawG.mk 10 _ [] (Ent.refl _) ?_
    conv=>whnf
    refine .take 0 ?_
    conv=>whnf
    refine ⟨rfl, ?_⟩
    conv=>whnf
    refine .take 1 ?_
    conv=>whnf
    refine ⟨rfl, ?_⟩
    conv=>whnf
    refine .take 2 ?_
    conv=>whnf
    refine ⟨rfl, ?_⟩
    conv=>whnf
    refine .take 3 ?_
    conv=>whnf
    refine ⟨rfl, ?_⟩
    conv=>whnf
    refine .take 4 ?_
    conv=>whnf
    refine ⟨rfl, ?_⟩
    conv=>whnf
    refine LoadG.at (.tl (.tl (.tl (.tl (.here rfl))))) ?_
    conv=>whnf
    refine .take 5 ?_
    conv=>whnf
    refine ⟨rfl, ?_⟩
    conv=>whnf
    refine LoadNG.at (vs := bvs key) (by rw [bvs_len, l1]) (.tl (.tl (.tl .all))) ?_
    conv=>whnf
    refine .take 6 ?_
    conv=>whnf
    refine ⟨rfl, ?_⟩
    conv=>whnf
    refine LoadNG.at (vs := bvs val) (by rw [bvs_len, l2]) (.tl (.tl .all)) ?_
    conv=>whnf
    refine .all ?_
    conv=>whnf
    refine ⟨by decide, ?_⟩
    conv=>whnf
    refine CallG.pure (put_spec_x hk key val h1 h2 256 _ Bs t top 0 rfl (.right (.right hK _) _) ((hB.right _).right _) hn hw (along_zero _ _)) ?_
    rintro top' _ ⟨Ns, rfl, hN⟩
    obtain ⟨ta, rfl⟩ := ptr_is hN
    conv=>whnf
    refine .all ?_
    conv=>whnf
    refine ⟨by decide, ?_⟩
    conv=>whnf
    refine .all ?_
    conv=>whnf
    refine ⟨by decide, ?_⟩
    conv=>whnf
    refine .all ?_
    conv=>whnf
    refine ⟨by decide, ?_⟩
    conv=>whnf
    refine ⟨rfl, ?_⟩
    conv=>whnf
    refine StoreG.ent (last5 (rcs 144 Ns) _ _ _ _ _) ?_
    refine StoreG.at rfl (Upd.here (by simp) rfl) ?_
    conv=>whnf
    refine ⟨rfl, ?_⟩
    conv=>whnf
    exact ⟨cel q 124 [.pointer ta, .int .i64 _] :: rcs 144 Ns, Ent.cons _ (Ent.dropL _ _), Ns, .pointer ta, _, rfl, hN⟩
end
end Go.Proofs.YtjkldhalmglkpaaDoor
