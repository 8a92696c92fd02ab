import Derived.Test.YtjkldhalmglkpaaDoorZSr
import Derived.Laws.IdiomStrings
namespace Go.Sl
open Go
def strN (s : ByteArray) : List Nat := s.data.toList.map (·.toNat)
theorem strN_len (s : ByteArray) : (strN s).length = s.size := by
 unfold strN
 rw [List.length_map, Array.length_toList]
 rfl
theorem strN_byte (s : ByteArray) : ∀ b ∈ strN s, b < 256 := by
 intro b hb
 obtain ⟨u, _, rfl⟩ := List.mem_map.1 hb
 exact u.toNat_lt
section
variable {P : Program} {F L M : List HP} {v x : Value} {cs cur ys : List Value} {p : HP} {n m : Nat}
theorem CelN.blk {b o : Nat} {t : TypeId} {fr : Nat × Nat} {vs : List Value} (h : (cs.drop o).take vs.length = vs) : CelN (blk b (.cells ⟨cs⟩ t fr) :: L) b o vs := fun w hs j u hj => by
 refine cell_of_heap (Sat.blk_heap hs) ?_
 rw [← h] at hj
 rw [List.getElem?_take] at hj
 split at hj
 ·simpa using hj
 ·cases hj
theorem DoesG.toBytes {src dst e : TypeId} (hs : P.underlying src = some .string) (hd : P.underlying dst = some (.slice e)) (he : P.underlying e = some (.int .u8)) {s : ByteArray} {k : Value → List HP → Prop}
 (hk : ∀ v p, RdS [p] v (strN s).length (bvs (strN s)) → SlV v (strN s).length → k v (p :: L)) : DoesG P F (convert src dst (.string s)) L k := ⟨fun w h => by
 have hr := run_bytes_of_string w src dst e s hs hd he
 have hge := grownCap_ge w s.size 0 e
 have hrow : (bytesRow s (grownCap w s.size 0 e)).toList = bvs (strN s) ++ List.replicate (grownCap w s.size 0 e - s.size) (bv 0) := by
  simp [bytesRow, bvs, strN, bv]
 refine ⟨_, _, _, hr, (Ext.drew w).trans (Ext.alloc _ _), h.drew.alloc _, hk _ _ ?_ ?_⟩
 ·rw [strN_len]
  refine .mk _ _ _ _ _ hge ?_
  have e2 : bytesRow s (grownCap w s.size 0 e) = ⟨bvs (strN s) ++ List.replicate (grownCap w s.size 0 e - s.size) (bv 0)⟩ := Array.toList_inj.1 hrow
  rw [e2]
  exact CelN.blk (by rw [List.drop_zero, List.take_left])
 ·rw [strN_len]
  exact .inr ⟨_, _, rfl, hge⟩⟩
end
/-! Slices that nobody writes any more -/
def shC (v : Value) (cs : List Value) : HP := fun h =>
 (v = .slice none 0 0 ∧ cs = [] ∧ h = Hp.emp) ∨ ∃ g t cap rest, v = .slice (some ⟨g, 0, none⟩) cs.length cap ∧ cs.length ≤ cap ∧ h = one g (.cells ⟨cs ++ rest⟩ t (0, 0)) true
theorem shC_twice (v : Value) (cs : List Value) : Twice (shC v cs) := by
 rintro h (⟨_, _, rfl⟩ | ⟨g, t, cap, rest, _, _, rfl⟩) b u hb
 ·cases hb
 ·obtain ⟨_, rfl⟩ := one_some hb
  rfl
theorem shC_of_own {L : List HP} {v : Value} {n : Nat} {cs : List Value} (hn : n = cs.length) : Ent (own 1 v n cs :: L) (shC v cs :: L) := by
 intro w F hs
 subst hn
 obtain ⟨x, y, hok, hx, hl, hf, hy⟩ := Sat.cons.1 hs
 rcases hx with ⟨h1, h2, h3, rfl⟩ | ⟨g, t, cap, rest, h1, h2, h3, h4, h5, rfl⟩
 ·exact Sat.cons.2 ⟨_, y, hok, .inl ⟨h1, h3, rfl⟩, hl, hf, hy⟩
 ·refine Sat.cons.2 ⟨one g (.cells ⟨cs ++ rest⟩ t (0, 0)) true, y, ?_, .inr ⟨g, t, cap, rest, h1, h2, rfl⟩, hl, ?_, hy⟩
  ·intro k u z hu hz
   obtain ⟨rfl, rfl⟩ := one_some hu
   exact absurd (hok k _ z (one_self _ _ _) hz).2 (by simp)
  ·intro k o' s hk
   obtain ⟨rfl, h2⟩ := one_some hk
   cases h2
   exact hf k _ false (one_self _ _ _)
theorem shC_rd {L : List HP} {v : Value} {cs : List Value} (h : SlV v cs.length) : RdS (shC v cs :: L) v cs.length cs := by
 rcases h with ⟨rfl, h0⟩ | ⟨g, cap, rfl, hn⟩
 ·obtain rfl : cs = [] := List.eq_nil_of_length_eq_zero h0
  exact .nil
 ·refine .mk _ _ _ _ _ hn fun w hs => ?_
  obtain ⟨x, y, _, hx, _, hf, _⟩ := Sat.cons.1 hs
  rcases hx with ⟨h1, _⟩ | ⟨g', t, cap', rest, h1, _, rfl⟩
  ·cases h1
  ·cases h1
   intro j u hj
   have hh := hf g _ true (one_self _ _ _)
   refine cell_of_heap hh ?_
   have hlt := (List.getElem?_eq_some_iff.1 hj).1
   rw [Nat.zero_add, List.getElem?_append_left hlt]
   exact hj
abbrev Shs := List (Value × List Value)
def shs (S : Shs) : List HP := S.map fun p => shC p.1 p.2
structure ShIn (S : Shs) (v : Value) (cs : List Value) : Prop where
 sl : SlV v cs.length
 mem : (v, cs) ∈ S ∨ (v = .slice none 0 0 ∧ cs = [])
theorem ShIn.mono {S T : Shs} {v : Value} {cs : List Value} (hL : ∀ p ∈ S, p ∈ T) (h : ShIn S v cs) : ShIn T v cs := ⟨h.sl, h.mem.imp (fun m => hL _ m) id⟩
theorem ShIn.nil (S : Shs) : ShIn S (.slice none 0 0) [] := ⟨.inl ⟨rfl, rfl⟩, .inr ⟨rfl, rfl⟩⟩
theorem shs_rd {v : Value} {cs : List Value} : ∀ {S : Shs} {L : List HP}, (v, cs) ∈ S → SlV v cs.length → RdS (shs S ++ L) v cs.length cs
 | q :: S, L, h, hs => by
  rcases List.mem_cons.1 h with rfl | h
  ·exact shC_rd hs
  ·exact (shs_rd (S := S) (L := L) h hs).tl
def ShG (L : List HP) (S : Shs) : Prop := ∀ v cs, ShIn S v cs → RdS L v cs.length cs
theorem ShG.here {S : Shs} {L : List HP} : ShG (shs S ++ L) S := fun v cs h => by
 rcases h.mem with hm | ⟨rfl, rfl⟩
 ·exact shs_rd hm h.sl
 ·exact .nil
theorem ShG.right {L : List HP} {S : Shs} (h : ShG L S) (M : List HP) : ShG (M ++ L) S := fun v cs hi => (h v cs hi).right M
/-! The table -/
abbrev KO := List Nat × Value × List ByteArray
def ofM (l : List KO) : List (List Nat × Value) := l.map fun p => (p.1, p.2.1)
def getO (l : List KO) (d : List Nat) : Option (Value × List ByteArray) := (l.find? fun p => decide (p.1 = d)).map (·.2)
def putO (l : List KO) (d : List Nat) (v : Value) (ks : List ByteArray) : List KO := if d ∈ l.map (·.1) then l.map fun p => if p.1 = d then (d, v, ks) else p else l ++ [(d, v, ks)]
def delO (l : List KO) (d : List Nat) : List KO := l.filter fun p => decide (p.1 ≠ d)
def delK {K : Type} [DecidableEq K] (l : List (KV K)) (x : K) : List (KV K) := l.filter fun p => decide (p.1 ≠ x)
theorem getM_of (l : List KO) (d : List Nat) : getM (ofM l) d = (getO l d).map (·.1) := by
 induction l with
 | nil => rfl
 | cons p l ih =>
  simp only [ofM, getM, getO, List.map_cons, List.find?_cons] at *
  by_cases h : p.1 = d
  ·simp [h]
  ·simpa [h] using ih
theorem putM_of (l : List KO) (d : List Nat) (v : Value) (ks : List ByteArray) : putM (ofM l) d v = ofM (putO l d v ks) := by
 have e : (ofM l).map (·.1) = l.map (·.1) := by simp [ofM]
 simp only [putM, putO, e]
 split
 ·simp only [ofM, List.map_map]
  apply List.map_congr_left
  intro p _
  simp only [Function.comp]
  split <;> simp_all
 ·simp [ofM]
theorem delM_of (l : List KO) (d : List Nat) : delM (ofM l) d = ofM (delO l d) := by
 simp only [delM, ofM, delO, List.filter_map]
 rfl
theorem delM_kv {K : Type} [DecidableEq K] (l : List (KV K)) (x : K) : delM (kvM l) x = kvM (delK l x) := by
 simp only [delM, kvM, delK, List.filter_map]
 rfl
theorem getO_mem {l : List KO} {d : List Nat} {y : Value × List ByteArray} (h : getO l d = some y) : (d, y) ∈ l := by
 simp only [getO, Option.map_eq_some_iff] at h
 obtain ⟨p, hp, rfl⟩ := h
 have h1 := List.find?_some hp
 simp only [decide_eq_true_eq] at h1
 rw [← h1]
 exact List.mem_of_find?_eq_some hp
theorem getO_none {l : List KO} {d : List Nat} : getO l d = none ↔ d ∉ l.map (·.1) := by
 simp only [getO, Option.map_eq_none_iff, List.find?_eq_none, List.mem_map, not_exists, not_and, decide_eq_true_eq]
theorem getK_del {K : Type} [DecidableEq K] {l : List (KV K)} {x y : K} : getK (delK l x) y = if y = x then none else getK l y := by
 unfold getK delK
 rw [List.find?_filter]
 by_cases h : y = x
 ·subst h
  rw [if_pos rfl]
  simp
 ·rw [if_neg h]
  congr 1
  congr 1
  funext p
  by_cases hp : p.1 = y
  ·simp [hp, h]
  ·simp [hp]
theorem getO_put {l : List KO} {d e : List Nat} {v : Value} {ks : List ByteArray} : getO (putO l d v ks) e = if e = d then some (v, ks) else getO l e := by
 unfold putO
 split
 ·rename_i h
  induction l with
  | nil => simp at h
  | cons p l ih =>
   by_cases hp : p.1 = d
   ·by_cases hy : e = d
    ·subst hy; simp [getO, hp]
    ·have h1 : ¬ d = e := fun e' => hy e'.symm
     simp only [List.map_cons, hp, if_true, getO, List.find?_cons, h1, decide_false, hy, if_false]
     by_cases hm : d ∈ l.map (·.1)
     ·have := ih hm
      simp only [getO, hy, if_false] at this
      simpa using this
     ·have e : (l.map fun p => if p.1 = d then (d, v, ks) else p) = l := by
       conv => rhs; rw [← List.map_id l]
       apply List.map_congr_left
       intro q hq
       rw [if_neg (fun e => hm (List.mem_map.2 ⟨q, hq, e⟩))]
       rfl
      simp [e]
   ·have hm : d ∈ l.map (·.1) := by
     simp only [List.map_cons, List.mem_cons] at h
     rcases h with h | h
     ·exact absurd h.symm hp
     ·exact h
    have := ih hm
    simp only [List.map_cons, hp, if_false, getO, List.find?_cons] at this ⊢
    by_cases hpy : p.1 = e
    ·have hy : ¬ e = d := fun e' => hp (hpy.trans e')
     simp [hpy, hy]
    ·simpa [hpy] using this
 ·rename_i h
  by_cases hy : e = d
  ·subst hy
   have h2 := getO_none.2 h
   simp only [getO, Option.map_eq_none_iff] at h2
   simp [getO, List.find?_append, h2]
  ·have h1 : ¬ d = e := fun e' => hy e'.symm
   simp [getO, List.find?_append, hy, h1]
theorem getO_del {l : List KO} {d e : List Nat} : getO (delO l d) e = if e = d then none else getO l e := by
 unfold getO delO
 rw [List.find?_filter]
 by_cases h : e = d
 ·subst h
  rw [if_pos rfl]
  simp
 ·rw [if_neg h]
  congr 1
  congr 1
  funext p
  by_cases hp : p.1 = e
  ·simp [hp, h]
  ·simp [hp]
structure TabD where
 vb : Nat
 q : Nat
 ob : Nat
 vals : List (KV ByteArray)
 ofs : List KO
 tree : Trie
 top : Value
 len : Int
 Bs : Bls
 S : Shs
def TabD.pieces (TT ST NT t : Nat) (c : TabD) : List HP :=
 cel t TT [.map (some c.vb), .pointer (some ⟨c.q, 0, none⟩), .map (some c.ob)] :: mapS c.vb (kvM c.vals) :: mapP digV digOk c.ob (ofM c.ofs) :: cel c.q ST [c.top, .int .i64 c.len] :: (rcs NT c.Bs ++ shs c.S)
theorem TabD.shG {TT ST NT t : Nat} {c : TabD} : ShG (c.pieces TT ST NT t) c.S := fun v cs h => by
 have h2 := (ShG.here (S := c.S) (L := [])) v cs h
 rw [List.append_nil] at h2
 exact .tl (.tl (.tl (.tl (h2.right _))))
structure TabD.wf (K : List W32) (n : Nat) (c : TabD) : Prop where
 vals : ∀ p ∈ c.vals, ShIn c.S p.2.1 (bvs p.2.2) ∧ p.2.2.length ≤ 4096 ∧ p.2.2 ≠ [] ∧ ∀ b ∈ p.2.2, b < 256
 ofs : ∀ p ∈ c.ofs, ShIn c.S p.2.1 (svs p.2.2) ∧ Sorted p.2.2 ∧ p.2.2.length ≤ n ∧ p.2.2 ≠ [] ∧ ∀ k ∈ p.2.2, dig K (strN k) = p.1 ∧ (getK c.vals k).isSome = true
 back : ∀ k, (getK c.vals k).isSome = true → ∃ v ks, getO c.ofs (dig K (strN k)) = some (v, ks) ∧ k ∈ ks
 node : NdB K c.Bs c.tree c.top
 tree : c.tree.wf 0
 keys : ∀ p ∈ c.vals, 0 < p.1.size ∧ p.1.size ≤ 128
def TabD.at (c : TabD) (d : List Nat) : Value × List ByteArray := (getO c.ofs d).getD (.slice none 0 0, [])
theorem TabD.wf.at {K : List W32} {n : Nat} {c : TabD} (h : c.wf K n) (d : List Nat) : ShIn c.S (c.at d).1 (svs (c.at d).2) ∧ Sorted (c.at d).2 ∧ (c.at d).2.length ≤ n ∧ ∀ k ∈ (c.at d).2, dig K (strN k) = d ∧ (getK c.vals k).isSome = true := by
 unfold TabD.at
 cases hg : getO c.ofs d with
 | none => exact ⟨ShIn.nil _, List.Pairwise.nil, Nat.zero_le _, by simp⟩
 | some y =>
  obtain ⟨h1, h2, h3, _, h4⟩ := h.ofs _ (getO_mem hg)
  exact ⟨h1, h2, h3, h4⟩
theorem TabD.wf.there {K : List W32} {n : Nat} {c : TabD} (h : c.wf K n) (k : ByteArray) : k ∈ (c.at (dig K (strN k))).2 ↔ (getK c.vals k).isSome = true := by
 constructor
 ·intro hm
  exact ((h.at _).2.2.2 k hm).2
 ·intro hs
  obtain ⟨v, ks, h1, h2⟩ := h.back k hs
  unfold TabD.at
  rw [h1]
  exact h2
def TabD.lastD (K : List W32) (c : TabD) (d : List Nat) : List Nat := match (c.at d).2.getLast? with
 | none => zd
 | some k => dig K (((getK c.vals k).map (·.2)).getD [])
structure LayOk (K : List W32) (n : Nat) (c : TabD) (key : ByteArray) (bs : List Nat) (c' : TabD) : Prop where
 put : bs ≠ [] → ∃ x, c'.vals = putK c.vals key x bs
 del : bs = [] → c'.vals = delK c.vals key
 wf : c'.wf K (n + 1)
 tree : c'.tree = putT (dig K (strN key)) (c'.lastD K (dig K (strN key))) 256 c.tree
theorem putO_mem {l : List KO} {d : List Nat} {v : Value} {ks : List ByteArray} {p : KO} (h : p ∈ putO l d v ks) : p = (d, v, ks) ∨ (p ∈ l ∧ p.1 ≠ d) := by
 unfold putO at h
 split at h
 ·obtain ⟨q, hq, rfl⟩ := List.mem_map.1 h
  split
  ·exact .inl rfl
  ·rename_i hne; exact .inr ⟨hq, hne⟩
 ·rename_i hno
  rcases List.mem_append.1 h with h | h
  ·exact .inr ⟨h, fun e => hno (List.mem_map.2 ⟨p, h, e⟩)⟩
  ·exact .inl (List.mem_singleton.1 h)
def TabD.next (c : TabD) (d : List Nat) (V' : List (KV ByteArray)) (S' : Shs) (kv : Value) (ks2 : List ByteArray) (tree' : Trie) (top' : Value) (len' : Int) (Ns : Bls) : TabD :=
 { c with vals := V', ofs := if ks2 = [] then delO c.ofs d else putO c.ofs d kv ks2, tree := tree', top := top', len := len', Bs := Ns ++ c.Bs, S := S' }
theorem next_wf {K : List W32} {n : Nat} {c : TabD} {key : ByteArray} {V' : List (KV ByteArray)} {S' : Shs} {kv : Value} {ks2 : List ByteArray} {tree' : Trie} {top' : Value} {len' : Int} {Ns : Bls} (hw : c.wf K n)
 (hS : ∀ p ∈ c.S, p ∈ S') (hkv : ShIn S' kv (svs ks2)) (hsort : Sorted ks2) (hlen : ks2.length ≤ n + 1) (hV : ∀ p ∈ V', ShIn S' p.2.1 (bvs p.2.2) ∧ p.2.2.length ≤ 4096 ∧ p.2.2 ≠ [] ∧ ∀ b ∈ p.2.2, b < 256) (hVk : ∀ p ∈ V', 0 < p.1.size ∧ p.1.size ≤ 128)
 (hsame : ∀ k, k ≠ key → getK V' k = getK c.vals k) (hmem : ∀ k, k ∈ ks2 ↔ dig K (strN k) = dig K (strN key) ∧ (getK V' k).isSome = true) (hN : NdB K (Ns ++ c.Bs) tree' top') (hT : tree'.wf 0) :
 (c.next (dig K (strN key)) V' S' kv ks2 tree' top' len' Ns).wf K (n + 1) := by
 have old : ∀ p ∈ c.ofs, p.1 ≠ dig K (strN key) → ShIn S' p.2.1 (svs p.2.2) ∧ Sorted p.2.2 ∧ p.2.2.length ≤ n + 1 ∧ p.2.2 ≠ [] ∧ ∀ k ∈ p.2.2, dig K (strN k) = p.1 ∧ (getK V' k).isSome = true := fun p hp hne => by
  obtain ⟨h1, h2, h3, h4, h5⟩ := hw.ofs p hp
  refine ⟨h1.mono hS, h2, by omega, h4, fun k hk => ?_⟩
  obtain ⟨h6, h7⟩ := h5 k hk
  refine ⟨h6, ?_⟩
  rw [hsame k (fun e => hne (by rw [← h6, e]))]
  exact h7
 refine ⟨hV, ?_, ?_, hN, hT, hVk⟩
 ·intro p hp
  simp only [TabD.next] at hp
  split at hp
  ·rename_i he
   have := List.mem_filter.1 hp
   exact old p this.1 (by simpa using this.2)
  ·rename_i he
   rcases putO_mem hp with rfl | ⟨h1, h2⟩
   ·exact ⟨hkv, hsort, hlen, he, fun k hk => (hmem k).1 hk⟩
   ·exact old p h1 h2
 ·intro k hk
  by_cases e : dig K (strN k) = dig K (strN key)
  ·have hm := (hmem k).2 ⟨e, hk⟩
   refine ⟨kv, ks2, ?_, hm⟩
   simp only [TabD.next]
   rw [if_neg (fun h => by rw [h] at hm; cases hm), getO_put, if_pos e]
  ·have hne : k ≠ key := fun h => e (by rw [h])
   have hk' : (getK V' k).isSome = true := hk
   rw [hsame k hne] at hk'
   obtain ⟨v, ks, h1, h2⟩ := hw.back k hk'
   refine ⟨v, ks, ?_, h2⟩
   simp only [TabD.next]
   split
   ·rw [getO_del, if_neg e]; exact h1
   ·rw [getO_put, if_neg e]; exact h1
theorem next_at {c : TabD} {d : List Nat} {V' : List (KV ByteArray)} {S' : Shs} {kv : Value} {ks2 : List ByteArray} {tree' : Trie} {top' : Value} {len' : Int} {Ns : Bls} : ((c.next d V' S' kv ks2 tree' top' len' Ns).at d).2 = ks2 := by
 unfold TabD.at TabD.next
 simp only
 split
 ·rename_i h; rw [getO_del, if_pos rfl, h]; rfl
 ·rw [getO_put, if_pos rfl]; rfl
theorem putK_mem {l : List (KV ByteArray)} {x : ByteArray} {v : Value} {bs : List Nat} {p : KV ByteArray} (h : p ∈ putK l x v bs) : p = (x, v, bs) ∨ p ∈ l := by
 unfold putK at h
 split at h
 ·obtain ⟨q, hq, rfl⟩ := List.mem_map.1 h
  split
  ·exact .inl rfl
  ·exact .inr hq
 ·rcases List.mem_append.1 h with h | h
  ·exact .inr h
  ·exact .inl (List.mem_singleton.1 h)
theorem delK_none {l : List (KV ByteArray)} {x : ByteArray} (h : getK l x = none) : delK l x = l := by
 unfold delK
 rw [List.filter_eq_self]
 intro p hp
 have := getK_none.1 h
 simp only [decide_eq_true_eq]
 exact fun e => this (List.mem_map.2 ⟨p, hp, e⟩)
theorem down1 {p : HP} {A R H : List HP} : Ent (p :: (A ++ (R ++ H))) (A ++ (R ++ (p :: H))) := Ent.perm (by
 have h : (p :: ((A ++ R) ++ H)).Perm ((A ++ R) ++ p :: H) := List.perm_middle.symm
 simpa only [List.append_assoc] using h)
theorem down2 {p q : HP} {A R H : List HP} : Ent (p :: q :: (A ++ (R ++ H))) (A ++ (R ++ (p :: q :: H))) := (Ent.cons p down1).trans down1
theorem mem_ins {ks : List ByteArray} {i : Nat} {x y : ByteArray} : y ∈ ks.take i ++ x :: ks.drop i ↔ y ∈ ks ∨ y = x := by
 rw [List.mem_append, List.mem_cons]
 constructor
 ·rintro (h | h | h)
  ·exact .inl (List.mem_of_mem_take h)
  ·exact .inr h
  ·exact .inl (List.mem_of_mem_drop h)
 ·rintro (h | h)
  ·rw [← List.take_append_drop i ks] at h
   rcases List.mem_append.1 h with h | h
   ·exact .inl h
   ·exact .inr (.inr h)
  ·exact .inr (.inl h)
theorem lay_fin {q m b t s : HP} {N B H : List HP} : Ent (q :: (N ++ (m :: b :: t :: s :: (B ++ H)))) (t :: s :: m :: q :: ((N ++ B) ++ H)) := by
 have h1 : Ent (q :: (N ++ (m :: b :: t :: s :: (B ++ H)))) ([q, m, b, t, s] ++ (N ++ (B ++ H))) := Ent.perm (List.Perm.cons _ (by
  have h := (List.perm_append_comm (l₁ := N) (l₂ := [m, b, t, s])).append_right (B ++ H)
  rw [List.append_assoc, List.append_assoc] at h
  exact h))
 refine h1.trans ?_
 rw [List.append_assoc]
 exact Ent.sel (T := N ++ (B ++ H)) (A := [q, m, b, t, s]) (M := [t, s, m, q]) [3, 4, 1, 0] rfl
end Go.Sl
