import Derived.Test.YtjkldhalmglkpaaDoorZWl
import Derived.MapKept
namespace Go.Sl
open Go
structure KeyT (P : Program) (k : TypeId) {K : Type} (kv : K → Value) (ok : K → Prop) : Prop where
 find : ∀ x, ok x → ∀ l : List MapEntry, (∀ e ∈ l, ∃ y, ok y ∧ e.key = kv y) → ∀ w,
  (∃ (i : Nat) (e : MapEntry), (Instr.findKey k (kv x) l).run P w = .ok (some (i, e.val)) w ∧ l[i]? = some e ∧ e.key = kv x) ∨ ((Instr.findKey k (kv x) l).run P w = .ok none w ∧ ∀ e ∈ l, e.key ≠ kv x)
 chk : ∀ x, ok x → ∀ (e : Bool) w, (Instr.checkKey e 10000 k (kv x)).run P w = .ok () w
 stay : ∀ x, ok x → Instr.sameBits 10000 (kv x) (kv x) = true
 inj : ∀ x y, ok x → ok y → kv x = kv y → x = y
theorem KeyT.str {P : Program} {k : TypeId} (hd : P.underlying k = some .string) : KeyT P k Value.string (fun _ => True) where
 find x _ l hl w := by
  rcases MapKept.findNow_spec (d := .string) (k := .string x) (by simp [MapKept.IsKey]) l 0 (fun e he => by obtain ⟨y, _, hy⟩ := hl e he; rw [hy]; simp [MapKept.IsKey]) with ⟨h1, h2⟩ | ⟨j, e, h1, h2, h3⟩
  ·exact .inr ⟨MapKept.run_findKey hd h1, h2⟩
  ·rw [Nat.zero_add] at h1
   exact .inl ⟨j, e, MapKept.run_findKey hd h1, h2, h3⟩
 chk x _ e w := MapKept.run_checkKey (d := .string) hd (by simp [MapKept.IsKey]) e 9999
 stay x _ := by
  show (x == x) = true
  exact (MapKept.bytes_beq x x).2 rfl
 inj x y _ _ h := by cases h; rfl
section
variable {K : Type}
def getM [DecidableEq K] (m : List (K × Value)) (x : K) : Option Value := (m.find? fun p => decide (p.1 = x)).map (·.2)
def putM [DecidableEq K] (m : List (K × Value)) (x : K) (v : Value) : List (K × Value) := if x ∈ m.map (·.1) then m.map fun p => if p.1 = x then (x, v) else p else m ++ [(x, v)]
def delM [DecidableEq K] (m : List (K × Value)) (x : K) : List (K × Value) := m.filter fun p => decide (p.1 ≠ x)
theorem getM_at [DecidableEq K] {m : List (K × Value)} {x : K} {v : Value} (hn : (m.map (·.1)).Nodup) {i : Nat} (h : m[i]? = some (x, v)) : getM m x = some v := by
 induction m generalizing i with
 | nil => simp at h
 | cons p m ih =>
  simp only [List.map_cons, List.nodup_cons] at hn
  cases i with
  | zero => simp at h; subst h; simp [getM]
  | succ i =>
   simp only [List.getElem?_cons_succ] at h
   have hne : ¬ p.1 = x := fun e => hn.1 (by rw [e]; exact List.mem_map.2 ⟨_, List.mem_of_getElem? h, rfl⟩)
   have := ih hn.2 h
   simpa [getM, hne] using this
theorem getM_none [DecidableEq K] {m : List (K × Value)} {x : K} (h : ∀ p ∈ m, p.1 ≠ x) : getM m x = none := by
 simp only [getM, Option.map_eq_none_iff, List.find?_eq_none]
 intro p hp
 simpa using h p hp
structure MapIs (kv : K → Value) (ok : K → Prop) (o : Obj) (m : List (K × Value)) : Prop where
 out : ∃ es clock, o = .map es clock ∧ es.toList.map (fun e => (e.key, e.val)) = m.map (fun p => (kv p.1, p.2)) ∧ (∀ e ∈ es.toList, e.born < clock) ∧ (es.toList.map (·.born)).Nodup
 keys : (m.map (·.1)).Nodup
 oks : ∀ p ∈ m, ok p.1
def mapP (kv : K → Value) (ok : K → Prop) (b : Nat) (m : List (K × Value)) : HP := fun h => ∃ o, h = one b o false ∧ MapIs kv ok o m
def MapG (kv : K → Value) (ok : K → Prop) (L : List HP) (b : Nat) (m : List (K × Value)) : Prop := Gives L fun w => ∃ o, w.heap[b]? = some o ∧ MapIs kv ok o m
variable {P : Program} {F L M : List HP} {kv : K → Value} {ok : K → Prop} {b : Nat} {m : List (K × Value)} {k t el : TypeId} {x : K} {v : Value}
theorem MapG.here : MapG kv ok (mapP kv ok b m :: L) b m := fun w hs => by
 obtain ⟨h, y, _, ⟨o, rfl, ho⟩, _, hf, _⟩ := Sat.cons.1 hs
 exact ⟨o, hf b o false (one_self _ _ _), ho⟩
theorem MapG.tl {p : HP} (h : MapG kv ok L b m) : MapG kv ok (p :: L) b m := fun w hs => h w hs.tail
theorem MapG.left (h : MapG kv ok L b m) (M : List HP) : MapG kv ok (L ++ M) b m := fun w hs => h w hs.left
theorem MapG.right (h : MapG kv ok L b m) (M : List HP) : MapG kv ok (M ++ L) b m := fun w hs => h w hs.right
theorem mapP_new (w : World) (hs : Sat w (blk b (.map #[] 0) :: L)) : Sat w (mapP kv ok b [] :: L) := by
 obtain ⟨h, y, hok, rfl, hl, hf, hy⟩ := Sat.cons.1 hs
 exact Sat.cons.2 ⟨_, y, hok, ⟨_, rfl, ⟨⟨#[], 0, rfl, rfl, by simp, by simp⟩, by simp, by simp⟩⟩, hl, hf, hy⟩
theorem entry_at {es : Array MapEntry} (he : es.toList.map (fun e => (e.key, e.val)) = m.map (fun p => (kv p.1, p.2))) {i : Nat} {e : MapEntry} (h : es.toList[i]? = some e) : ∃ p, m[i]? = some p ∧ e.key = kv p.1 ∧ e.val = p.2 := by
 have h1 : (es.toList.map (fun e => (e.key, e.val)))[i]? = some (e.key, e.val) := by rw [List.getElem?_map, h]; rfl
 rw [he, List.getElem?_map] at h1
 obtain ⟨p, hp, h2⟩ := Option.map_eq_some_iff.1 h1
 have h3 := Prod.mk.inj h2
 exact ⟨p, hp, h3.1.symm, h3.2.symm⟩
theorem entry_key {es : Array MapEntry} (he : es.toList.map (fun e => (e.key, e.val)) = m.map (fun p => (kv p.1, p.2))) (ho : ∀ p ∈ m, ok p.1) : ∀ e ∈ es.toList, ∃ y, ok y ∧ e.key = kv y := fun e hm => by
 obtain ⟨i, hi⟩ := List.getElem?_of_mem hm
 obtain ⟨p, hp, h1, _⟩ := entry_at he hi
 exact ⟨p.1, ho p (List.mem_of_getElem? hp), h1⟩
theorem entry_no {es : Array MapEntry} (he : es.toList.map (fun e => (e.key, e.val)) = m.map (fun p => (kv p.1, p.2))) (h : ∀ e ∈ es.toList, e.key ≠ kv x) : ∀ p ∈ m, p.1 ≠ x := fun p hp e => by
 obtain ⟨i, hi⟩ := List.getElem?_of_mem hp
 have h1 : (m.map (fun p => (kv p.1, p.2)))[i]? = some (kv p.1, p.2) := by rw [List.getElem?_map, hi]; rfl
 rw [← he, List.getElem?_map] at h1
 obtain ⟨q, hq, h2⟩ := Option.map_eq_some_iff.1 h1
 have h3 := (Prod.mk.inj h2).1
 exact h q (List.mem_of_getElem? hq) (by rw [h3, e])
theorem DoesG.look [DecidableEq K] (KT : KeyT P k kv ok) (ht : P.underlying t = some (.map k el)) {z : Value} (hz : ∀ w, (zeroValue el).run P w = .ok z w) (hx : ok x) (hm : MapG kv ok (L ++ F) b m) (c : Bool) {kk : Value → List HP → Prop}
 (hk : kk (if c then .tuple #[(getM m x).getD z, .bool (getM m x).isSome] else (getM m x).getD z) L) : DoesG P F (Instr.lookup t (.map (some b)) (kv x) c) L kk := ⟨fun w hs => by
 obtain ⟨o, hb, ⟨es, clock, rfl, he, _⟩, hn, ho⟩ := hm w hs
 refine ⟨_, L, w, ?_, Ext.refl w, hs, hk⟩
 have hkeys := entry_key he ho
 simp only [Instr.lookup, Sem.run_bind, run_und ht, Result.andThen_ok, MapKept.run_getObj_map hb, Sem.run_pure, KT.chk x hx]
 rcases KT.find x hx es.toList hkeys w with ⟨i, e, h1, h2, h3⟩ | ⟨h1, h2⟩
 ·obtain ⟨p, hp, h4, h5⟩ := entry_at he h2
  have h6 : p.1 = x := KT.inj _ _ (ho p (List.mem_of_getElem? hp)) hx (by rw [← h4, h3])
  have h7 : getM m x = some e.val := getM_at (i := i) hn (by rw [hp, ← h6, h5])
  simp [h1, h7]
 ·have h7 := getM_none (entry_no he h2)
  simp [h1, h7, hz]⟩
theorem setBlock_sat {w : World} {es : Array MapEntry} {clock : Nat} {o' : Obj} (hb : w.heap[b]? = some (.map es clock)) (hs : Sat w (mapP kv ok b m :: L)) {m' : List (K × Value)} (hm : MapIs kv ok o' m') :
 ∃ w', (setObj b o').run P w = .ok () w' ∧ Ext w w' ∧ Sat w' (mapP kv ok b m' :: L) := by
 refine ⟨_, MapKept.run_setObj_map o' hb, ⟨rfl, rfl, rfl, by simp⟩, ?_⟩
 have hh := MapKept.heap_set (o' := o') hb
 refine hs.upd (q := mapP kv ok b m') ?_
 rintro h ⟨o, rfl, ho⟩ hf
 refine ⟨_, ⟨o', rfl, hm⟩, ?_, ?_, ?_⟩
 ·intro j o2 s hj
  obtain ⟨rfl, h2⟩ := one_some hj
  cases h2
  exact hh.1
 ·intro j u hj
  obtain ⟨rfl, _⟩ := one_some hj
  exact .inl ⟨o, one_self _ _ _⟩
 ·intro j _ hno
  refine hh.2 j fun e => ?_
  subst e
  exact hno o (one_self _ _ _)
theorem mapP_sat {w : World} (hs : Sat w (mapP kv ok b m :: L)) : ∃ o, w.heap[b]? = some o ∧ MapIs kv ok o m := MapG.here w hs
theorem putM_at [DecidableEq K] {i : Nat} (hn : (m.map (·.1)).Nodup) (hi : ∃ u, m[i]? = some (x, u)) : (m.modify i fun _ => (x, v)) = putM m x v := by
 obtain ⟨u, hu⟩ := hi
 have hmem : x ∈ m.map (·.1) := List.mem_map.2 ⟨_, List.mem_of_getElem? hu, rfl⟩
 rw [putM, if_pos hmem]
 apply List.ext_getElem?
 intro j
 rw [List.getElem?_modify, List.getElem?_map]
 cases hj : m[j]? with
 | none => simp
 | some p =>
  by_cases e : i = j
  ·subst e; rw [hu] at hj; cases hj; simp
  ·have hne : ¬ p.1 = x := fun h => e (by
    have h1 : (m.map (·.1))[i]? = some x := by rw [List.getElem?_map, hu]; rfl
    have h2 : (m.map (·.1))[j]? = some x := by rw [List.getElem?_map, hj, ← h]; rfl
    obtain ⟨a1, b1⟩ := List.getElem?_eq_some_iff.1 h1
    obtain ⟨a2, b2⟩ := List.getElem?_eq_some_iff.1 h2
    exact (List.getElem_inj hn).1 (b1.trans b2.symm))
   simp [e, hne]
theorem putM_keys [DecidableEq K] (hn : (m.map (·.1)).Nodup) : ((putM m x v).map (·.1)).Nodup := by
 unfold putM
 split
 ·rename_i h
  have e : (m.map fun p => if p.1 = x then (x, v) else p).map (·.1) = m.map (·.1) := by
   rw [List.map_map]
   apply List.map_congr_left
   intro p _
   simp only [Function.comp]
   split
   ·rename_i h; exact h.symm
   ·rfl
  rw [e]; exact hn
 ·rename_i h
  rw [List.map_append, List.nodup_append]
  refine ⟨hn, by simp, ?_⟩
  intro a ha b hb
  simp only [List.map_cons, List.map_nil, List.mem_singleton] at hb
  rintro rfl
  exact h (hb ▸ ha)
theorem putM_oks [DecidableEq K] (ho : ∀ p ∈ m, ok p.1) (hx : ok x) : ∀ p ∈ putM m x v, ok p.1 := by
 unfold putM
 split
 ·intro p hp
  obtain ⟨q, hq, rfl⟩ := List.mem_map.1 hp
  split
  ·exact hx
  ·exact ho q hq
 ·intro p hp
  rcases List.mem_append.1 hp with h | h
  ·exact ho p h
  ·simp only [List.mem_singleton] at h
   rw [h]; exact hx
theorem DoesG.upd [DecidableEq K] (KT : KeyT P k kv ok) (ht : P.underlying t = some (.map k el)) (hx : ok x) {kk : Value → List HP → Prop} (hk : kk undef (mapP kv ok b (putM m x v) :: L)) :
 DoesG P F (do Instr.mapUpdate t (.map (some b)) (kv x) v; pure undef) (mapP kv ok b m :: L) kk := ⟨fun w hs => by
 obtain ⟨o, hb, ⟨es, clock, rfl, he, hc, hd⟩, hn, ho⟩ := mapP_sat hs
 have hkeys := entry_key he ho
 have hrun : ∀ o', MapIs kv ok o' (putM m x v) → ∃ w', (setObj b o').run P w = .ok () w' ∧ Ext w w' ∧ Sat w' (mapP kv ok b (putM m x v) :: (L ++ F)) := fun o' h => setBlock_sat hb hs h
 rcases KT.find x hx es.toList hkeys w with ⟨i, e, h1, h2, h3⟩ | ⟨h1, h2⟩
 ·obtain ⟨p, hp, h4, h5⟩ := entry_at he h2
  have h6 : p.1 = x := KT.inj _ _ (ho p (List.mem_of_getElem? hp)) hx (by rw [← h4, h3])
  have h8 : es[i]? = some e := by simpa using h2
  obtain ⟨w', hr, hxt, hs'⟩ := hrun (.map (es.modify i fun e => { e with key := kv x, val := v }) clock) ⟨⟨_, _, rfl, by
   have e1 : (es.modify i fun e => { e with key := kv x, val := v }).toList = es.toList.modify i fun e => { e with key := kv x, val := v } := by simp
   rw [e1, ← putM_at hn ⟨p.2, by rw [hp, ← h6]⟩]
   apply List.ext_getElem?
   intro j
   have e2 : (es.toList.map (fun e => (e.key, e.val)))[j]? = (m.map (fun p => (kv p.1, p.2)))[j]? := by rw [he]
   simp only [List.getElem?_map, List.getElem?_modify] at e2 ⊢
   by_cases hij : i = j
   ·subst hij
    rw [h2, hp]
    simp
   ·simp only [hij, if_false]
    cases hj : es.toList[j]? <;> cases hq : m[j]? <;> simp [hj, hq] at e2 ⊢
    exact e2, by
   intro f hf
   have e1 : (es.modify i fun e => { e with key := kv x, val := v }).toList = es.toList.modify i fun e => { e with key := kv x, val := v } := by simp
   rw [e1] at hf
   obtain ⟨j, hj⟩ := List.getElem?_of_mem hf
   rw [List.getElem?_modify] at hj
   cases hq : es.toList[j]? with
   | none => rw [hq] at hj; simp at hj
   | some g =>
    rw [hq] at hj
    have hg := hc g (List.mem_of_getElem? hq)
    by_cases hij : i = j
    ·simp [hij] at hj; rw [← hj]; exact hg
    ·simp [hij] at hj; rw [← hj]; exact hg, by
   have e1 : (es.modify i fun e => { e with key := kv x, val := v }).toList.map (·.born) = es.toList.map (·.born) := by
    apply List.ext_getElem?
    intro j
    simp only [Array.toList_modify, List.getElem?_map, List.getElem?_modify]
    by_cases hij : i = j
    ·subst hij; cases es.toList[i]? <;> simp
    ·simp [hij]
   rw [e1]; exact hd⟩, putM_keys hn, putM_oks ho hx⟩
  refine ⟨undef, _, w', ?_, hxt, hs', hk⟩
  simp only [Instr.mapUpdate, Sem.run_bind, run_und ht, Result.andThen_ok, MapKept.run_getObj_map hb, KT.chk x hx, h1, h8, Option.map_some, Option.getD_some, h3, Instr.keyThatStays, KT.stay x hx, if_true, Sem.run_pure, hr]
 ·have h7 := entry_no he h2
  have h9 : x ∉ m.map (·.1) := fun h => by obtain ⟨p, hp, e⟩ := List.mem_map.1 h; exact h7 p hp e
  obtain ⟨w', hr, hxt, hs'⟩ := hrun (.map (es.push { key := kv x, val := v, born := clock }) (clock + 1)) ⟨⟨_, _, rfl, by
   rw [putM, if_neg h9]
   simp [he], by
   intro f hf
   simp only [Array.toList_push, List.mem_append, List.mem_singleton] at hf
   rcases hf with hf | rfl
   ·have := hc f hf; omega
   ·simp, by
   simp only [Array.toList_push, List.map_append, List.map_cons, List.map_nil]
   rw [List.nodup_append]
   refine ⟨hd, by simp, ?_⟩
   intro a ha b hb
   simp only [List.mem_singleton] at hb
   obtain ⟨f, hf, rfl⟩ := List.mem_map.1 ha
   have := hc f hf
   omega⟩, putM_keys hn, putM_oks ho hx⟩
  refine ⟨undef, _, w', ?_, hxt, hs', hk⟩
  simp only [Instr.mapUpdate, Sem.run_bind, run_und ht, Result.andThen_ok, MapKept.run_getObj_map hb, KT.chk x hx, h1, hr, Sem.run_pure]⟩
theorem DoesG.lenM {ty : TypeId} (ht : P.underlying t = some (.map k el)) (hm : MapG kv ok (L ++ F) b m) {kk : Value → List HP → Prop} (hk : kk (.int .i64 m.length) L) :
 DoesG P F (Builtin.len_ #[t] ty #[.map (some b)]) L kk := ⟨fun w hs => by
 obtain ⟨o, hb, ⟨es, clock, rfl, he, _⟩, hn, ho⟩ := hm w hs
 refine ⟨_, L, w, ?_, Ext.refl w, hs, hk⟩
 have hl : es.size = m.length := by
  have := congrArg List.length he
  simpa using this
 simp [Builtin.len_, run_und ht, MapKept.run_getObj_map hb, hl, goInt]⟩
end
end Go.Sl
