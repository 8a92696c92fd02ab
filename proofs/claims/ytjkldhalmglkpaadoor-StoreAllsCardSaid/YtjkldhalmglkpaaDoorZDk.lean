import Derived.Test.YtjkldhalmglkpaaDoorZMp
import Derived.Test.YtjkldhalmglkpaaDoorZEq
import Derived.WideKeyRuns
namespace Go.Sl
open Go
section
variable {P : Program} {w : World}
theorem forIn_units {f : Nat → Sem Unit} : ∀ {l : List Nat}, (∀ i ∈ l, (f i).run P w = .ok () w) → (forIn l PUnit.unit (fun i _ => do f i; pure (ForInStep.yield PUnit.unit))).run P w = .ok PUnit.unit w
 | [], _ => by simp
 | i :: l, h => by
  rw [List.forIn_cons]
  simp only [Sem.run_bind, h i (by simp), Result.andThen_ok, Sem.run_pure]
  exact forIn_units fun j hj => h j (by simp [hj])
theorem run_check_u8 {e : TypeId} (he : P.underlying e = some (.int .u8)) (v : Value) (hv : wtV (.int .u8) v) (em : Bool) (n : Nat) : (Instr.checkKey em (n + 1) e v).run P w = .ok () w := by
 cases v <;> simp [wtV] at hv
 simp [Instr.checkKey, run_und he]
theorem run_part_u8 {e : TypeId} (he : P.underlying e = some (.int .u8)) {cs : List Value} {i : Nat} {v : Value} (h : cs[i]? = some v) : (part e ⟨cs⟩ i).run P w = .ok v w := by
 simp [part, isAgg, run_und he, h]
theorem run_check_arr {k e : TypeId} {len : Nat} (hk : P.underlying k = some (.array len e)) (he : P.underlying e = some (.int .u8)) (hs : sizeT P e = some 1) {cs : List Value} (hc : wt (List.replicate len (.int .u8)) cs) (em : Bool) (n : Nat) :
 (Instr.checkKey em (n + 2) k (.agg ⟨cs⟩)).run P w = .ok () w := by
 obtain ⟨i, hi, hsz⟩ := Option.map_eq_some_iff.1 (show (P.info? e).map (·.size) = some 1 from hs)
 have hl : cs.length = len := by simpa using wt_len hc
 rw [Instr.checkKey]
 simp only [Sem.run_bind, run_und hk, Result.andThen_ok, Std.Legacy.Range.forIn_eq_forIn_range', Std.Legacy.Range.size, Nat.sub_zero, Nat.add_one_sub_one, Nat.div_one]
 have key : (forIn (List.range' 0 len 1) PUnit.unit (fun i _ => do
  (do Instr.checkKey em (n + 1) e (← part e ⟨cs⟩ (i * (← sizeOf e))))
  pure (ForInStep.yield PUnit.unit))).run P w = .ok PUnit.unit w := ?_
 ·simp only [bind_assoc] at key
  rw [key]
  rfl
 refine (forIn_units (f := fun i => do Instr.checkKey em (n + 1) e (← part e ⟨cs⟩ (i * (← sizeOf e)))) fun j hj => ?_)
 have hj' : j < cs.length := by
  have := List.mem_range'_1.1 hj
  omega
 have h1 : ∀ (ks : List LK) (xs : List Value) (j : Nat), wt ks xs → (∀ k ∈ ks, k = .int .u8) → ∀ v, xs[j]? = some v → wtV (.int .u8) v := by
  intro ks
  induction ks with
  | nil => intro xs j h _ v hv; cases xs <;> simp [wt] at h; simp at hv
  | cons k ks ih =>
   intro xs j h ha v hv
   cases xs with
   | nil => simp at hv
   | cons x xs =>
    cases j with
    | zero => simp at hv; subst hv; rw [← ha k (by simp)]; exact h.1
    | succ j => exact ih xs j h.2 (fun q hq => ha q (by simp [hq])) v (by simpa using hv)
 have hg : cs[j]? = some cs[j] := List.getElem?_eq_getElem hj'
 have hso : (sizeOf e).run P w = .ok 1 w := by simp [sizeOf, typeInfo, hi, hsz]
 simp only [Sem.run_bind, hso, Result.andThen_ok, Nat.mul_one, run_part_u8 he hg]
 exact run_check_u8 he _ (h1 _ _ j hc (by simp) _ hg) em n
theorem sameBits_cells : ∀ {ks : List LK} {cs : List Value}, wt ks cs → ((cs.zip cs).all fun (x, y) => Instr.sameBits 9999 x y) = true
 | [], [], _ => rfl
 | k :: ks, v :: vs, h => by
  simp only [List.zip_cons_cons, List.all_cons, Bool.and_eq_true]
  refine ⟨?_, sameBits_cells h.2⟩
  have h1 := h.1
  cases k <;> cases v <;> simp [wtV] at h1 <;> simp [Instr.sameBits]
  exact (MapKept.bytes_beq _ _).2 rfl
 | [], _ :: _, h => h.elim
 | _ :: _, [], h => h.elim
open Classical in
theorem findAsking_spec {k : TypeId} {ks : List LK} (hf : flatT P 3 k = some ks) (ha : ∀ xs, mkV P k xs = .agg ⟨xs⟩) {cs : List Value} (hc : wt ks cs) : ∀ (l : List MapEntry) (i : Nat), (∀ e ∈ l, ∃ ys, wt ks ys ∧ e.key = .agg ⟨ys⟩) →
 (∃ (j : Nat) (e : MapEntry), (Instr.findAsking k (.agg ⟨cs⟩) l i).run P w = .ok (some (i + j, e.val)) w ∧ l[j]? = some e ∧ e.key = .agg ⟨cs⟩) ∨ ((Instr.findAsking k (.agg ⟨cs⟩) l i).run P w = .ok none w ∧ ∀ e ∈ l, e.key ≠ .agg ⟨cs⟩)
 | [], i, _ => .inr ⟨by simp [Instr.findAsking], by simp⟩
 | e :: l, i, h => by
  obtain ⟨ys, hy, he⟩ := h e (by simp)
  have heq := eqT (P := P) (w := w) 3 10000 k ks hf (by decide) cs ys hc hy
  rw [ha, ha] at heq
  have heq' : (Op.equal k (.agg ⟨cs⟩) e.key).run P w = .ok (decide (cs = ys)) w := by rw [he]; exact heq
  by_cases hcy : cs = ys
  ·subst hcy
   refine .inl ⟨0, e, ?_, rfl, he⟩
   simp [Instr.findAsking, heq']
  ·rcases findAsking_spec hf ha hc l (i + 1) (fun e' he' => h e' (by simp [he'])) with ⟨j, e', h1, h2, h3⟩ | ⟨h1, h2⟩
   ·refine .inl ⟨j + 1, e', ?_, by simpa using h2, h3⟩
    simp only [Instr.findAsking, Sem.run_bind, heq', Result.andThen_ok, hcy, decide_false, Bool.false_eq_true, if_false]
    rw [h1, show i + 1 + j = i + (j + 1) by omega]
   ·refine .inr ⟨?_, ?_⟩
    ·simp only [Instr.findAsking, Sem.run_bind, heq', Result.andThen_ok, hcy, decide_false, Bool.false_eq_true, if_false]
     exact h1
    ·intro e' he'
     rcases List.mem_cons.1 he' with rfl | he'
     ·rw [he]
      intro e2
      injection e2 with e3
      injection e3 with e4
      exact hcy e4.symm
     ·exact h2 e' he'
theorem KeyT.arr {k e : TypeId} {len : Nat} {K : Type} {kv : K → Value} {ok : K → Prop} (cs : K → List Value) (hkv : ∀ x, kv x = .agg ⟨cs x⟩) (hw : ∀ x, ok x → wt (List.replicate len (.int .u8)) (cs x)) (hinj : ∀ x y, ok x → ok y → cs x = cs y → x = y)
 (hk : P.underlying k = some (.array len e)) (he : P.underlying e = some (.int .u8)) (hs : sizeT P e = some 1) (hf : flatT P 3 k = some (List.replicate len (.int .u8))) : KeyT P k kv ok where
 find x hx l hl w := by
  rw [hkv x]
  have hq : (Instr.findKey k (.agg ⟨cs x⟩) l).run P w = (Instr.findAsking k (.agg ⟨cs x⟩) l).run P w := run_findKey_eq w (by simp [hk]) _ _
  rcases findAsking_spec (w := w) hf (fun xs => by simp [mkV, hk]) (hw x hx) l 0 (fun e he => by
   obtain ⟨y, hy, h⟩ := hl e he
   exact ⟨cs y, hw y hy, by rw [h, hkv y]⟩) with ⟨j, e, h1, h2, h3⟩ | ⟨h1, h2⟩
  ·refine .inl ⟨j, e, ?_, h2, h3⟩
   rw [hq, h1, Nat.zero_add]
  ·exact .inr ⟨by rw [hq, h1], h2⟩
 chk x hx em w := by
  rw [hkv x]
  exact run_check_arr hk he hs (hw x hx) em 9998
 stay x hx := by
  rw [hkv x]
  simp only [Instr.sameBits, beq_self_eq_true, Bool.true_and]
  exact sameBits_cells (hw x hx)
 inj x y hx hy h := by
  rw [hkv x, hkv y] at h
  injection h with h1
  injection h1 with h2
  exact hinj x y hx hy h2
end
section
variable {K : Type} {P : Program} {F L M : List HP} {kv : K → Value} {ok : K → Prop} {b : Nat} {m : List (K × Value)} {k t el : TypeId} {x : K} {v : Value}
theorem map_erase {β γ : Type} (f : β → γ) : ∀ (l : List β) (i : Nat), (l.eraseIdx i).map f = (l.map f).eraseIdx i
 | [], _ => rfl
 | _ :: _, 0 => rfl
 | x :: l, i + 1 => by simp [map_erase f l i]
theorem eraseIdx_filter {β : Type} {f : β → Bool} : ∀ {l : List β} {i : Nat} {y : β}, l[i]? = some y → f y = false → (∀ j z, l[j]? = some z → j ≠ i → f z = true) → l.eraseIdx i = l.filter f
 | [], i, y, h, _, _ => by simp at h
 | z :: l, 0, y, h, hf, ha => by
  simp at h; subst h
  rw [List.eraseIdx_cons_zero, List.filter_cons, hf]
  simp only [Bool.false_eq_true, if_false]
  rw [List.filter_eq_self.2]
  intro q hq
  obtain ⟨j, hj⟩ := List.getElem?_of_mem hq
  exact ha (j + 1) q (by simpa using hj) (by omega)
 | z :: l, i + 1, y, h, hf, ha => by
  have hz := ha 0 z rfl (by omega)
  rw [List.eraseIdx_cons_succ, List.filter_cons, hz, if_pos rfl]
  rw [eraseIdx_filter (by simpa using h) hf (fun j q hq hj => ha (j + 1) q (by simpa using hq) (by omega))]
theorem DoesG.delM [DecidableEq K] (KT : KeyT P k kv ok) (ht : P.underlying t = some (.map k el)) {t2 ty : TypeId} (hx : ok x) {kk : Value → List HP → Prop} (hk : kk (.tuple #[]) (mapP kv ok b (delM m x) :: L)) :
 DoesG P F (Builtin.delete_ #[t, t2] ty #[.map (some b), kv x]) (mapP kv ok b m :: L) kk := ⟨fun w hs => by
 obtain ⟨o, hb, ⟨es, clock, rfl, he, hc, hd⟩, hn, ho⟩ := mapP_sat hs
 have hkeys := entry_key he ho
 have hrun : ∀ o', MapIs kv ok o' (Go.Sl.delM m x) → ∃ w', (setObj b o').run P w = .ok () w' ∧ Ext w w' ∧ Sat w' (mapP kv ok b (Go.Sl.delM m x) :: (L ++ F)) := fun o' h => setBlock_sat hb hs h
 rcases KT.find x hx es.toList hkeys w with ⟨i, e, h1, h2, h3⟩ | ⟨h1, h2⟩
 ·obtain ⟨p, hp, h4, h5⟩ := entry_at he h2
  have h6 : p.1 = x := KT.inj _ _ (ho p (List.mem_of_getElem? hp)) hx (by rw [← h4, h3])
  have hdel : m.eraseIdx i = Go.Sl.delM m x := by
   refine eraseIdx_filter (y := p) hp (by simp [h6]) fun j q hq hj => ?_
   have : ¬ q.1 = x := fun e' => hj (by
    have h1 : (m.map (·.1))[i]? = some x := by rw [List.getElem?_map, hp, ← h6]; rfl
    have h2 : (m.map (·.1))[j]? = some x := by rw [List.getElem?_map, hq, ← e']; rfl
    obtain ⟨a1, b1⟩ := List.getElem?_eq_some_iff.1 h1
    obtain ⟨a2, b2⟩ := List.getElem?_eq_some_iff.1 h2
    exact ((List.getElem_inj hn).1 (b1.trans b2.symm)).symm)
   simp [this]
  have e1 : (es.eraseIdxIfInBounds i).toList = es.toList.eraseIdx i := by
   have hlt : i < es.size := by
    have := (List.getElem?_eq_some_iff.1 h2).1
    simpa using this
   rw [Array.eraseIdxIfInBounds, dif_pos hlt, Array.toList_eraseIdx]
  obtain ⟨w', hr, hxt, hs'⟩ := hrun (.map (es.eraseIdxIfInBounds i) clock) ⟨⟨_, _, rfl, by
   rw [e1, ← hdel, map_erase, he, map_erase], by
   intro f hf
   rw [e1] at hf
   exact hc f ((List.eraseIdx_sublist _ _).subset hf), by
   rw [e1, map_erase]
   exact hd.sublist (List.eraseIdx_sublist _ _)⟩, by
   have : ((Go.Sl.delM m x).map (·.1)).Sublist (m.map (·.1)) := (List.filter_sublist (l := m)).map _
   exact hn.sublist this, fun p hp => ho p (List.mem_filter.1 hp).1⟩
  refine ⟨.tuple #[], _, w', ?_, hxt, hs', hk⟩
  simp [Builtin.delete_, run_und ht, MapKept.run_getObj_map hb, KT.chk x hx, h1, hr]
 ·have h7 := entry_no he h2
  have hdel : Go.Sl.delM m x = m := by
   unfold Go.Sl.delM
   rw [List.filter_eq_self]
   intro p hp
   simpa using h7 p hp
  obtain ⟨w', hr, hxt, hs'⟩ := hrun (.map es clock) (by rw [hdel]; exact ⟨⟨_, _, rfl, he, hc, hd⟩, hn, ho⟩)
  refine ⟨.tuple #[], _, w', ?_, hxt, hs', hk⟩
  simp [Builtin.delete_, run_und ht, MapKept.run_getObj_map hb, KT.chk x hx, h1, hr]⟩
end
end Go.Sl
