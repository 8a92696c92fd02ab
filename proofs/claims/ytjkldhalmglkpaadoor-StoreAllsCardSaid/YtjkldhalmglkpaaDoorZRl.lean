import Derived.Test.YtjkldhalmglkpaaDoorZCd
namespace Go.Sl
open Go
theorem CondG.tt {A B : Prop} (h : A) : CondG true A B := ⟨fun _ => h, fun e => (by cases e)⟩
theorem CondG.ff {A B : Prop} (h : B) : CondG false A B := ⟨fun e => (by cases e), fun _ => h⟩
theorem CondG.ntt {A B : Prop} (h : A) : CondG (!false) A B := CondG.tt h
theorem CondG.nff {A B : Prop} (h : B) : CondG (!true) A B := CondG.ff h
theorem CondG.dec {p : Prop} [Decidable p] {A B : Prop} (h1 : p → A) (h2 : ¬ p → B) : CondG (decide p) A B := ⟨fun h => h1 (of_decide_eq_true h), fun h => h2 (of_decide_eq_false h)⟩
theorem CondG.ndec {p : Prop} [Decidable p] {A B : Prop} (h1 : ¬ p → A) (h2 : p → B) : CondG (!decide p) A B := ⟨fun h => h1 (by simpa using h), fun h => h2 (by simpa using h)⟩
theorem CondG.decT {p : Prop} [Decidable p] {A B : Prop} (hp : p) (h1 : A) : CondG (decide p) A B := .dec (fun _ => h1) (fun h => absurd hp h)
theorem CondG.decF {p : Prop} [Decidable p] {A B : Prop} (hp : ¬ p) (h1 : B) : CondG (decide p) A B := .dec (fun h => absurd h hp) (fun _ => h1)
theorem CondG.split {b : Bool} {A B : Prop} (h1 : b = true → A) (h2 : b = false → B) : CondG b A B := ⟨h1, h2⟩

theorem i64_wrap {z : Int} (h1 : -9223372036854775808 ≤ z) (h2 : z ≤ 9223372036854775807) : IntKind.i64.wrap z = z := by
 show (if (true && decide (z % (2 ^ 64 : Int) ≥ (2 ^ (64 - 1) : Int))) = true then z % (2 ^ 64 : Int) - (2 ^ 64 : Int) else z % (2 ^ 64 : Int)) = z
 have e1 : (2 ^ 64 : Int) = 18446744073709551616 := by decide
 have e2 : (2 ^ (64 - 1) : Int) = 9223372036854775808 := by decide
 rw [e1, e2]
 simp only [Bool.true_and, decide_eq_true_eq]
 split <;> omega
theorem u_wrap {k : IntKind} (hk : k.signed = false) {z : Int} (h1 : 0 ≤ z) (h2 : z < 2 ^ k.bits) : k.wrap z = z := by
 simp only [IntKind.wrap, hk, Bool.false_and]
 exact Int.emod_eq_of_lt h1 h2
theorem ArithG.i64 {z : Int} {K : Int → Prop} (h : -9223372036854775808 ≤ z ∧ z ≤ 9223372036854775807) (hk : K z) : ArithG .i64 z K := ⟨by rw [i64_wrap h.1 h.2]; exact hk⟩
theorem ArithG.i64' {z : Int} (y : Int) {K : Int → Prop} (hy : z = y) (h : -9223372036854775808 ≤ y ∧ y ≤ 9223372036854775807) (hk : K y) : ArithG .i64 z K := ArithG.i64 (by rw [hy]; exact h) (by rw [hy]; exact hk)
theorem ArithG.u64 {z : Int} {K : Int → Prop} (h : 0 ≤ z ∧ z < 18446744073709551616) (hk : K z) : ArithG .u64 z K := ⟨by rw [u_wrap (k := .u64) rfl h.1 h.2]; exact hk⟩
theorem ArithG.all {k : IntKind} {z : Int} {K : Int → Prop} (hk : K (k.wrap z)) : ArithG k z K := ⟨hk⟩
theorem ret_here {L : List HP} {v : Value} {R : Value → List HP → Prop} (h : R v L) : RetG L v R := ⟨L, Ent.refl L, h⟩

/-! Cells -/
def Cel (L : List HP) (b o : Nat) (v : Value) : Prop := Gives L fun w => w.cell? ⟨b, o, none⟩ = some v
def CelN (L : List HP) (b o : Nat) (vs : List Value) : Prop := Gives L fun w => ∀ j u, vs[j]? = some u → w.cell? ⟨b, o + j, none⟩ = some u
theorem cell_of_heap {w : World} {b o : Nat} {cs : List Value} {t : TypeId} {fr : Nat × Nat} {v : Value} (h : w.heap[b]? = some (.cells ⟨cs⟩ t fr)) (hv : cs[o]? = some v) : w.cell? ⟨b, o, none⟩ = some v := by
 simp [World.cell?, h, hv]
theorem Cel.here {L : List HP} {b o : Nat} {t : TypeId} {cs : List Value} {v : Value} (h : cs[o]? = some v) : Cel (cel b t cs :: L) b o v := fun _ hs => cell_of_heap (Sat.blk_heap hs) h
theorem Cel.tl {L : List HP} {p : HP} {b o : Nat} {v : Value} (h : Cel L b o v) : Cel (p :: L) b o v := fun w hs => h w hs.tail
theorem Cel.left {L : List HP} {b o : Nat} {v : Value} (h : Cel L b o v) (M : List HP) : Cel (L ++ M) b o v := fun w hs => h w hs.left
theorem Cel.right {L : List HP} {b o : Nat} {v : Value} (h : Cel L b o v) (M : List HP) : Cel (M ++ L) b o v := fun w hs => h w hs.right
theorem CelN.here {L : List HP} {b o : Nat} {t : TypeId} {cs vs : List Value} (h : (cs.drop o).take vs.length = vs) : CelN (cel b t cs :: L) b o vs := fun w hs j u hj => by
 refine cell_of_heap (Sat.blk_heap hs) ?_
 rw [← h] at hj
 rw [List.getElem?_take] at hj
 split at hj
 ·simpa using hj
 ·cases hj
theorem CelN.all {L : List HP} {b : Nat} {t : TypeId} {cs : List Value} : CelN (cel b t cs :: L) b 0 cs := .here (by simp)
theorem CelN.tl {L : List HP} {p : HP} {b o : Nat} {vs : List Value} (h : CelN L b o vs) : CelN (p :: L) b o vs := fun w hs => h w hs.tail
theorem CelN.right {L : List HP} {b o : Nat} {vs : List Value} (h : CelN L b o vs) (M : List HP) : CelN (M ++ L) b o vs := fun w hs => h w hs.right
theorem CelN.left {L : List HP} {b o : Nat} {vs : List Value} (h : CelN L b o vs) (M : List HP) : CelN (L ++ M) b o vs := fun w hs => h w hs.left
theorem LoadG.at {F L : List HP} {b o : Nat} {v : Value} {k : Value → Prop} (h : Cel L b o v) (hk : k v) : LoadG F (.pointer (some ⟨b, o, none⟩)) L k := ⟨_, v, rfl, h.left F, hk⟩
theorem LoadG.atF {F L : List HP} {b o : Nat} {v : Value} {k : Value → Prop} (h : Cel F b o v) (hk : k v) : LoadG F (.pointer (some ⟨b, o, none⟩)) L k := ⟨_, v, rfl, h.right L, hk⟩
theorem LoadNG.at {F L : List HP} {n b o : Nat} {vs : List Value} {k : Value → Prop} (hn : vs.length = n) (h : CelN L b o vs) (hk : k (.agg ⟨vs⟩)) : LoadNG F n (.pointer (some ⟨b, o, none⟩)) L k :=
 ⟨_, vs, rfl, hn, fun w hs j u hj => by rw [add_none]; exact h.left F w hs j u hj, hk⟩
theorem LoadNG.atF {F L : List HP} {n b o : Nat} {vs : List Value} {k : Value → Prop} (hn : vs.length = n) (h : CelN F b o vs) (hk : k (.agg ⟨vs⟩)) : LoadNG F n (.pointer (some ⟨b, o, none⟩)) L k :=
 ⟨_, vs, rfl, hn, fun w hs j u hj => by rw [add_none]; exact h.right L w hs j u hj, hk⟩

def Upd (P : Program) (L : List HP) (b o : Nat) (vs : List Value) (L' : List HP) : Prop := ∀ F, Writes P F ⟨b, o, none⟩ vs L L'
theorem storeCells_run (P : Program) (b o : Nat) (t : TypeId) : ∀ (vs : List Value) (i : Nat) (cs : List Value) (w : World), w.heap[b]? = some (.cells ⟨cs⟩ t (0, 0)) → o + i + vs.length ≤ cs.length → (∀ v ∈ vs, v.oneCell' = true) →
 ∃ w', (storeCells ⟨b, o, none⟩ vs i).run P w = .ok () w' ∧ Ext w w' ∧ w'.heap[b]? = some (.cells ⟨cs.take (o + i) ++ vs ++ cs.drop (o + i + vs.length)⟩ t (0, 0)) ∧ ∀ k, k ≠ b → w'.heap[k]? = w.heap[k]?
 | [], i, cs, w, h, _, _ => ⟨w, by simp [storeCells], Ext.refl w, by simpa using h, fun _ _ => rfl⟩
 | v :: vs, i, cs, w, h, hl, h1 => by
  have hlt : o + i < cs.length := by simp at hl; omega
  have hc : w.cell? ⟨b, o + i, none⟩ = some cs[o + i] := cell_of_heap h (by simp [hlt])
  have hz : w.frozen? ⟨b, o + i, none⟩ = false := by simp [World.frozen?, h]
  have hst : (store ((⟨b, o, none⟩ : Addr).add i) v).run P w = .ok () (w.setCell ⟨b, o + i, none⟩ v) := by
   rw [add_none, run_store P w _ v .plain (h1 v (by simp)), hc]
   simp [hz]
  have hh := heap_setCell_same h (i := o + i) v
  have hh' : (w.setCell ⟨b, o + i, none⟩ v).heap[b]? = some (.cells ⟨cs.set (o + i) v⟩ t (0, 0)) := by rw [hh]; simp
  obtain ⟨w', hr, hx, hb, hk⟩ := storeCells_run P b o t vs (i + 1) (cs.set (o + i) v) _ hh' (by simp at hl ⊢; omega) (fun u hu => h1 u (by simp [hu]))
  refine ⟨w', by simp [storeCells, hst, hr], (Ext.setCell _ _ _).trans hx, ?_, fun k hne => (hk k hne).trans (heap_setCell_other w b (o + i) k v hne)⟩
  rw [hb]
  have e1 : o + (i + 1) = o + i + 1 := by omega
  rw [e1, take_set_succ cs _ v hlt, List.drop_set_of_lt (by omega)]
  simp only [List.length_cons, List.append_assoc, List.cons_append, List.nil_append]
  rw [show o + i + (vs.length + 1) = o + i + 1 + vs.length by omega]
theorem Upd.hereN {P : Program} {L : List HP} {b o : Nat} {t : TypeId} {cs vs cs' : List Value} (hl : o + vs.length ≤ cs.length) (h1 : ∀ v ∈ vs, v.oneCell' = true) (hc : cs.take o ++ vs ++ cs.drop (o + vs.length) = cs') : Upd P (cel b t cs :: L) b o vs (cel b t cs' :: L) := by
 intro F w hs
 obtain ⟨w', hr, hx, hb, hk⟩ := storeCells_run P b o t vs 0 cs w (Sat.blk_heap hs) (by simpa using hl) h1
 refine ⟨w', hr, hx, ?_⟩
 simp only [Nat.add_zero, hc] at hb
 exact Sat.put (o := .cells ⟨cs⟩ t (0, 0)) hs hb hk
theorem Upd.here {P : Program} {L : List HP} {b o : Nat} {t : TypeId} {cs : List Value} {v : Value} (hl : o < cs.length) (h1 : v.oneCell' = true) : Upd P (cel b t cs :: L) b o [v] (cel b t (cs.set o v) :: L) := by
 refine Upd.hereN hl (by simpa using h1) ?_
 rw [List.set_eq_take_append_cons_drop, if_pos hl]
 simp
theorem Upd.whole {P : Program} {L : List HP} {b : Nat} {t : TypeId} {cs vs : List Value} (hl : vs.length = cs.length) (h1 : ∀ v ∈ vs, v.oneCell' = true) : Upd P (cel b t cs :: L) b 0 vs (cel b t vs :: L) :=
 Upd.hereN (by omega) h1 (by simp [hl])
theorem Upd.tl {P : Program} {L L' : List HP} {p : HP} {b o : Nat} {vs : List Value} (h : Upd P L b o vs L') : Upd P (p :: L) b o vs (p :: L') := by
 intro F w hs
 have h1 : Sat w (L ++ (p :: F)) := hs.perm (by simpa using (List.perm_middle (a := p) (l₁ := L) (l₂ := F)).symm)
 obtain ⟨w', hr, hx, hs'⟩ := h (p :: F) w h1
 exact ⟨w', hr, hx, hs'.perm List.perm_middle⟩
theorem StoreG.at {P : Program} {F L L' : List HP} {n b o : Nat} {cs : List Value} {k : List HP → Prop} (hn : cs.length = n) (h : Upd P L b o cs L') (hk : k L') : StoreG P F n (.pointer (some ⟨b, o, none⟩)) cs L k := ⟨_, L', rfl, hn, h F, hk⟩

/-! What is had, in another order -/
theorem Ent.nil (L : List HP) : Ent L [] := fun w F hs => hs.right
theorem erase_perm {p : HP} : ∀ {L : List HP} (i : Nat), L[i]? = some p → L.Perm (p :: L.eraseIdx i)
 | [], _, h => by simp at h
 | q :: L, 0, h => by simp at h; subst h; exact List.Perm.refl _
 | q :: L, i + 1, h => by
  have := erase_perm (L := L) i (by simpa using h)
  exact (this.cons q).trans (List.Perm.swap p q _)
theorem Ent.front {L : List HP} (i : Nat) {p : HP} (h : L[i]? = some p) : Ent L (p :: L.eraseIdx i) := Ent.perm (erase_perm i h)
theorem CallG.of {P : Program} {F : List HP} {f : FuncId} {args : List Value} {L pre rest : List HP} {R : Value → List HP → Prop} {k : Value → List HP → Prop} (spec : SpecF P f args (rest ++ F) pre R) (hL : Ent L (pre ++ rest)) (hk : ∀ v L', R v L' → k v (L' ++ rest)) : CallG P F f args L k := ⟨pre, rest, R, spec, hL, hk⟩
theorem CallG.pure {P : Program} {F : List HP} {f : FuncId} {args : List Value} {L : List HP} {R : Value → List HP → Prop} {k : Value → List HP → Prop} (spec : SpecF P f args (L ++ F) [] R) (hk : ∀ v L', R v L' → k v (L' ++ L)) : CallG P F f args L k := ⟨[], L, R, spec, Ent.refl L, hk⟩
theorem DoesG.of {P : Program} {F : List HP} {s : Sem Value} {L : List HP} {k : Value → List HP → Prop} (R : Value → List HP → Prop) (h : ∀ w, Sat w (L ++ F) → ∃ v L' w', s.run P w = .ok v w' ∧ Ext w w' ∧ Sat w' (L' ++ F) ∧ R v L') (hk : ∀ v L', R v L' → k v L') : DoesG P F s L k :=
 ⟨fun w hs => let ⟨v, L', w', h1, h2, h3, h4⟩ := h w hs; ⟨v, L', w', h1, h2, h3, hk v L' h4⟩⟩
theorem SideG.of {p K : Prop} (h : p) (hk : K) : SideG p K := ⟨h, hk⟩
theorem BuildG.of {z : List Value} {ps : List (Nat × Nat × Value)} {K : List Value → Prop} {cs : List Value} (h : fillL z ps = some cs) (hk : K cs) : BuildG z ps K := ⟨cs, h, hk⟩
theorem SliceG.zero {a : Option Addr} {esz h m : Nat} {K : Value → Prop} (hk : K (.slice a h m)) : SliceG a esz 0 h m K := ⟨by
 have : (if m = 0 then a else a.map (·.add (0 * esz))) = a := by
  split
  ·rfl
  ·cases a <;> simp [Addr.add]
 rw [this]; simpa using hk⟩
theorem SliceG.ne {b o esz l h m : Nat} {K : Value → Prop} (hne : m ≠ l) (hk : K (.slice (some ⟨b, o + l * esz, none⟩) (h - l) (m - l))) : SliceG (some ⟨b, o, none⟩) esz l h m K := ⟨by
 rw [if_neg hne]; simpa [add_none] using hk⟩
end Go.Sl
