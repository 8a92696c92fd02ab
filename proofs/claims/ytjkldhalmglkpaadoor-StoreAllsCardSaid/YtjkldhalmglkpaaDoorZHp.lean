import Derived.Calls
import Derived.Laws.World
namespace Go.Sl
open Go

abbrev Hp := Nat → Option (Obj × Bool)
def Hp.emp : Hp := fun _ => none
def Hp.ok (h k : Hp) : Prop := ∀ b x y, h b = some x → k b = some y → x = y ∧ x.2 = true
def Hp.add (h k : Hp) : Hp := fun b => match h b with
 | some x => some x
 | none => k b
abbrev HP := Hp → Prop
def sepL : List HP → HP
 | [] => fun h => h = Hp.emp
 | p :: l => fun h => ∃ x y, Hp.ok x y ∧ h = Hp.add x y ∧ p x ∧ sepL l y
def Hp.fits (h : Hp) (w : World) : Prop := ∀ b o s, h b = some (o, s) → w.heap[b]? = some o
def Sat (w : World) (l : List HP) : Prop := ∃ h, sepL l h ∧ h.fits w
def Gives (l : List HP) (φ : World → Prop) : Prop := ∀ w, Sat w l → φ w
def Ent (l m : List HP) : Prop := ∀ w F, Sat w (l ++ F) → Sat w (m ++ F)

theorem Hp.ok_symm {h k : Hp} (H : h.ok k) : k.ok h := fun b x y hx hy => by
 obtain ⟨e, s⟩ := H b y x hy hx
 exact ⟨e.symm, by rw [← e]; exact s⟩
theorem Hp.add_comm {h k : Hp} (H : h.ok k) : h.add k = k.add h := by
 funext b
 unfold Hp.add
 cases hb : h b with
 | none => cases k b <;> rfl
 | some x =>
  cases kb : k b with
  | none => rfl
  | some y => simp [(H b x y hb kb).1]
theorem Hp.add_assoc (h k m : Hp) : (h.add k).add m = h.add (k.add m) := by
 funext b
 unfold Hp.add
 cases h b <;> rfl
theorem Hp.add_emp (h : Hp) : h.add Hp.emp = h := by
 funext b
 unfold Hp.add Hp.emp
 cases h b <;> rfl
theorem Hp.ok_emp (h : Hp) : h.ok Hp.emp := fun b x y _ hy => by cases hy
theorem Hp.emp_ok (h : Hp) : Hp.emp.ok h := fun b x y hx _ => by cases hx
theorem Hp.ok_add_left {x y z : Hp} (h : (x.add y).ok z) : x.ok z := fun b u v hu hv => h b u v (by simp [Hp.add, hu]) hv
theorem Hp.ok_add_right {x y z : Hp} (hxy : x.ok y) (h : (x.add y).ok z) : y.ok z := by
 rw [Hp.add_comm hxy] at h
 exact Hp.ok_add_left h
theorem Hp.ok_add {x y z : Hp} (hx : x.ok z) (hy : y.ok z) : (x.add y).ok z := fun b u v hu hv => by
 unfold Hp.add at hu
 cases hb : x b with
 | none => simp only [hb] at hu; exact hy b u v hu hv
 | some t => simp only [hb] at hu; cases hu; exact hx b _ v hb hv
theorem Hp.ok_of_add {x y z : Hp} (hyz : y.ok z) (h : x.ok (y.add z)) : x.ok y ∧ x.ok z :=
 ⟨Hp.ok_symm (Hp.ok_add_left (Hp.ok_symm h)), Hp.ok_symm (Hp.ok_add_right hyz (Hp.ok_symm h))⟩
theorem Hp.fits_add {h k : Hp} {w : World} (H : h.ok k) : (h.add k).fits w ↔ h.fits w ∧ k.fits w := by
 constructor
 ·intro hf
  refine ⟨fun b o s hb => hf b o s (by simp [Hp.add, hb]), fun b o s hb => ?_⟩
  rw [Hp.add_comm H] at hf
  exact hf b o s (by simp [Hp.add, hb])
 ·rintro ⟨h1, h2⟩ b o s hb
  unfold Hp.add at hb
  cases hh : h b with
  | none => simp only [hh] at hb; exact h2 b o s hb
  | some t => simp only [hh] at hb; cases hb; exact h1 b o s hh

theorem sepL_append {l m : List HP} {h : Hp} : sepL (l ++ m) h ↔ ∃ x y, Hp.ok x y ∧ h = Hp.add x y ∧ sepL l x ∧ sepL m y := by
 induction l generalizing h with
 | nil =>
  constructor
  ·intro hm; exact ⟨Hp.emp, h, Hp.emp_ok _, rfl, rfl, hm⟩
  ·rintro ⟨x, y, _, rfl, rfl, hm⟩; exact hm
 | cons p l ih =>
  constructor
  ·rintro ⟨x, y, hok, rfl, hp, hy⟩
   obtain ⟨u, v, hok2, rfl, hl, hm⟩ := ih.1 hy
   obtain ⟨h1, h2⟩ := Hp.ok_of_add hok2 hok
   exact ⟨x.add u, v, Hp.ok_add h2 hok2, (Hp.add_assoc _ _ _).symm, ⟨x, u, h1, rfl, hp, hl⟩, hm⟩
  ·rintro ⟨x, y, hok, rfl, ⟨u, v, hok2, rfl, hp, hl⟩, hm⟩
   have h1 := Hp.ok_add_left hok
   have h2 := Hp.ok_add_right hok2 hok
   exact ⟨u, v.add y, Hp.ok_symm (Hp.ok_add (Hp.ok_symm hok2) (Hp.ok_symm h1)), Hp.add_assoc _ _ _, hp, ih.2 ⟨v, y, h2, rfl, hl, hm⟩⟩

theorem sepL_swap {p q : HP} {l : List HP} {h : Hp} (H : sepL (p :: q :: l) h) : sepL (q :: p :: l) h := by
 obtain ⟨x, y, hok, rfl, hp, u, v, hok2, rfl, hq, hl⟩ := H
 obtain ⟨h1, h2⟩ := Hp.ok_of_add hok2 hok
 refine ⟨u, x.add v, Hp.ok_symm (Hp.ok_add h1 (Hp.ok_symm hok2)), ?_, hq, x, v, h2, rfl, hp, hl⟩
 rw [← Hp.add_assoc, ← Hp.add_assoc, Hp.add_comm h1]

theorem sepL_perm {l m : List HP} (hp : l.Perm m) {h : Hp} (H : sepL l h) : sepL m h := by
 induction hp generalizing h with
 | nil => exact H
 | cons p _ ih =>
  obtain ⟨x, y, hok, rfl, hp, hl⟩ := H
  exact ⟨x, y, hok, rfl, hp, ih hl⟩
 | swap p q l => exact sepL_swap H
 | trans _ _ ih1 ih2 => exact ih2 (ih1 H)

theorem Sat.perm {w : World} {l m : List HP} (h : Sat w l) (hp : l.Perm m) : Sat w m :=
 let ⟨x, hx, hf⟩ := h; ⟨x, sepL_perm hp hx, hf⟩

theorem Sat.append {w : World} {l m : List HP} : Sat w (l ++ m) ↔ ∃ x y, Hp.ok x y ∧ sepL l x ∧ sepL m y ∧ x.fits w ∧ y.fits w := by
 constructor
 ·rintro ⟨h, hs, hf⟩
  obtain ⟨x, y, hok, rfl, hl, hm⟩ := sepL_append.1 hs
  exact ⟨x, y, hok, hl, hm, (Hp.fits_add hok).1 hf⟩
 ·rintro ⟨x, y, hok, hl, hm, hf⟩
  exact ⟨x.add y, sepL_append.2 ⟨x, y, hok, rfl, hl, hm⟩, (Hp.fits_add hok).2 hf⟩

theorem Sat.cons {w : World} {p : HP} {l : List HP} : Sat w (p :: l) ↔ ∃ x y, Hp.ok x y ∧ p x ∧ sepL l y ∧ x.fits w ∧ y.fits w := by
 constructor
 ·rintro ⟨h, ⟨x, y, hok, rfl, hp, hl⟩, hf⟩
  exact ⟨x, y, hok, hp, hl, (Hp.fits_add hok).1 hf⟩
 ·rintro ⟨x, y, hok, hp, hl, hf⟩
  exact ⟨x.add y, ⟨x, y, hok, rfl, hp, hl⟩, (Hp.fits_add hok).2 hf⟩

theorem Sat.left {w : World} {l m : List HP} (h : Sat w (l ++ m)) : Sat w l := by
 obtain ⟨x, y, _, hl, _, hf, _⟩ := Sat.append.1 h
 exact ⟨x, hl, hf⟩
theorem Sat.right {w : World} {l m : List HP} (h : Sat w (l ++ m)) : Sat w m := by
 obtain ⟨x, y, _, _, hm, _, hf⟩ := Sat.append.1 h
 exact ⟨y, hm, hf⟩
theorem Sat.tail {w : World} {p : HP} {l : List HP} (h : Sat w (p :: l)) : Sat w l := Sat.right (l := [p]) (m := l) h

theorem Sat.of_heap {w w' : World} {l : List HP} (h : Sat w l) (hh : w'.heap = w.heap) : Sat w' l :=
 let ⟨x, hx, hf⟩ := h; ⟨x, hx, fun b o s hb => by rw [hh]; exact hf b o s hb⟩

theorem Sat.upd {w w' : World} {p q : HP} {l : List HP} (h : Sat w (p :: l))
 (step : ∀ x, p x → x.fits w → ∃ x', q x' ∧ x'.fits w' ∧ (∀ b v, x' b = some v → (∃ o, x b = some (o, false)) ∨ w.heap.size ≤ b ∨ x b = some v) ∧
  (∀ b, b < w.heap.size → (∀ o, x b ≠ some (o, false)) → w'.heap[b]? = w.heap[b]?)) : Sat w' (q :: l) := by
 obtain ⟨x, y, hok, hp, hl, hfx, hfy⟩ := Sat.cons.1 h
 obtain ⟨x', hq, hf', hnew, hkeep⟩ := step x hp hfx
 have hlt : ∀ b v, y b = some v → b < w.heap.size := fun b v hb => by
  obtain ⟨o, s⟩ := v
  exact (Array.getElem?_eq_some_iff.1 (hfy b o s hb)).1
 refine Sat.cons.2 ⟨x', y, ?_, hq, hl, hf', ?_⟩
 ·intro b u v hu hv
  rcases hnew b u hu with ⟨o, ho⟩ | hge | hs
  ·exact absurd (hok b _ v ho hv).2 (by simp)
  ·exact absurd (hlt b v hv) (by omega)
  ·exact hok b u v hs hv
 ·intro b o s hb
  rw [hkeep b (hlt b _ hb) (fun o' ho' => absurd (hok b _ _ ho' hb).2 (by simp))]
  exact hfy b o s hb

def one (b : Nat) (o : Obj) (s : Bool) : Hp := fun k => if k = b then some (o, s) else none
def blk (b : Nat) (o : Obj) : HP := fun h => h = one b o false
def rob (b : Nat) (o : Obj) : HP := fun h => h = one b o true
def was (m : Array Obj) : HP := fun h => h = fun b => (m[b]?).map fun o => (o, true)
def fact (φ : Prop) : HP := fun h => h = Hp.emp ∧ φ

theorem one_self (b : Nat) (o : Obj) (s : Bool) : one b o s b = some (o, s) := by simp [one]
theorem one_some {b k : Nat} {o : Obj} {s : Bool} {v : Obj × Bool} (h : one b o s k = some v) : k = b ∧ v = (o, s) := by
 unfold one at h
 split at h
 ·cases h; exact ⟨‹_›, rfl⟩
 ·cases h

theorem Sat.blk_heap {w : World} {b : Nat} {o : Obj} {l : List HP} (h : Sat w (blk b o :: l)) : w.heap[b]? = some o := by
 obtain ⟨x, y, _, rfl, _, hf, _⟩ := Sat.cons.1 h
 exact hf b o false (one_self _ _ _)
theorem Sat.rob_heap {w : World} {b : Nat} {o : Obj} {l : List HP} (h : Sat w (rob b o :: l)) : w.heap[b]? = some o := by
 obtain ⟨x, y, _, rfl, _, hf, _⟩ := Sat.cons.1 h
 exact hf b o true (one_self _ _ _)
theorem Sat.blk_lt {w : World} {b : Nat} {o : Obj} {l : List HP} (h : Sat w (blk b o :: l)) : b < w.heap.size :=
 (Array.getElem?_eq_some_iff.1 h.blk_heap).1
theorem Sat.was_heap {w : World} {m : Array Obj} {l : List HP} (h : Sat w (was m :: l)) {b : Nat} {o : Obj} (hb : m[b]? = some o) : w.heap[b]? = some o := by
 obtain ⟨x, y, _, rfl, _, hf, _⟩ := Sat.cons.1 h
 exact hf b o true (by simp [hb])
theorem Sat.was_here (w : World) : Sat w [was w.heap] :=
 ⟨_, ⟨_, Hp.emp, Hp.ok_emp _, rfl, rfl, rfl⟩, fun b o s hb => by
  simp only [Hp.add_emp] at hb
  cases hw : w.heap[b]? with
  | none => simp [hw] at hb
  | some o' => simp [hw] at hb; rw [hb.1]⟩
theorem Sat.fact_iff {w : World} {φ : Prop} {l : List HP} : Sat w (fact φ :: l) ↔ φ ∧ Sat w l := by
 constructor
 ·intro h
  obtain ⟨x, y, _, ⟨rfl, hφ⟩, hl, _, hf⟩ := Sat.cons.1 h
  exact ⟨hφ, y, hl, hf⟩
 ·rintro ⟨hφ, y, hl, hf⟩
  exact Sat.cons.2 ⟨Hp.emp, y, Hp.emp_ok _, ⟨rfl, hφ⟩, hl, (fun b o s hb => by cases hb), hf⟩
theorem Sat.share {w : World} {b : Nat} {o : Obj} {l : List HP} (h : Sat w (blk b o :: l)) : Sat w (rob b o :: l) := by
 obtain ⟨x, y, hok, rfl, hl, hf, hy⟩ := Sat.cons.1 h
 refine Sat.cons.2 ⟨_, y, ?_, rfl, hl, ?_, hy⟩
 ·intro k u v hu hv
  obtain ⟨rfl, rfl⟩ := one_some hu
  exact absurd (hok k _ v (one_self _ _ _) hv).2 (by simp)
 ·intro k o' s hk
  obtain ⟨rfl, h2⟩ := one_some hk
  cases h2
  exact hf k o false (one_self _ _ _)
def Twice (p : HP) : Prop := ∀ h, p h → ∀ b v, h b = some v → v.2 = true
theorem Sat.dup {w : World} {p : HP} {l : List HP} (hp : Twice p) (h : Sat w (p :: l)) : Sat w (p :: p :: l) := by
 obtain ⟨x, y, hok, hx, hl, hf, hy⟩ := Sat.cons.1 h
 refine Sat.cons.2 ⟨x, x.add y, ?_, hx, ⟨x, y, hok, rfl, hx, hl⟩, hf, (Hp.fits_add hok).2 ⟨hf, hy⟩⟩
 intro b u v hu hv
 have : x.add y b = some u := by simp [Hp.add, hu]
 rw [this] at hv
 cases hv
 exact ⟨rfl, hp x hx b _ hu⟩
structure Ext (w w' : World) : Prop where
 os : w'.os = w.os
 tape : w'.tape = w.tape
 output : w'.output = w.output
 size : w.heap.size ≤ w'.heap.size
theorem Ext.refl (w : World) : Ext w w := ⟨rfl, rfl, rfl, Nat.le_refl _⟩
theorem Ext.trans {a b c : World} (h : Ext a b) (k : Ext b c) : Ext a c := ⟨k.os.trans h.os, k.tape.trans h.tape, k.output.trans h.output, Nat.le_trans h.size k.size⟩
theorem Ext.alloc (w : World) (o : Obj) : Ext w (w.alloc o) := ⟨rfl, rfl, rfl, by simp⟩
theorem Ext.setCell (w : World) (a : Addr) (v : Value) : Ext w (w.setCell a v) := ⟨rfl, rfl, rfl, by simp⟩
theorem Ext.drew (w : World) : Ext w w.drew := ⟨rfl, rfl, rfl, Nat.le_refl _⟩
theorem Sat.drew {w : World} {l : List HP} (h : Sat w l) : Sat w.drew l := h.of_heap rfl

theorem Sat.alloc {w : World} {l : List HP} (h : Sat w l) (o : Obj) : Sat (w.alloc o) (blk w.heap.size o :: l) := by
 have h1 : Sat w (fact True :: l) := Sat.fact_iff.2 ⟨trivial, h⟩
 refine h1.upd (q := blk w.heap.size o) ?_
 rintro x ⟨rfl, _⟩ _
 refine ⟨_, rfl, ?_, ?_, ?_⟩
 ·intro b o' s hb
  obtain ⟨rfl, h2⟩ := one_some hb
  cases h2
  show (w.heap.push o)[w.heap.size]? = some o
  simp
 ·intro b v hb
  obtain ⟨rfl, _⟩ := one_some hb
  exact .inr (.inl (Nat.le_refl _))
 ·intro b hb _
  show (w.heap.push o)[b]? = w.heap[b]?
  rw [Array.getElem?_push, if_neg (by omega)]

theorem Sat.put {w w' : World} {b : Nat} {o o' : Obj} {l : List HP} (h : Sat w (blk b o :: l)) (hb : w'.heap[b]? = some o')
 (hk : ∀ k, k ≠ b → w'.heap[k]? = w.heap[k]?) : Sat w' (blk b o' :: l) := by
 refine h.upd (q := blk b o') ?_
 rintro x rfl _
 refine ⟨_, rfl, ?_, ?_, ?_⟩
 ·intro k o'' s hh
  obtain ⟨rfl, h2⟩ := one_some hh
  cases h2
  exact hb
 ·intro k v hh
  obtain ⟨rfl, _⟩ := one_some hh
  exact .inl ⟨o, one_self _ _ _⟩
 ·intro k _ hno
  refine hk k fun e => ?_
  subst e
  exact hno o (one_self _ _ _)

theorem heap_setCell_same {w : World} {b i : Nat} {cs : Array Value} {t : TypeId} {fr : Nat × Nat} (h : w.heap[b]? = some (.cells cs t fr)) (v : Value) :
 (w.setCell ⟨b, i, none⟩ v).heap[b]? = some (.cells (cs.setIfInBounds i v) t fr) := by
 simp [World.setCell, Array.getElem?_modify, h]
theorem heap_setCell_other (w : World) (b i k : Nat) (v : Value) (h : k ≠ b) : (w.setCell ⟨b, i, none⟩ v).heap[k]? = w.heap[k]? := by
 simp only [World.setCell, Array.getElem?_modify]
 rw [if_neg (fun e => h e.symm)]
theorem Ent.refl (l : List HP) : Ent l l := fun _ _ h => h
theorem Ent.trans {l m n : List HP} (h : Ent l m) (k : Ent m n) : Ent l n := fun w F hs => k w F (h w F hs)
theorem Ent.perm {l m : List HP} (h : l.Perm m) : Ent l m := fun _ F hs => hs.perm (h.append_right F)
theorem Ent.drop {l : List HP} (p : HP) : Ent (p :: l) l := fun _ _ hs => hs.tail
theorem Ent.dropL (l m : List HP) : Ent (l ++ m) l := fun w F hs => by
 have h2 : Sat w (m ++ (l ++ F)) := hs.perm (by rw [List.append_assoc, ← List.append_assoc m l F]; exact (by
  rw [← List.append_assoc]; exact (List.perm_append_comm).append_right F))
 exact h2.right
theorem Ent.cons {l m : List HP} (p : HP) (h : Ent l m) : Ent (p :: l) (p :: m) := fun w F hs => by
 have h1 : Sat w (l ++ (p :: F)) := hs.perm (by simpa using (List.perm_middle (a := p) (l₁ := l) (l₂ := F)).symm)
 exact (h w (p :: F) h1).perm List.perm_middle
end Go.Sl
