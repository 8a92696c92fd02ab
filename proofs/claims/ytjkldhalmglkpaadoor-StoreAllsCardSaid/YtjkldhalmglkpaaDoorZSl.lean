import Derived.Test.YtjkldhalmglkpaaDoorZRl
import Derived.Laws.Append
import Derived.Laws.AppendOwn
import Derived.Deep.DeepAppendWide
import Derived.Laws.OwnMore
import Derived.Laws.MakeOwn
import Derived.Laws.CopyRow
namespace Go.Sl
open Go
structure ElT (P : Program) (t e : TypeId) (sz bs : Nat) : Prop where
 und : P.underlying t = some (.slice e)
 inf : ∃ i z, P.info? e = some i ∧ i.zero = some z ∧ i.size = sz ∧ i.bytes = bs ∧ z.cells.size = sz
 pos : 0 < sz
def SlV (v : Value) (n : Nat) : Prop := (v = .slice none 0 0 ∧ n = 0) ∨ ∃ g cap, v = .slice (some ⟨g, 0, none⟩) n cap ∧ n ≤ cap
def own (sz : Nat) (v : Value) (n : Nat) (cs : List Value) : HP := fun h =>
 (v = .slice none 0 0 ∧ n = 0 ∧ cs = [] ∧ h = Hp.emp) ∨
 ∃ g t cap rest, v = .slice (some ⟨g, 0, none⟩) n cap ∧ n ≤ cap ∧ cap ≤ maxLen ∧ cs.length = n * sz ∧ (cs ++ rest).length = cap * sz ∧ h = one g (.cells ⟨cs ++ rest⟩ t (0, 0)) false
inductive RdS (L : List HP) : Value → Nat → List Value → Prop where
 | nil : RdS L (.slice none 0 0) 0 []
 | zero (a : Addr) (cap : Nat) : RdS L (.slice (some a) 0 cap) 0 []
 | mk (b o n cap : Nat) (cs : List Value) (hn : n ≤ cap) (h : CelN L b o cs) : RdS L (.slice (some ⟨b, o, none⟩) n cap) n cs

section
variable {P : Program} {F L M : List HP} {sz n m : Nat} {v x : Value} {cs ys : List Value} {p : HP}
theorem RdS.tl (h : RdS L v n cs) : RdS (p :: L) v n cs := by
 cases h with
 | nil => exact .nil
 | zero a cap => exact .zero a cap
 | mk b o n cap cs hn h => exact .mk _ _ _ _ _ hn h.tl
theorem RdS.left (h : RdS L v n cs) (M : List HP) : RdS (L ++ M) v n cs := by
 cases h with
 | nil => exact .nil
 | zero a cap => exact .zero a cap
 | mk b o n cap cs hn h => exact .mk _ _ _ _ _ hn (h.left M)
theorem RdS.right (h : RdS L v n cs) (M : List HP) : RdS (M ++ L) v n cs := by
 cases h with
 | nil => exact .nil
 | zero a cap => exact .zero a cap
 | mk b o n cap cs hn h => exact .mk _ _ _ _ _ hn (h.right M)
theorem RdS.len (h : RdS L v n cs) : ∃ a c, v = .slice a n c := by cases h <;> exact ⟨_, _, rfl⟩
theorem SlV.len (h : SlV v n) : ∃ a c, v = .slice a n c := by
 rcases h with ⟨rfl, rfl⟩ | ⟨g, cap, rfl, _⟩ <;> exact ⟨_, _, rfl⟩
theorem Sat.ownV {w : World} (h : Sat w (own sz v n cs :: L)) : SlV v n := by
 obtain ⟨x, y, _, hx, _⟩ := Sat.cons.1 h
 rcases hx with ⟨h1, h2, _, _⟩ | ⟨g, t, cap, rest, h1, h2, _⟩
 ·exact .inl ⟨h1, h2⟩
 ·exact .inr ⟨g, cap, h1, h2⟩
theorem Sat.ownL {w : World} (h : Sat w (own sz v n cs :: L)) : cs.length = n * sz := by
 obtain ⟨x, y, _, hx, _⟩ := Sat.cons.1 h
 rcases hx with ⟨_, h2, h3, _⟩ | ⟨g, t, cap, rest, _, _, _, h1, _⟩
 ·subst h2; subst h3; simp
 ·exact h1
theorem SpecF.ownV {f : FuncId} {args : List Value} {pre : List HP} {R : Value → List HP → Prop} (i : Nat) (hi : pre[i]? = some (own sz v n cs)) (h : SlV v n → cs.length = n * sz → SpecF P f args F pre R) : SpecF P f args F pre R := by
 intro w hs
 have h1 : Sat w (own sz v n cs :: (pre.eraseIdx i ++ F)) := hs.perm ((erase_perm i hi).append_right F)
 exact h h1.ownV h1.ownL w hs
theorem own_rd (h : SlV v n) (hl : cs.length = n * sz) : RdS (own sz v n cs :: L) v n cs := by
 rcases h with ⟨rfl, rfl⟩ | ⟨g, cap, rfl, hn⟩
 ·obtain rfl : cs = [] := List.eq_nil_of_length_eq_zero (by simpa using hl)
  exact .nil
 ·refine .mk _ _ _ _ _ hn fun w hs => ?_
  obtain ⟨x, y, _, hx, _, hf, _⟩ := Sat.cons.1 hs
  rcases hx with ⟨h1, _⟩ | ⟨g', t, cap', rest, h1, _, _, _, _, rfl⟩
  ·cases h1
  ·cases h1
   intro j u hj
   have hh := hf g _ false (one_self _ _ _)
   refine cell_of_heap hh ?_
   have hlt := (List.getElem?_eq_some_iff.1 hj).1
   rw [Nat.zero_add, List.getElem?_append_left hlt]
   exact hj
theorem Sat.own_nil {w : World} (h : Sat w L) : Sat w (own sz (.slice none 0 0) 0 [] :: L) := by
 obtain ⟨y, hy, hf⟩ := h
 exact Sat.cons.2 ⟨Hp.emp, y, Hp.emp_ok _, .inl ⟨rfl, rfl, rfl, rfl⟩, hy, fun b o s hb => (by cases hb), hf⟩
theorem Sat.own_of {w : World} {g cap : Nat} {t : TypeId} {rest : List Value} (h : Sat w (blk g (.cells ⟨cs ++ rest⟩ t (0, 0)) :: L)) (h1 : n ≤ cap) (h2 : cap ≤ maxLen) (h3 : cs.length = n * sz) (h4 : (cs ++ rest).length = cap * sz) :
 Sat w (own sz (.slice (some ⟨g, 0, none⟩) n cap) n cs :: L) := by
 obtain ⟨x, y, hok, rfl, hl, hf, hy⟩ := Sat.cons.1 h
 exact Sat.cons.2 ⟨_, y, hok, .inr ⟨g, t, cap, rest, rfl, h1, h2, h3, h4, rfl⟩, hl, hf, hy⟩
theorem Sat.own_open {w : World} {g cap : Nat} (h : Sat w (own sz (.slice (some ⟨g, 0, none⟩) n cap) n cs :: L)) :
 ∃ t rest, n ≤ cap ∧ cap ≤ maxLen ∧ cs.length = n * sz ∧ (cs ++ rest).length = cap * sz ∧ Sat w (blk g (.cells ⟨cs ++ rest⟩ t (0, 0)) :: L) := by
 obtain ⟨x, y, hok, hx, hl, hf, hy⟩ := Sat.cons.1 h
 rcases hx with ⟨h1, _⟩ | ⟨g', t, cap', rest, h1, h2, h3, h4, h5, rfl⟩
 ·cases h1
 ·cases h1
  exact ⟨t, rest, h2, h3, h4, h5, Sat.cons.2 ⟨_, y, hok, rfl, hl, hf, hy⟩⟩
theorem Sat.own_nil_open {w : World} (h : Sat w (own sz (.slice none 0 0) n cs :: L)) : n = 0 ∧ cs = [] ∧ Sat w L := by
 obtain ⟨x, y, hok, hx, hl, hf, hy⟩ := Sat.cons.1 h
 rcases hx with ⟨_, h2, h3, _⟩ | ⟨g', t, cap', rest, h1, _⟩
 ·exact ⟨h2, h3, y, hl, hy⟩
 ·cases h1
theorem zeroCells_list (z : Array Value) (k : Nat) : ∃ r, Builtin.zeroCells z k = ⟨r⟩ ∧ r.length = k * z.size := ⟨(Builtin.zeroCells z k).toList, rfl, by simp [size_zeroCells]⟩
def Grow (k bs : Nat) : Prop := k * bs ≤ 281474976710656 ∧ ∀ old, old < k → Builtin.nextslicecap k old * bs ≤ 281474976710656
theorem Grow.of {k bs : Nat} (h : k * bs ≤ 140737488355328) : Grow k bs := ⟨by omega, fun _ ho => growslice_fits ho h⟩
theorem Grow.wide {k bs : Nat} (h : (k + k / 4 + 192) * bs ≤ 281474976710656) : Grow k bs := ⟨Nat.le_trans (Nat.mul_le_mul_right _ (by omega)) h, fun _ ho => growslice_fits_wide ho h⟩
theorem append_sat {t e bs : Nat} (E : ElT P t e sz bs) (ty : TypeId) {w : World} (hs : Sat w (own sz v n cs :: L)) (hx : RdS (own sz v n cs :: L) x m ys) (hm : ys.length = m * sz) (h1 : ∀ u ∈ ys, u.oneCell' = true)
 (hmax : n + m ≤ maxLen) (hb : Grow (n + m) bs) :
 ∃ v' w', (Builtin.append_ #[t, t] ty #[v, x]).run P w = .ok v' w' ∧ Ext w w' ∧ Sat w' (own sz v' (n + m) (cs ++ ys) :: L) ∧ SlV v' (n + m) ∧ (v' = .slice none 0 0 ↔ v = .slice none 0 0 ∧ m = 0) := by
 obtain ⟨i, z, hi, hz, hsz, hby, hzs⟩ := E.inf
 subst hsz
 subst hby
 have hs63 : ((n + m : Nat) : Int) ≤ 9223372036854775807 := by simp only [maxLen] at hmax; omega
 rcases hs.ownV with ⟨rfl, rfl⟩ | ⟨g, cap, rfl, hn⟩
 ·obtain ⟨_, rfl, hL⟩ := hs.own_nil_open
  cases hx with
  | nil =>
   refine ⟨.slice none 0 0, w, ?_, Ext.refl w, Sat.own_nil hL, .inl ⟨rfl, rfl⟩, by simp⟩
   simp [Builtin.append_, run_und E.und, sizeOf, typeInfo, hi, Builtin.lenOf, Builtin.firstCells]
  | zero a cap =>
   refine ⟨.slice none 0 0, w, ?_, Ext.refl w, Sat.own_nil hL, .inl ⟨rfl, rfl⟩, by simp⟩
   simp [Builtin.append_, run_und E.und, sizeOf, typeInfo, hi, Builtin.lenOf, Builtin.firstCells, loadCells, loadCellsFrom]
  | mk b o m cap ys hn h =>
   have hnews : ∀ j u, ys[j]? = some u → w.cell? ((⟨b, o, none⟩ : Addr).add j) = some u := fun j u hj => by rw [add_none]; exact h w hs j u hj
   by_cases hm0 : m = 0
   ·subst hm0
    obtain rfl : ys = [] := List.eq_nil_of_length_eq_zero (by simpa using hm)
    refine ⟨.slice none 0 0, w, ?_, Ext.refl w, Sat.own_nil hL, .inl ⟨rfl, rfl⟩, by simp⟩
    simp [Builtin.append_, run_und E.und, sizeOf, typeInfo, hi, Builtin.lenOf, Builtin.firstCells, loadCells, loadCellsFrom]
   ·have hr := run_append_nil (P := P) w t ty e i z E.und hi hz ⟨b, o, none⟩ m cap ys hm hnews (by omega) (by omega) (by have h := hb.1; simp only [Nat.zero_add] at h; omega)
    obtain ⟨r, hr1, hr2⟩ := zeroCells_list z.cells (grownCap w m 0 e - m)
    have hge := grownCap_ge w m 0 e
    have hle := grownCap_le_maxLen w m 0 e (by omega)
    refine ⟨_, _, hr, (Ext.drew w).trans (Ext.alloc _ _), ?_, .inr ⟨_, _, by rw [Nat.zero_add], by omega⟩, by simp [hm0]⟩
    have hal := hL.drew.alloc (.cells (ys.toArray ++ Builtin.zeroCells z.cells (grownCap w m 0 e - m)) e)
    rw [hr1] at hal ⊢
    simp only [List.nil_append, Nat.zero_add]
    refine Sat.own_of (t := e) (rest := r) (by simpa using hal) hge hle hm ?_
    rw [List.length_append, hm, hr2, hzs, ← Nat.add_mul]
    congr 1; omega
 ·obtain ⟨bt, rest, hnc, hcm, hcl, hcap, hB⟩ := hs.own_open
  have hheap := hB.blk_heap
  cases hx with
  | nil =>
   refine ⟨_, w, ?_, Ext.refl w, by simpa using hs, .inr ⟨g, cap, rfl, hn⟩, by simp⟩
   simp [Builtin.append_, run_und E.und, sizeOf, typeInfo, hi, Builtin.lenOf, Builtin.firstCells, hn, storeCells]
  | zero a xcap =>
   refine ⟨_, w, ?_, Ext.refl w, by simpa using hs, .inr ⟨g, cap, rfl, hn⟩, by simp⟩
   simp [Builtin.append_, run_und E.und, sizeOf, typeInfo, hi, Builtin.lenOf, Builtin.firstCells, loadCells, loadCellsFrom, hn, storeCells]
  | mk b o m xcap ys hxn h =>
   have hnews : ∀ j u, ys[j]? = some u → w.cell? ((⟨b, o, none⟩ : Addr).add j) = some u := fun j u hj => by rw [add_none]; exact h w hs j u hj
   by_cases hroom : n + m ≤ cap
   ·have hfit : n * i.size + 0 + ys.length ≤ (cs ++ rest).length := by rw [hm, hcap, Nat.add_zero, ← Nat.add_mul]; exact Nat.mul_le_mul_right _ hroom
    obtain ⟨w', hr, hxt, hb', hk⟩ := storeCells_run P g (n * i.size) bt ys 0 (cs ++ rest) w hheap hfit h1
    have hf := run_firstCells_some (P := P) w i.size m ⟨b, o, none⟩ m xcap ys hm hnews
    refine ⟨.slice (some ⟨g, 0, none⟩) (n + m) cap, w', ?_, hxt, ?_, .inr ⟨g, cap, rfl, hroom⟩, by simp⟩
    ·have hadd : (⟨g, 0, none⟩ : Addr).add (n * i.size) = ⟨g, n * i.size, none⟩ := by rw [add_none, Nat.zero_add]
     simp [Builtin.append_, run_und E.und, sizeOf, typeInfo, hi, Builtin.lenOf, hroom, hf, hadd, hr]
    ·have hB' := hB.put hb' hk
     have e1 : (cs ++ rest).take (n * i.size + 0) ++ ys ++ (cs ++ rest).drop (n * i.size + 0 + ys.length) = (cs ++ ys) ++ rest.drop ys.length := by
      rw [Nat.add_zero, ← hcl, List.take_left, ← List.drop_drop, List.drop_left]
     rw [e1] at hB'
     refine hB'.own_of hroom hcm (by rw [List.length_append, hcl, hm, Nat.add_mul]) ?_
     have e2 : (rest.drop ys.length).length = rest.length - ys.length := List.length_drop
     have e3 : cs.length + rest.length = cap * i.size := by rw [← List.length_append]; exact hcap
     have e4 : ys.length ≤ rest.length := by
      have : n * i.size + ys.length ≤ cap * i.size := by rw [← hcap]; simpa using hfit
      omega
     simp only [List.length_append, e2]
     omega
   ·have holds : ∀ j u, cs[j]? = some u → w.cell? ((⟨g, 0, none⟩ : Addr).add j) = some u := fun j u hj => by
     rw [add_none, Nat.zero_add]
     refine cell_of_heap hheap ?_
     rw [List.getElem?_append_left (List.getElem?_eq_some_iff.1 hj).1]
     exact hj
    have hr := run_append_grow (P := P) w t ty e i z E.und hi hz ⟨g, 0, none⟩ n cap cs hcl holds ⟨b, o, none⟩ m xcap ys hm hnews (by omega) hs63 (hb.2 _ (by omega))
    obtain ⟨r, hr1, hr2⟩ := zeroCells_list z.cells (grownCap w (n + m) cap e - (n + m))
    have hge := grownCap_ge w (n + m) cap e
    have hle := grownCap_le_maxLen w (n + m) cap e hmax
    refine ⟨_, _, hr, (Ext.drew w).trans (Ext.alloc _ _), ?_, .inr ⟨_, _, rfl, hge⟩, by simp⟩
    have hal := hB.tail.drew.alloc (.cells (cs.toArray ++ ys.toArray ++ Builtin.zeroCells z.cells (grownCap w (n + m) cap e - (n + m))) e)
    rw [hr1] at hal ⊢
    refine Sat.own_of (t := e) (rest := r) (by simpa using hal) hge hle (by rw [List.length_append, hcl, hm, Nat.add_mul]) ?_
    rw [List.length_append, List.length_append, hcl, hm, hr2, hzs, ← Nat.add_mul, ← Nat.add_mul]
    congr 1; omega
theorem app_ownW {t e bs : Nat} (E : ElT P t e sz bs) (ty : TypeId) {k : Value → List HP → Prop} (hx : RdS (own sz v n cs :: (L ++ F)) x m ys) (hm : ys.length = m * sz) (h1 : ∀ u ∈ ys, u.oneCell' = true)
 (hmax : n + m ≤ maxLen) (hb : Grow (n + m) bs) (hk : ∀ v', SlV v' (n + m) → (cs ++ ys).length = (n + m) * sz → (v' = .slice none 0 0 ↔ v = .slice none 0 0 ∧ m = 0) → k v' (own sz v' (n + m) (cs ++ ys) :: L)) :
 DoesG P F (Builtin.append_ #[t, t] ty #[v, x]) (own sz v n cs :: L) k := ⟨fun w hs => by
 obtain ⟨v', w', hr, hxt, hs', hv, hnil⟩ := append_sat E ty hs hx hm h1 hmax hb
 exact ⟨v', _, w', hr, hxt, hs', hk v' hv hs'.ownL hnil⟩⟩
theorem app_own {t e bs : Nat} (E : ElT P t e sz bs) (ty : TypeId) {k : Value → List HP → Prop} (hx : RdS (own sz v n cs :: (L ++ F)) x m ys) (hm : ys.length = m * sz) (h1 : ∀ u ∈ ys, u.oneCell' = true)
 (hmax : n + m ≤ maxLen) (hb : (n + m) * bs ≤ 140737488355328) (hk : ∀ v', SlV v' (n + m) → (cs ++ ys).length = (n + m) * sz → (v' = .slice none 0 0 ↔ v = .slice none 0 0 ∧ m = 0) → k v' (own sz v' (n + m) (cs ++ ys) :: L)) :
 DoesG P F (Builtin.append_ #[t, t] ty #[v, x]) (own sz v n cs :: L) k := app_ownW E ty hx hm h1 hmax (.of hb) hk
theorem LenG.rd {k : Nat → Prop} (h : RdS L v n cs) (hk : k n) : LenG v k := by cases h <;> exact ⟨_, _, _, rfl, hk⟩
theorem LenG.sl {k : Nat → Prop} (h : SlV v n) (hk : k n) : LenG v k := by
 rcases h with ⟨rfl, rfl⟩ | ⟨g, cap, rfl, _⟩ <;> exact ⟨_, _, _, rfl, hk⟩
theorem LenG.lit {k : Nat → Prop} {a : Option Addr} {n c : Nat} (hk : k n) : LenG (.slice a n c) k := ⟨_, _, _, rfl, hk⟩
theorem SlcG.lit {k : Option Addr → Nat → Nat → Prop} {a : Option Addr} {n c : Nat} (hk : k a n c) : SlcG (.slice a n c) k := ⟨_, _, _, rfl, hk⟩
theorem IdxG.rd {k : Value → Prop} {esz : Nat} {j : Int} (h : RdS L v n cs) (hj : 0 ≤ j ∧ j < (n : Int)) (hk : ∀ b o, CelN L b o cs → k (.pointer (some ⟨b, o + j.toNat * esz, none⟩))) : IdxG v esz j k := by
 cases h with
 | nil => omega
 | zero a cap => omega
 | mk b o n cap cs hn h => exact ⟨b, o, n, cap, rfl, hj, hk b o h⟩
theorem CelN.one {b o i : Nat} {u : Value} (h : CelN L b o cs) (hu : cs[i]? = some u) : Cel L b (o + i) u := fun w hs => h w hs i u hu
theorem CelN.part {b o i : Nat} {us : List Value} (h : CelN L b o cs) (hu : (cs.drop i).take us.length = us) : CelN L b (o + i) us := fun w hs j u hj => by
 have h2 : cs[i + j]? = some u := by
  rw [← hu] at hj
  rw [List.getElem?_take] at hj
  split at hj
  ·simpa using hj
  ·cases hj
 have := h w hs (i + j) u h2
 rw [show o + i + j = o + (i + j) by omega]
 exact this
end
end Go.Sl
