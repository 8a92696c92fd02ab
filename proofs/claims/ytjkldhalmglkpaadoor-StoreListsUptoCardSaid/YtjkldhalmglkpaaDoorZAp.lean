import Derived.Test.YtjkldhalmglkpaaDoorZMk
namespace Go.Sl
open Go
section
variable {P : Program} {F L M : List HP} {sz n m : Nat} {v x : Value} {cs ys : List Value} {p : HP}
theorem append_two {t e bs : Nat} (E : ElT P t e sz bs) (ty : TypeId) {w : World} (hs : Sat w (own sz v n cs :: L)) (hx : RdS (own sz v n cs :: L) x m ys) (hm : ys.length = m * sz) (h1 : ∀ u ∈ ys, u.oneCell' = true)
 (hmax : n + m ≤ maxLen) (hb : (n + m) * bs ≤ 140737488355328) :
 ∃ v' w', (Builtin.append_ #[t, t] ty #[v, x]).run P w = .ok v' w' ∧ Ext w w' ∧ ((∃ a c, v = .slice a n c ∧ v' = .slice a (n + m) c ∧ Sat w' (own sz v' (n + m) (cs ++ ys) :: L)) ∨ Sat w' (own sz v' (n + m) (cs ++ ys) :: own sz v n cs :: L)) ∧ SlV v' (n + m) := by
 obtain ⟨i, z, hi, hz, hsz, hby, hzs⟩ := E.inf
 subst hsz
 subst hby
 have hs63 : ((n + m : Nat) : Int) ≤ 9223372036854775807 := by simp only [maxLen] at hmax; omega
 rcases hs.ownV with ⟨rfl, rfl⟩ | ⟨g, cap, rfl, hn⟩
 ·obtain ⟨_, rfl, hL⟩ := hs.own_nil_open
  cases hx with
  | nil =>
   refine ⟨.slice none 0 0, w, ?_, Ext.refl w, .inl ⟨none, 0, rfl, rfl, Sat.own_nil hL⟩, .inl ⟨rfl, rfl⟩⟩
   simp [Builtin.append_, run_und E.und, sizeOf, typeInfo, hi, Builtin.lenOf, Builtin.firstCells]
  | zero a cap =>
   refine ⟨.slice none 0 0, w, ?_, Ext.refl w, .inl ⟨none, 0, rfl, rfl, Sat.own_nil hL⟩, .inl ⟨rfl, rfl⟩⟩
   simp [Builtin.append_, run_und E.und, sizeOf, typeInfo, hi, Builtin.lenOf, Builtin.firstCells, loadCells, loadCellsFrom]
  | mk b o m cap ys hn h =>
   have hnews : ∀ j u, ys[j]? = some u → w.cell? ((⟨b, o, none⟩ : Addr).add j) = some u := fun j u hj => by rw [add_none]; exact h w hs j u hj
   by_cases hm0 : m = 0
   ·subst hm0
    obtain rfl : ys = [] := List.eq_nil_of_length_eq_zero (by simpa using hm)
    refine ⟨.slice none 0 0, w, ?_, Ext.refl w, .inl ⟨none, 0, rfl, rfl, Sat.own_nil hL⟩, .inl ⟨rfl, rfl⟩⟩
    simp [Builtin.append_, run_und E.und, sizeOf, typeInfo, hi, Builtin.lenOf, Builtin.firstCells, loadCells, loadCellsFrom]
   ·have hr := run_append_nil (P := P) w t ty e i z E.und hi hz ⟨b, o, none⟩ m cap ys hm hnews (by omega) (by omega) (by simp only [Nat.zero_add] at hb; omega)
    obtain ⟨r, hr1, hr2⟩ := zeroCells_list z.cells (grownCap w m 0 e - m)
    have hge := grownCap_ge w m 0 e
    have hle := grownCap_le_maxLen w m 0 e (by omega)
    refine ⟨_, _, hr, (Ext.drew w).trans (Ext.alloc _ _), .inr ?_, .inr ⟨_, _, by rw [Nat.zero_add], by omega⟩⟩
    have hal := hs.drew.alloc (.cells (ys.toArray ++ Builtin.zeroCells z.cells (grownCap w m 0 e - m)) e)
    rw [hr1] at hal ⊢
    simp only [List.nil_append, Nat.zero_add]
    refine Sat.own_of (t := e) (rest := r) (by simpa using hal) hge hle hm ?_
    rw [List.length_append, hm, hr2, hzs, ← Nat.add_mul]
    congr 1; omega
 ·obtain ⟨bt, rest, hnc, hcm, hcl, hcap, hB⟩ := hs.own_open
  have hheap := hB.blk_heap
  cases hx with
  | nil =>
   refine ⟨_, w, ?_, Ext.refl w, .inl ⟨_, _, rfl, rfl, by simpa using hs⟩, .inr ⟨g, cap, rfl, hn⟩⟩
   simp [Builtin.append_, run_und E.und, sizeOf, typeInfo, hi, Builtin.lenOf, Builtin.firstCells, hn, storeCells]
  | zero a xcap =>
   refine ⟨_, w, ?_, Ext.refl w, .inl ⟨_, _, rfl, rfl, by simpa using hs⟩, .inr ⟨g, cap, rfl, hn⟩⟩
   simp [Builtin.append_, run_und E.und, sizeOf, typeInfo, hi, Builtin.lenOf, Builtin.firstCells, loadCells, loadCellsFrom, hn, storeCells]
  | mk b o m xcap ys hxn h =>
   have hnews : ∀ j u, ys[j]? = some u → w.cell? ((⟨b, o, none⟩ : Addr).add j) = some u := fun j u hj => by rw [add_none]; exact h w hs j u hj
   by_cases hroom : n + m ≤ cap
   ·have hfit : n * i.size + 0 + ys.length ≤ (cs ++ rest).length := by rw [hm, hcap, Nat.add_zero, ← Nat.add_mul]; exact Nat.mul_le_mul_right _ hroom
    obtain ⟨w', hr, hxt, hb', hk⟩ := storeCells_run P g (n * i.size) bt ys 0 (cs ++ rest) w hheap hfit h1
    have hf := run_firstCells_some (P := P) w i.size m ⟨b, o, none⟩ m xcap ys hm hnews
    refine ⟨.slice (some ⟨g, 0, none⟩) (n + m) cap, w', ?_, hxt, .inl ⟨_, _, rfl, rfl, ?_⟩, .inr ⟨g, cap, rfl, hroom⟩⟩
    ·have hadd : (⟨g, 0, none⟩ : Addr).add (n * i.size) = ⟨g, n * i.size, none⟩ := by rw [add_none, Nat.zero_add]
     simp [Builtin.append_, run_und E.und, sizeOf, typeInfo, hi, Builtin.lenOf, hroom, hf, hadd, hr]
    ·have hB' := hB.put hb' hk
     have e1 : (cs ++ rest).take (n * i.size + 0) ++ ys ++ (cs ++ rest).drop (n * i.size + 0 + ys.length) = (cs ++ ys) ++ rest.drop ys.length := by
      rw [Nat.add_zero, ← hcl, List.take_left, ← List.drop_drop, List.drop_left]
     rw [e1] at hB'
     refine hB'.own_of hroom hcm (by rw [List.length_append, hcl, hm, Nat.add_mul]) ?_
     have e2 : (rest.drop ys.length).length = rest.length - ys.length := List.length_drop
     have e3 : cs.length + rest.length = cap * i.size := by rw [← List.length_append]; exact hcap
     have e4 : ys.length ≤ rest.length := by
      have : n * i.size + ys.length ≤ cap * i.size := by rw [← hcap]; simpa using hfit
      omega
     simp only [List.length_append, e2]
     omega
   ·have holds : ∀ j u, cs[j]? = some u → w.cell? ((⟨g, 0, none⟩ : Addr).add j) = some u := fun j u hj => by
     rw [add_none, Nat.zero_add]
     refine cell_of_heap hheap ?_
     rw [List.getElem?_append_left (List.getElem?_eq_some_iff.1 hj).1]
     exact hj
    have hr := run_append_grow (P := P) w t ty e i z E.und hi hz ⟨g, 0, none⟩ n cap cs hcl holds ⟨b, o, none⟩ m xcap ys hm hnews (by omega) hs63 (growslice_fits (by omega) hb)
    obtain ⟨r, hr1, hr2⟩ := zeroCells_list z.cells (grownCap w (n + m) cap e - (n + m))
    have hge := grownCap_ge w (n + m) cap e
    have hle := grownCap_le_maxLen w (n + m) cap e hmax
    refine ⟨_, _, hr, (Ext.drew w).trans (Ext.alloc _ _), .inr ?_, .inr ⟨_, _, rfl, hge⟩⟩
    have hal := hs.drew.alloc (.cells (cs.toArray ++ ys.toArray ++ Builtin.zeroCells z.cells (grownCap w (n + m) cap e - (n + m))) e)
    rw [hr1] at hal ⊢
    refine Sat.own_of (t := e) (rest := r) (by simpa using hal) hge hle (by rw [List.length_append, hcl, hm, Nat.add_mul]) ?_
    rw [List.length_append, List.length_append, hcl, hm, hr2, hzs, ← Nat.add_mul, ← Nat.add_mul]
    congr 1; omega
theorem app_two {t e bs : Nat} (E : ElT P t e sz bs) (ty : TypeId) {k : Value → List HP → Prop} (hx : RdS (own sz v n cs :: (L ++ F)) x m ys) (hm : ys.length = m * sz) (h1 : ∀ u ∈ ys, u.oneCell' = true)
 (hmax : n + m ≤ maxLen) (hb : (n + m) * bs ≤ 140737488355328)
 (hk1 : ∀ v' a c, SlV v' (n + m) → v = .slice a n c → v' = .slice a (n + m) c → k v' (own sz v' (n + m) (cs ++ ys) :: L)) (hk2 : ∀ v', SlV v' (n + m) → k v' (own sz v' (n + m) (cs ++ ys) :: own sz v n cs :: L)) :
 DoesG P F (Builtin.append_ #[t, t] ty #[v, x]) (own sz v n cs :: L) k := ⟨fun w hs => by
 obtain ⟨v', w', hr, hxt, hs', hv⟩ := append_two E ty hs hx hm h1 hmax hb
 rcases hs' with ⟨a, c, e1, e2, hs'⟩ | hs'
 ·exact ⟨v', _, w', hr, hxt, hs', hk1 v' a c hv e1 e2⟩
 ·exact ⟨v', _, w', hr, hxt, hs', hk2 v' hv⟩⟩
theorem Upd.own {g cap o : Nat} {vs cs' : List Value} (hl : o + vs.length ≤ cs.length) (h1 : ∀ u ∈ vs, u.oneCell' = true) (hc : cs.take o ++ vs ++ cs.drop (o + vs.length) = cs') : Upd P (Go.Sl.own sz (.slice (some ⟨g, 0, none⟩) n cap) n cs :: L) g o vs (Go.Sl.own sz (.slice (some ⟨g, 0, none⟩) n cap) n cs' :: L) := by
 intro F w hs
 obtain ⟨bt, rest, hnc, hcm, hcl, hcap, hB⟩ := hs.own_open
 have hheap := hB.blk_heap
 obtain ⟨w', hr, hxt, hb', hk⟩ := storeCells_run P g o bt vs 0 (cs ++ rest) w hheap (by simp only [List.length_append]; omega) h1
 refine ⟨w', hr, hxt, ?_⟩
 have hB' := hB.put hb' hk
 have e1 : (cs ++ rest).take (o + 0) ++ vs ++ (cs ++ rest).drop (o + 0 + vs.length) = cs' ++ rest := by
  rw [Nat.add_zero, List.take_append_of_le_length (by omega), List.drop_append_of_le_length (by omega), ← hc]
  simp
 rw [e1] at hB'
 have hcl' : cs'.length = cs.length := by
  rw [← hc]
  simp only [List.length_append, List.length_take, List.length_drop]
  omega
 exact hB'.own_of hnc hcm (by rw [hcl', hcl]) (by rw [List.length_append, hcl', ← List.length_append]; exact hcap)
theorem DoesG.exL {α : Type} {φ : α → Prop} {ls : α → List HP} {s : Sem Value} {k : Value → List HP → Prop} (h : ∀ a, φ a → DoesG P F s (ls a ++ L) k) : DoesG P F s (Go.Sl.exL φ ls :: L) k := by
 refine ⟨fun w hs => ?_⟩
 obtain ⟨a, ha, hs'⟩ := Sat.exL.1 hs
 obtain ⟨f⟩ := h a ha
 exact f w (by simpa [List.append_assoc] using hs')
end
end Go.Sl
