import Derived.Test.YtjkldhalmglkpaaDoorZSt
import Derived.Test.YtjkldhalmglkpaaDoorZMp
import Derived.Maps.OwnSet
import Derived.Maps.Range
import Derived.Sort.KeysCollected
import Derived.StringKeys
import Derived.Below
namespace Go.Sl
open Go Go.MapKept Go.Sort
open Go.WideElems (Fit rg rg_of rd_mk)
theorem Sat.below {w w' : World} {l : List HP} {g : Nat} {o : Obj} (h : Sat w l) (hb : ∀ b, b < w.heap.size → w'.heap[b]? = w.heap[b]?) (hg : w.heap.size ≤ g) (ho : w'.heap[g]? = some o) : Sat w' (blk g o :: l) := by
 have h1 : Sat w (fact True :: l) := Sat.fact_iff.2 ⟨trivial, h⟩
 refine h1.upd (q := blk g o) ?_
 rintro x ⟨rfl, _⟩ _
 refine ⟨_, rfl, ?_, ?_, ?_⟩
 ·intro b o' s hb'
  obtain ⟨rfl, h2⟩ := one_some hb'
  cases h2
  exact ho
 ·intro b v hb'
  obtain ⟨rfl, _⟩ := one_some hb'
  exact .inr (.inl hg)
 ·intro b hlt _
  exact hb b hlt
theorem Sat.below0 {w w' : World} {l : List HP} (h : Sat w l) (hb : ∀ b, b < w.heap.size → w'.heap[b]? = w.heap[b]?) : Sat w' l := by
 have h1 : Sat w (fact True :: l) := Sat.fact_iff.2 ⟨trivial, h⟩
 have h2 : Sat w' (fact True :: l) := by
  refine h1.upd (q := fact True) ?_
  rintro x ⟨rfl, _⟩ _
  exact ⟨Hp.emp, ⟨rfl, trivial⟩, fun b o s (hb' : none = some _) => (by cases hb'), fun b v (hb' : none = some _) => (by cases hb'), fun b hlt _ => hb b hlt⟩
 exact (Sat.fact_iff.1 h2).2
theorem Sat.ownRow {w w' : World} {l : List HP} {e : TypeId} {sz n : Nat} {v : Value} {xs : List Value} (h : Sat w l) (hb : ∀ b, b < w.heap.size → w'.heap[b]? = w.heap[b]?) (hr : w'.ownsRow w.heap.size e sz v n xs) : Sat w' (own sz v n xs :: l) ∧ SlV v n := by
 obtain ⟨hl, hr⟩ := hr
 rcases hr with ⟨rfl, rfl⟩ | ⟨g, cap, cur, rfl, hbg, hg, hnc, hcm, hcs, ht⟩
 ·have hx : xs = [] := List.eq_nil_of_length_eq_zero (by simpa using hl)
  subst hx
  exact ⟨Sat.own_nil (h.below0 hb), .inl ⟨rfl, rfl⟩⟩
 ·have h2 := h.below hb hbg hg
  have hcur : xs ++ cur.toList.drop xs.length = cur.toList := by
   have e : cur.toList.take xs.length = xs := by rw [hl]; exact ht
   have e2 := List.take_append_drop xs.length cur.toList
   rw [e] at e2
   exact e2
  refine ⟨Sat.own_of (t := e) (rest := cur.toList.drop xs.length) ?_ hnc hcm hl ?_, .inr ⟨g, cap, rfl, hnc⟩⟩
  ·have e1 : (⟨xs ++ cur.toList.drop xs.length⟩ : Array Value) = cur := by
    rw [hcur]
   rw [e1]
   exact h2
  ·rw [hcur]
   simpa using hcs
def keyOfV : Value → List UInt8
 | .string s => s.data.toList
 | _ => []
theorem owns_of {H : Type} {P : Program} {k : TypeId} (hk : P.underlying k = some .string) {w : World} {b : Nat} {o : Obj} {m : List (ByteArray × Value)} (hb : w.heap[b]? = some o) (hm : MapIs Value.string (fun _ => True) o m) (hl : m.length ≤ maxLen) (hs : ∀ p ∈ m, p.1.size ≤ maxLen) :
 ∃ D0 : DataW H, w.ownsMap P k (fun _ => some (.lit (.bool true), [])) b m.length D0 ∧ (strKeys D0).Perm (m.map fun p => p.1.data.toList) ∧ Maps.size D0 = m.length := by
 obtain ⟨es, clock, rfl, he, hborn, hnd⟩ := hm.out
 have hsz : es.size = m.length := by
  have := congrArg List.length he
  simpa using this
 have hkeys : es.toList.map (·.key) = m.map fun p => Value.string p.1 := by
  have := congrArg (List.map Prod.fst) he
  rw [List.map_map, List.map_map] at this
  exact this
 have hrd : ∀ x ∈ es.toList, ∃ s : ByteArray, x.key = .string s ∧ Go.WideElems.rd P k (fun _ => some ((.lit (.bool true) : DataW H), [])) x = some (.string s.data.toList, .lit (.bool true)) := fun x hx => by
  have h1 : x.key ∈ m.map fun p => Value.string p.1 := by rw [← hkeys]; exact List.mem_map_of_mem hx
  obtain ⟨p, hp, e⟩ := List.mem_map.1 h1
  obtain ⟨key, val, born⟩ := x
  have e2 : Value.string p.1 = key := e
  subst e2
  exact ⟨p.1, rfl, rd_mk (yv := (.lit (.bool true), [])) (Go.WideMaps.keyOf_string_mk hk (hs p hp)) rfl⟩
 have hF : Fit P k (fun _ => some ((.lit (.bool true) : DataW H), [])) es clock := by
  refine ⟨by rw [hsz]; exact hl, ⟨hborn, hnd, ?_⟩, fun x hx => ?_⟩
  ·rw [hkeys]
   exact List.pairwise_map.2 ((List.pairwise_map.1 hm.keys).imp fun hne e => hne (Value.string.inj e))
  ·obtain ⟨s, _, h⟩ := hrd x hx
   exact ⟨_, h⟩
 refine ⟨_, ⟨es, clock, hb, hF, by omega, rfl⟩, ?_, ?_⟩
 ·show (((es.toList.map (rg P k (fun _ => some ((.lit (.bool true) : DataW H), [])))).foldr DataW.insert []).map fun p => strOf p.1).Perm _
  refine ((Go.WideShapes.sorted_perm _).map _).trans (List.Perm.of_eq ?_)
  rw [List.map_map]
  have h1 : es.toList.map ((fun p : Lit × DataW H => strOf p.1) ∘ rg P k (fun _ => some ((.lit (.bool true) : DataW H), []))) = es.toList.map fun x => keyOfV x.key := by
   apply List.map_congr_left
   intro x hx
   obtain ⟨s, hs1, hs2⟩ := hrd x hx
   show strOf (rg P k _ x).1 = _
   rw [rg_of hs2, hs1]
   rfl
  rw [h1]
  have h2 := congrArg (List.map keyOfV) hkeys
  rw [List.map_map, List.map_map] at h2
  exact h2
 ·show ((es.toList.map (rg P k (fun _ => some ((.lit (.bool true) : DataW H), [])))).foldr DataW.insert []).length = m.length
  rw [length_sorted, List.length_map]
  simpa using hsz
end Go.Sl
