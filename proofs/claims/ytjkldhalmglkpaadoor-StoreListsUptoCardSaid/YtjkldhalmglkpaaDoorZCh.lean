import Derived.Test.YtjkldhalmglkpaaDoorZAk
namespace Go.Sl
open Go Go.Sort
structure ChD where
 key : ByteArray
 ov : Value
 old : List Nat
 nv : Value
 new : List Nat
def ChD.cells (d : ChD) : List Value := [.string d.key, d.ov, d.nv]
def chS (l : List ChD) : List HP := l.flatMap fun d => [own 1 d.ov d.old.length (bvs d.old), own 1 d.nv d.new.length (bvs d.new)]
def hasL (c : StC) (k : ByteArray) : List Nat := ((getK c.has k).map (·.2)).getD []
def hasV (c : StC) (k : ByteArray) : Value := ((getK c.has k).map (·.1)).getD (.slice none 0 0)
def turned (c : StC) (k : ByteArray) : Bool := !decide (strB (c.val k) = strB (hasL c k))
def strOfB (x : List UInt8) : ByteArray := ⟨⟨x⟩⟩
def keysB (K : List ByteArray) : List Value := K.map Value.string
structure ChIs (find : ByteArray → List Nat × Int) (V : View) (l : List ChD) : Prop where
 rise : (l.map fun d => d.key.data.toList).Pairwise fun x y => leB x y = true
 nodup : (l.map fun d => d.key.data.toList).Nodup
 mem : ∀ k, k ∈ l.map (·.key) ↔ strB (V k) ≠ strB (find k).1
 vals : ∀ d ∈ l, d.old = (find d.key).1 ∧ d.new = V d.key
theorem leB_anti {x y : List UInt8} (h1 : leB x y = true) (h2 : leB y x = true) : x = y := by
 simp only [leB, decide_eq_true_eq] at h1 h2
 exact List.le_antisymm h1 h2
theorem leB_pair (ss : List (List UInt8)) : (ss.mergeSort leB).Pairwise fun x y => leB x y = true := by
 have tr : ∀ a b c : List UInt8, leB a b = true → leB b c = true → leB a c = true := fun a b c h1 h2 => by
  simp only [leB, decide_eq_true_eq] at h1 h2 ⊢
  exact List.le_trans h1 h2
 have to : ∀ a b : List UInt8, (leB a b || leB b a) = true := fun a b => by simp only [leB, Bool.or_eq_true, decide_eq_true_eq]; exact List.le_total a b
 exact List.pairwise_mergeSort tr to ss
theorem data_inj {a b : ByteArray} (h : a.data.toList = b.data.toList) : a = b := by
 apply ByteArray.ext
 exact Array.toList_inj.1 h
theorem ChIs.keys {find : ByteArray → List Nat × Int} {V : View} {l m : List ChD} (h : ChIs find V l) (h2 : ChIs find V m) : l.map (·.key) = m.map (·.key) := by
 have e1 : (l.map fun d => d.key.data.toList) = (m.map fun d => d.key.data.toList) := by
  refine List.Perm.eq_of_pairwise (le := fun a b => leB a b = true) (fun a b _ _ x y => leB_anti x y) h.rise h2.rise ((List.perm_ext_iff_of_nodup h.nodup h2.nodup).2 fun x => ?_)
  have key : ∀ {n : List ChD} , x ∈ (n.map fun d => d.key.data.toList) ↔ strOfB x ∈ n.map (·.key) := fun {n} => by
   constructor
   ·intro hx
    obtain ⟨d, hd, rfl⟩ := List.mem_map.1 hx
    exact List.mem_map.2 ⟨d, hd, rfl⟩
   ·intro hx
    obtain ⟨d, hd, e⟩ := List.mem_map.1 hx
    exact List.mem_map.2 ⟨d, hd, by rw [e]; rfl⟩
  rw [key, key, h.mem, h2.mem]
 have inj : ∀ {a b : List ByteArray}, a.map (fun k => k.data.toList) = b.map (fun k => k.data.toList) → a = b := by
  intro a
  induction a with
  | nil => intro b hb; cases b with
   | nil => rfl
   | cons _ _ => cases hb
  | cons x a ih => intro b hb; cases b with
   | nil => cases hb
   | cons y b =>
    simp only [List.map_cons, List.cons.injEq] at hb
    rw [data_inj hb.1, ih hb.2]
 refine inj ?_
 rw [List.map_map, List.map_map]
 exact e1
theorem ChIs.same {find : ByteArray → List Nat × Int} {V : View} {l m : List ChD} (h : ChIs find V l) (h2 : ChIs find V m) : l.map (fun d => (d.key, d.old, d.new)) = m.map (fun d => (d.key, d.old, d.new)) := by
 have f : ∀ {n : List ChD}, ChIs find V n → n.map (fun d => (d.key, d.old, d.new)) = (n.map (·.key)).map fun k => (k, (find k).1, V k) := fun {n} hn => by
  rw [List.map_map]
  apply List.map_congr_left
  intro d hd
  obtain ⟨e1, e2⟩ := hn.vals d hd
  show (d.key, d.old, d.new) = (d.key, (find d.key).1, V d.key)
  rw [e1, e2]
 rw [f h, f h2, h.keys h2]
section
variable {find : ByteArray → List Nat × Int} {V : View} {n a : Nat} {c : StC}
theorem AtK.hasL_eq (h : AtK find V n a c) {k : ByteArray} (hk : (getK c.has k).isSome = true) : hasL c k = (find k).1 := by
 obtain ⟨q, hq, rfl⟩ := mem_getK hk
 unfold hasL
 cases hg : getK c.has q.1 with
 | none => rw [hg] at hk; cases hk
 | some p =>
  have hm := getK_mem hg
  exact (h.src.has _ hm).1
theorem AtK.val_eq (h : AtK find V n a c) {k : ByteArray} (hk : (getK c.has k).isSome = true) : c.val k = V k := by
 rw [← h.atV.lv k]
 simp only [StC.val, lv]
 cases getK c.now k with
 | some p => rfl
 | none =>
  cases hg : getK c.has k with
  | some p => rfl
  | none => rw [hg] at hk; cases hk
theorem AtK.changes (h : AtK find V n a c) (hnd : (c.has.map fun p => p.1).Nodup) {ss : List (List UInt8)} (hp : ss.Perm (c.has.map fun p => p.1.data.toList)) {l : List ChD} (hl : l.map (fun d => (d.key, d.old, d.new)) = (((ss.mergeSort leB).map strOfB).filter (turned c)).map (fun k => (k, hasL c k, c.val k))) : ChIs find V l := by
 obtain ⟨K, hK⟩ : ∃ K, K = ((ss.mergeSort leB).map strOfB).filter (turned c) := ⟨_, rfl⟩
 rw [← hK] at hl
 have hkeys : l.map (·.key) = K := by
  have := congrArg (List.map fun x : ByteArray × List Nat × List Nat => x.1) hl
  rw [List.map_map, List.map_map] at this
  exact this.trans (List.map_id'' (fun _ => rfl) K)
 have hin : ∀ k, k ∈ (ss.mergeSort leB).map strOfB ↔ (getK c.has k).isSome = true := fun k => by
  constructor
  ·intro hk
   obtain ⟨x, hx, rfl⟩ := List.mem_map.1 hk
   obtain ⟨p, hpm, e⟩ := List.mem_map.1 (hp.mem_iff.1 ((List.mergeSort_perm ss leB).mem_iff.1 hx))
   have e2 : p.1 = strOfB x := data_inj e
   rw [← e2]
   exact getK_in hpm
  ·intro hk
   obtain ⟨q, hq, rfl⟩ := mem_getK hk
   refine List.mem_map.2 ⟨q.1.data.toList, (List.mergeSort_perm ss leB).mem_iff.2 (hp.mem_iff.2 (List.mem_map.2 ⟨q, hq, rfl⟩)), rfl⟩
 have hKd : (l.map fun d => d.key.data.toList) = K.map fun k => k.data.toList := by
  rw [← hkeys, List.map_map]
  rfl
 have hsd : ((ss.mergeSort leB).map strOfB).map (fun k => k.data.toList) = ss.mergeSort leB := by
  rw [List.map_map]
  exact List.map_id'' (fun _ => rfl) _
 have hsub : (K.map fun k => k.data.toList).Sublist (ss.mergeSort leB) := by
  rw [← hsd, hK]
  exact List.filter_sublist.map _
 have hssn : (ss.mergeSort leB).Nodup := by
  refine (List.mergeSort_perm ss leB).nodup_iff.2 (hp.nodup_iff.2 ?_)
  have := List.pairwise_map.1 hnd
  exact List.pairwise_map.2 (this.imp fun hne e => hne (data_inj e))
 refine ⟨by rw [hKd]; exact (leB_pair ss).sublist hsub, by rw [hKd]; exact hssn.sublist hsub, fun k => ?_, fun d hd => ?_⟩
 ·rw [hkeys, hK, List.mem_filter, hin]
  constructor
  ·rintro ⟨h1, h2⟩
   unfold turned at h2
   rw [h.hasL_eq h1, h.val_eq h1] at h2
   simpa using h2
  ·intro h2
   have h1 : (getK c.has k).isSome = true := h.asked (fun e => h2 (by rw [e]))
   refine ⟨h1, ?_⟩
   unfold turned
   rw [h.hasL_eq h1, h.val_eq h1]
   simpa using h2
 ·have h1 : (d.key, d.old, d.new) ∈ K.map (fun k => (k, hasL c k, c.val k)) := by rw [← hl]; exact List.mem_map.2 ⟨d, hd, rfl⟩
  obtain ⟨k, hk, e⟩ := List.mem_map.1 h1
  have hk2 : (getK c.has k).isSome = true := by
   rw [hK, List.mem_filter] at hk
   exact (hin k).1 hk.1
  simp only [Prod.mk.injEq] at e
  obtain ⟨rfl, e2, e3⟩ := e
  exact ⟨by rw [← e2, h.hasL_eq hk2], by rw [← e3, h.val_eq hk2]⟩
end
end Go.Sl
