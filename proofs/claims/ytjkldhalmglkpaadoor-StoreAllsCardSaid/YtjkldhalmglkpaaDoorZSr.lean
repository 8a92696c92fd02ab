import Derived.Test.YtjkldhalmglkpaaDoorZDk
import Derived.Test.YtjkldhalmglkpaaDoorZTi
import Derived.Laws.Append
import Derived.Lib.Overlaps
namespace Go.Sl
open Go
def svs (ss : List ByteArray) : List Value := ss.map Value.string
theorem svs_len (ss : List ByteArray) : (svs ss).length = ss.length := by simp [svs]
theorem svs_one (ss : List ByteArray) : ∀ u ∈ svs ss, u.oneCell' = true := fun u hu => by
 obtain ⟨b, _, rfl⟩ := List.mem_map.1 hu
 rfl
theorem svs_get {ss : List ByteArray} {i : Nat} {x : ByteArray} (h : ss[i]? = some x) : (svs ss)[i]? = some (.string x) := by simp [svs, h]
theorem svs_app (a b : List ByteArray) : svs a ++ svs b = svs (a ++ b) := by simp [svs]
def slt (a b : ByteArray) : Bool := Op.bytesLess a.toList b.toList
theorem bytesLess_lt : ∀ (x y : List UInt8), Op.bytesLess x y = decide (x < y)
 | [], [] => by simp [Op.bytesLess]
 | _ :: _, [] => by simp [Op.bytesLess]
 | [], _ :: _ => by simp [Op.bytesLess]
 | a :: x, b :: y => by
  rw [Op.bytesLess, bytesLess_lt x y]
  simp only [List.cons_lt_cons_iff]
  by_cases h1 : a < b <;> by_cases h2 : a = b <;> by_cases h3 : x < y <;> simp [h1, h2, h3]
theorem slt_eq (a b : ByteArray) : slt a b = decide (a.data.toList < b.data.toList) := by
 unfold slt
 rw [bytesLess_lt, ByteArray.toList_eq, ByteArray.toList_eq]
theorem slt_irrefl (a : ByteArray) : slt a a = false := by
 rw [slt_eq]
 simp [List.lt_irrefl]
theorem slt_trans {a b c : ByteArray} (h : slt a b = true) (k : slt b c = true) : slt a c = true := by
 rw [slt_eq] at *
 simp only [decide_eq_true_eq] at *
 exact List.lt_trans h k
theorem slt_tri {a b : ByteArray} (h : slt a b = false) (k : slt b a = false) : a = b := by
 rw [slt_eq] at *
 simp only [decide_eq_false_iff_not, List.not_lt] at *
 have := List.le_antisymm k h
 obtain ⟨⟨x⟩⟩ := a
 obtain ⟨⟨y⟩⟩ := b
 simp only at this
 rw [this]
def Sorted (ss : List ByteArray) : Prop := ss.Pairwise fun a b => slt a b = true
structure BsR (ss : List ByteArray) (x : ByteArray) (i : Nat) (b : Bool) : Prop where
 le : i ≤ ss.length
 lo : ∀ j y, ss[j]? = some y → j < i → slt y x = true
 hi : ∀ j y, ss[j]? = some y → i ≤ j → slt y x = false
 is : b = decide (ss[i]? = some x)
theorem sorted_at {ss : List ByteArray} (hs : Sorted ss) {i j : Nat} {x y : ByteArray} (hx : ss[i]? = some x) (hy : ss[j]? = some y) (h : i < j) : slt x y = true := by
 obtain ⟨h1, rfl⟩ := List.getElem?_eq_some_iff.1 hx
 obtain ⟨h2, rfl⟩ := List.getElem?_eq_some_iff.1 hy
 exact List.pairwise_iff_getElem.1 hs i j h1 h2 h
theorem BsR.mem {ss : List ByteArray} {x : ByteArray} {i : Nat} {b : Bool} (h : BsR ss x i b) (hs : Sorted ss) : b = true ↔ x ∈ ss := by
 rw [h.is, decide_eq_true_eq]
 constructor
 ·exact List.mem_of_getElem?
 ·intro hm
  obtain ⟨j, hj⟩ := List.getElem?_of_mem hm
  have h1 : i ≤ j := Nat.le_of_not_lt fun hlt => by
   have := h.lo j x hj hlt
   rw [slt_irrefl] at this
   cases this
  rcases Nat.eq_or_lt_of_le h1 with rfl | hlt
  ·exact hj
  ·have hi : i < ss.length := by have := (List.getElem?_eq_some_iff.1 hj).1; omega
   have h2 := h.hi i _ (List.getElem?_eq_getElem hi) (Nat.le_refl i)
   rw [sorted_at hs (List.getElem?_eq_getElem hi) hj hlt] at h2
   cases h2
theorem BsR.insert {ss : List ByteArray} {x : ByteArray} {i : Nat} (h : BsR ss x i false) (hs : Sorted ss) : Sorted (ss.take i ++ x :: ss.drop i) := by
 have hne : ∀ y ∈ ss, y ≠ x := fun y hy e => by
  subst e
  have := (h.mem hs).2 hy
  cases this
 have hl : ∀ y ∈ ss.take i, slt y x = true := fun y hy => by
  obtain ⟨j, hj⟩ := List.getElem?_of_mem hy
  rw [List.getElem?_take] at hj
  split at hj
  ·exact h.lo j y hj (by assumption)
  ·cases hj
 have hr : ∀ y ∈ ss.drop i, slt x y = true := fun y hy => by
  obtain ⟨j, hj⟩ := List.getElem?_of_mem hy
  rw [List.getElem?_drop] at hj
  have h1 := h.hi _ y hj (by omega)
  cases hxy : slt x y with
  | true => rfl
  | false => exact absurd (slt_tri h1 hxy) (hne y (List.mem_of_getElem? hj))
 unfold Sorted
 rw [List.pairwise_append]
 refine ⟨hs.sublist (List.take_sublist i ss), ?_, ?_⟩
 ·rw [List.pairwise_cons]
  exact ⟨hr, hs.sublist (List.drop_sublist i ss)⟩
 ·intro a ha b hb
  rcases List.mem_cons.1 hb with rfl | hb
  ·exact hl a ha
  ·exact slt_trans (hl a ha) (hr b hb)
theorem BsR.delete {ss : List ByteArray} {x : ByteArray} {i : Nat} (h : BsR ss x i true) (hs : Sorted ss) : Sorted (ss.take i ++ ss.drop (i + 1)) ∧ ∀ y, y ∈ ss.take i ++ ss.drop (i + 1) ↔ y ∈ ss ∧ y ≠ x := by
 have hi : ss[i]? = some x := by have := h.is; simpa using this.symm
 have e : ss.take i ++ ss.drop (i + 1) = ss.eraseIdx i := (List.eraseIdx_eq_take_drop_succ ss i).symm
 have hsplit : ss = ss.take i ++ x :: ss.drop (i + 1) := by
  obtain ⟨h1, h2⟩ := List.getElem?_eq_some_iff.1 hi
  rw [← h2, List.getElem_cons_drop, List.take_append_drop]
 refine ⟨by rw [e]; exact hs.sublist (List.eraseIdx_sublist ss i), fun y => ?_⟩
 constructor
 ·intro hy
  rcases List.mem_append.1 hy with hy | hy
  ·refine ⟨List.mem_of_mem_take hy, fun e => ?_⟩
   obtain ⟨j, hj⟩ := List.getElem?_of_mem hy
   rw [List.getElem?_take] at hj
   split at hj
   ·rename_i hlt
    have := sorted_at hs hj hi hlt
    rw [e, slt_irrefl] at this
    cases this
   ·cases hj
  ·refine ⟨List.mem_of_mem_drop hy, fun e => ?_⟩
   obtain ⟨j, hj⟩ := List.getElem?_of_mem hy
   rw [List.getElem?_drop] at hj
   have := sorted_at hs hi hj (by omega)
   rw [e, slt_irrefl] at this
   cases this
 ·rintro ⟨hy, hne⟩
  rw [hsplit] at hy
  rcases List.mem_append.1 hy with hy | hy
  ·exact List.mem_append_left _ hy
  ·rcases List.mem_cons.1 hy with rfl | hy
   ·exact absurd rfl hne
   ·exact List.mem_append_right _ hy
section
variable {P : Program} {F L M pre : List HP} {f : FuncId} {args : List Value} {R : Value → List HP → Prop} {x v : Value} {cs cur ys : List Value} {n m g o cap dLen dCap sz : Nat} {t : TypeId}
theorem ins_one {A Z X : List Value} (hA : A.length = n) (hX : X.length = 1) : (A ++ Z).take n ++ X ++ (A ++ Z).drop (n + 1) = A ++ (X ++ Z.drop 1) := by
 rw [← hA, List.take_left, List.append_assoc]
 congr 2
 rw [← List.drop_drop, List.drop_left]
theorem ins_two {A Z X B : List Value} (hA : A.length = n) (hX : X.length = 1) (hB : B.length = m) : (A ++ (X ++ Z)).take (n + 1) ++ B ++ (A ++ (X ++ Z)).drop (n + 1 + m) = (A ++ (X ++ B)) ++ Z.drop m := by
 have e : (A ++ X).length = n + 1 := by rw [List.length_append, hA, hX]
 rw [← List.append_assoc, ← e, List.take_left, ← List.drop_drop, List.drop_left]
 simp
theorem ins_in {A B S R X W : List Value} {k : Nat} (hA : A.length = n) (hB : B.length = k) (hS : S.length = m) (hs : S ++ R = A ++ (B ++ R)) (hw : A ++ (X ++ B) = W) (hX : X.length = 1) (hm : n + k = m) (h0 : 0 < k) :
 ((S ++ R).take (n + 1) ++ B ++ (S ++ R).drop (n + 1 + k)).take n ++ X ++ ((S ++ R).take (n + 1) ++ B ++ (S ++ R).drop (n + 1 + k)).drop (n + 1) = W ++ R.drop 1 := by
 have h1 : ((S ++ R).take (n + 1)).length = n + 1 := by rw [List.length_take, hs]; simp; omega
 have e1 : ((S ++ R).take (n + 1) ++ B ++ (S ++ R).drop (n + 1 + k)).take n = A := by
  rw [List.append_assoc, List.take_append_of_le_length (by omega), List.take_take, Nat.min_eq_left (by omega), hs, ← hA, List.take_left]
 have e2 : ((S ++ R).take (n + 1) ++ B ++ (S ++ R).drop (n + 1 + k)).drop (n + 1) = B ++ R.drop 1 := by
  rw [List.append_assoc]
  conv => lhs; arg 1; rw [← h1]
  rw [List.drop_left]
  congr 1
  rw [show n + 1 + k = S.length + 1 by omega, ← List.drop_drop, List.drop_left]
 rw [e1, e2, ← hw]
 simp
theorem DoesG.lss {a b : ByteArray} {k : Value → List HP → Prop} (hk : k (.bool (slt a b)) L) : DoesG P F (Op.stringOp .lss a b) L k :=
 ⟨fun w hs => ⟨_, L, w, by simp [Op.stringOp, slt], Ext.refl w, hs, hk⟩⟩
theorem SpecF.own_open (h0 : v = .slice none 0 0 → n = 0 → cs = [] → SpecF P f args F pre R)
 (h1 : ∀ g cap t rest, v = .slice (some ⟨g, 0, none⟩) n cap → n ≤ cap → cap ≤ maxLen → cs.length = n * sz → (cs ++ rest).length = cap * sz → SpecF P f args F (cel g t (cs ++ rest) :: pre) R) : SpecF P f args F (own sz v n cs :: pre) R := fun w hs => by
 rcases hs.ownV with ⟨rfl, rfl⟩ | ⟨g, cap, rfl, hn⟩
 ·have hs' : Sat w (own sz (.slice none 0 0) 0 cs :: (pre ++ F)) := hs
  obtain ⟨_, h2, h3⟩ := hs'.own_nil_open
  exact h0 rfl rfl h2 w h3
 ·have hs' : Sat w (own sz (.slice (some ⟨g, 0, none⟩) n cap) n cs :: (pre ++ F)) := hs
  obtain ⟨t, rest, a1, a2, a3, a4, a5⟩ := hs'.own_open
  exact h1 g cap t rest rfl a1 a2 a3 a4 w a5
theorem Ent.own_of {rest : List Value} (h1 : n ≤ cap) (h2 : cap ≤ maxLen) (h3 : cs.length = n * sz) (h4 : (cs ++ rest).length = cap * sz) : Ent (cel g t (cs ++ rest) :: L) (own sz (.slice (some ⟨g, 0, none⟩) n cap) n cs :: L) := fun w F hs => by
 have h : Sat w (blk g (.cells ⟨cs ++ rest⟩ t (0, 0)) :: (L ++ F)) := hs
 exact h.own_of h1 h2 h3 h4
theorem DoesG.appIn {dT ty e bs : Nat} (E : ElT P dT e sz bs) (hr : RdS (cel g t cur :: (L ++ F)) x m ys) (hm : ys.length = m * sz) (hroom : n + m ≤ cap) (hfit : o + n * sz + m * sz ≤ cur.length) (h1 : ∀ v ∈ ys, v.oneCell' = true)
 {k : Value → List HP → Prop} (hk : k (.slice (some ⟨g, o, none⟩) (n + m) cap) (cel g t (cur.take (o + n * sz) ++ ys ++ cur.drop (o + n * sz + m * sz)) :: L)) :
 DoesG P F (Builtin.append_ #[dT, dT] ty #[.slice (some ⟨g, o, none⟩) n cap, x]) (cel g t cur :: L) k := ⟨fun w hw => by
 obtain ⟨i, z, hi, hz, hsz, hby, hzs⟩ := E.inf
 subst hsz
 obtain ⟨w', hst, hx, hb, hkk⟩ := storeCells_run P g (o + n * i.size) t ys 0 cur w (Sat.blk_heap hw) (by omega) h1
 have hput : Sat w' (cel g t (cur.take (o + n * i.size) ++ ys ++ cur.drop (o + n * i.size + m * i.size)) :: (L ++ F)) := by
  have := Sat.put (o := .cells ⟨cur⟩ t (0, 0)) hw hb hkk
  rw [Nat.add_zero, hm] at this
  exact this
 refine ⟨_, _, w', ?_, hx, hput, hk⟩
 have hadd : (⟨g, o, none⟩ : Addr).add (n * i.size) = ⟨g, o + n * i.size, none⟩ := by rw [add_none]
 cases hr with
 | nil =>
  simp at hm hst
  simp only [storeCells] at hst
  simp [Builtin.append_, run_und E.und, sizeOf, typeInfo, hi, Builtin.lenOf, Builtin.firstCells, storeCells, (show n ≤ cap by omega)]
  simpa using hst
 | zero a xcap =>
  simp at hm hst
  simp only [storeCells] at hst
  simp [Builtin.append_, run_und E.und, sizeOf, typeInfo, hi, Builtin.lenOf, Builtin.firstCells, loadCells, loadCellsFrom, storeCells, (show n ≤ cap by omega)]
  simpa using hst
 | mk b o' m xcap ys hxn h =>
  have hnews : ∀ j u, ys[j]? = some u → w.cell? ((⟨b, o', none⟩ : Addr).add j) = some u := fun j u hj => by rw [add_none]; exact h w hw j u hj
  have hf := run_firstCells_some (P := P) w i.size m ⟨b, o', none⟩ m xcap ys hm hnews
  simp [Builtin.append_, run_und E.und, sizeOf, typeInfo, hi, Builtin.lenOf, hroom, hf, hadd, hst]⟩
theorem DoesG.appendZ {dT tn ty e bs : Nat} {kq kn : IntKind} {zv : Value} (E : ElT P dT e 1 bs) (hzv : zeroVT P e = some zv) (hz1 : zv.cells.toList = [zv]) (htn : P.underlying tn = some (.int kn)) (hr : CelN (L ++ F) g o cs) (hl : cs.length = n) (h0 : 0 < m) (hg : cap < n + m) (hmax : n + m ≤ maxLen)
 (hb : (n + m) * bs ≤ 140737488355328) {k : Value → List HP → Prop}
 (hk : ∀ g' cap', n + m ≤ cap' → cap' ≤ maxLen → k (.slice (some ⟨g', 0, none⟩) (n + m) cap') (cel g' e (cs ++ List.replicate m zv ++ List.replicate (cap' - (n + m)) zv) :: L)) :
 DoesG P F (Builtin.append_ #[dT, tn] ty #[.slice (some ⟨g, o, none⟩) n cap, .int kq m]) L k := ⟨fun w hs => by
 obtain ⟨i, z, hi, hz, hsz, hby, hzs⟩ := E.inf
 obtain rfl : z = zv := by
  unfold zeroVT at hzv
  simp [hi, hz] at hzv
  exact hzv
 subst hby
 have hs63 : ((n + m : Nat) : Int) ≤ 9223372036854775807 := by simp only [maxLen] at hmax; omega
 have hold : (Builtin.firstCells i.size n (.slice (some ⟨g, o, none⟩) n cap)).run P w.drew = .ok cs.toArray w.drew :=
  run_firstCells_some (P := P) w.drew i.size n ⟨g, o, none⟩ n cap cs (by rw [hsz, hl, Nat.mul_one]) (fun j u hj => by rw [add_none]; exact hr w hs j u hj)
 have hle : m * i.bytes ≤ (n + m) * i.bytes := Nat.mul_le_mul_right _ (by omega)
 have hfit := growslice_fits (old := cap) (by omega) hb
 have hrun : (Builtin.append_ #[dT, tn] ty #[.slice (some ⟨g, o, none⟩) n cap, .int kq m]).run P w = .ok (.slice (some ⟨w.heap.size, 0, none⟩) (n + m) (grownCap w (n + m) cap e))
  (w.drew.alloc (.cells (cs.toArray ++ Builtin.zeroCells z.cells m ++ Builtin.zeroCells z.cells (grownCap w (n + m) cap e - (n + m))) e)) := by
  have a1 : m ≠ 0 := by omega
  have a2 : IntKind.i64.wrap (m : Int) = m := i64_wrap (by omega) (by omega)
  have a3 : ¬ (n + m ≤ cap) := by omega
  have a4 : ¬ (9223372036854775807 < ((n : Int) + (m : Int))) := by omega
  have a5 : ¬ (281474976710656 < Builtin.nextslicecap (n + m) cap * i.bytes) := by omega
  have a6 : ¬ (281474976710656 < (m : Int) * (i.bytes : Int)) := by
   rw [← Int.natCast_mul]
   omega
  have a7 : ¬ ((m : Int) < 0) := by omega
  have hold' := hold
  rw [hsz] at hold'
  simp [Builtin.append_, run_und E.und, run_und htn, sizeOf, typeInfo, zeroValue, hi, hz, asInt, asIntOf, a1, a2, a3, a4, a5, a6, a7, Question.forced, hold', newRow, grownCap, hsz]
 have hge := grownCap_ge w (n + m) cap e
 have hlm := grownCap_le_maxLen w (n + m) cap e hmax
 have e1 : (cs.toArray ++ Builtin.zeroCells z.cells m ++ Builtin.zeroCells z.cells (grownCap w (n + m) cap e - (n + m))) = ⟨cs ++ List.replicate m z ++ List.replicate (grownCap w (n + m) cap e - (n + m)) z⟩ := by
  apply Array.toList_inj.1
  simp only [Array.toList_append, zeroCells_one z.cells z hz1]
 rw [e1] at hrun
 exact ⟨_, _, _, hrun, (Ext.drew w).trans (Ext.alloc _ _), hs.drew.alloc _, hk _ _ hge hlm⟩⟩
theorem DoesG.capS {tS ty e : TypeId} (ht : P.underlying tS = some (.slice e)) {a : Option Addr} {k : Value → List HP → Prop} (hk : k (.int .i64 cap) L) : DoesG P F (Builtin.cap_ #[tS] ty #[.slice a n cap]) L k :=
 ⟨fun w hs => ⟨_, L, w, by simp [Builtin.cap_, run_und ht, goInt], Ext.refl w, hs, hk⟩⟩
theorem DoesG.copyS {dT ty elem : TypeId} (hu : P.underlying dT = some (.slice elem)) (hs : sizeT P elem = some 1) (hr : RdS (cel g t cur :: (L ++ F)) x n cs) (hn : cs.length = n) (hle : n ≤ dLen) (hfit : o + n ≤ cur.length) (h1 : ∀ v ∈ cs, v.oneCell' = true)
 {cur' : List Value} (hc : cur.take o ++ cs ++ cur.drop (o + n) = cur') {k : Value → List HP → Prop} (hk : k (.int .i64 n) (cel g t cur' :: L)) :
 DoesG P F (Builtin.copy_ #[dT, dT] ty #[.slice (some ⟨g, o, none⟩) dLen dCap, x]) (cel g t cur :: L) k := by
 have e : min n dLen = n := Nat.min_eq_left hle
 refine DoesG.copy1 hu hs hr hn (by rw [e]; exact hfit) h1 ?_
 have e2 : cs.take n = cs := List.take_of_length_le (by omega)
 rw [e, e2, hc]
 exact hk
theorem DoesG.copyW {dT ty elem : TypeId} (hu : P.underlying dT = some (.slice elem)) (hs : sizeT P elem = some 1) (hr : RdS (cel g t cur :: (L ++ F)) x n cs) (hn : cs.length = n) (hfit : o + min n dLen ≤ cur.length) (h1 : ∀ v ∈ cs.take (min n dLen), v.oneCell' = true)
 {k : Value → List HP → Prop} (hk : k (.int .i64 (min n dLen : Nat)) (cel g t (cur.take o ++ cs.take (min n dLen) ++ cur.drop (o + min n dLen)) :: L)) :
 DoesG P F (Builtin.copy_ #[dT, dT] ty #[.slice (some ⟨g, o, none⟩) dLen dCap, x]) (cel g t cur :: L) k := ⟨fun w hw => by
 have hsz := run_size hs w
 have hlen : (cs.take (min n dLen)).length = min n dLen := by simp; omega
 obtain ⟨w', hst, hx, hb, hkk⟩ := storeCells_run P g o t (cs.take (min n dLen)) 0 cur w (Sat.blk_heap hw) (by rw [hlen]; omega) h1
 have hput : Sat w' (cel g t (cur.take o ++ cs.take (min n dLen) ++ cur.drop (o + min n dLen)) :: (L ++ F)) := by
  have := Sat.put (o := .cells ⟨cur⟩ t (0, 0)) hw hb hkk
  rw [Nat.add_zero, hlen] at this
  exact this
 refine ⟨_, _, w', ?_, hx, hput, hk⟩
 cases hr with
 | nil =>
  simp at hn hst
  simp [Builtin.copy_, run_und hu, Builtin.lenOf, Builtin.firstCells, hsz, storeCells, goInt]
  simpa [storeCells] using hst
 | zero a cap =>
  simp at hn hst
  simp [Builtin.copy_, run_und hu, Builtin.lenOf, Builtin.firstCells, loadCells, loadCellsFrom, hsz, storeCells, goInt]
  simpa [storeCells] using hst
 | mk b o' n cap cs hcap h =>
  have hnews : ∀ j u, (cs.take (min n dLen))[j]? = some u → w.cell? ((⟨b, o', none⟩ : Addr).add j) = some u := fun j u hj => by
   rw [add_none]
   refine h w hw j u ?_
   rw [List.getElem?_take] at hj
   split at hj
   ·exact hj
   ·cases hj
  have hf := run_firstCells_some (P := P) w 1 (min n dLen) ⟨b, o', none⟩ n cap (cs.take (min n dLen)) (by rw [hlen]; omega) hnews
  have em : Nat.min n dLen = min n dLen := rfl
  simp [Builtin.copy_, run_und hu, Builtin.lenOf, hsz, em, hf, hst, goInt]⟩
theorem cel_apart {w : World} {a b : Nat} {ta tb : TypeId} {ca cb : List Value} (hs : Sat w (cel a ta ca :: cel b tb cb :: L)) : a ≠ b := by
 rintro rfl
 obtain ⟨x, y, hok, rfl, ⟨u, v, hok2, rfl, rfl, _⟩, _, _⟩ := Sat.cons.1 hs
 have := hok a _ _ (one_self _ _ _) (show Hp.add (one a _ false) v a = some _ by simp [Hp.add, one_self]; rfl)
 exact absurd this.2 (by simp)
theorem DoesG.apart {tS tR e size a oa la ca b ob lb cb : Nat} {ta tb : TypeId} {as bs : List Value} (ht : P.underlying tS = some (.slice e)) (hz : sizeT P e = some size) (hb : bs ≠ []) {k : Value → List HP → Prop} (hk : k (.bool false) (cel a ta as :: cel b tb bs :: L)) :
 DoesG P F (Extern.SlicesOverlaps.overlaps #[tS, tS] #[tR] #[.slice (some ⟨a, oa, none⟩) la ca, .slice (some ⟨b, ob, none⟩) lb cb]) (cel a ta as :: cel b tb bs :: L) k := ⟨fun w hs => by
 have hs' : Sat w (cel a ta as :: cel b tb bs :: (L ++ F)) := hs
 have ha := hs'.blk_heap
 have hb' := hs'.tail.blk_heap
 have hne := cel_apart hs'
 refine ⟨_, _, w, Lib.run_overlaps_apart w tS tR e ht size (fun w => run_size hz w) ⟨a, oa, none⟩ ⟨b, ob, none⟩ la ca lb cb hne ta tb as.length bs.length ?_ ?_ ?_ ?_ ?_, Ext.refl w, hs, hk⟩
 ·simp [World.shape?, ha]
 ·simp [World.shape?, hb']
 ·simpa using hb
 ·simp [World.frozen?, ha]
 ·simp [World.frozen?, ha]⟩
end
end Go.Sl
