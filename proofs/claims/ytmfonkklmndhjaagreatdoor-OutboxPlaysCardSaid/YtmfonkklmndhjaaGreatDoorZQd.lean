import Derived.Test.YtmfonkklmndhjaaGreatDoorZQr
namespace Go.Sl
open Go Go.Sort
structure RfD where
 tv : Value
 ts : List PairD
 sv : Value
 ss : List PairD
 mv : Value
 marks : List Nat
def pdS (l : List PairD) : List HP := l.map fun p => sh p.v p.bs
def RfD.pieces (T s : Nat) (hv : Value) (part : Bool) (nv : Value) (bad : Int) (d : RfD) : List HP :=
 cel s T [hv, .bool part, nv, d.tv, d.sv, d.mv, .int .i64 bad] :: own 2 d.tv d.ts.length (pairsC d.ts) :: own 2 d.sv d.ss.length (pairsC d.ss) :: own 1 d.mv d.marks.length (d.marks.map fun n : Nat => Value.int .i64 n) :: (pdS d.ts ++ pdS d.ss)
structure IsQ (R : RSt) (d : RfD) : Prop where
 ts : d.ts.map PairD.e = R.told
 ss : d.ss.map PairD.e = R.steps
 marks : d.marks = R.marks
 tw : ∀ p ∈ d.ts, SlV p.v p.bs.length ∧ p.bs.length ≤ 4096
 sw : ∀ p ∈ d.ss, SlV p.v p.bs.length ∧ p.bs.length ≤ 4096
 up : R.marks.Pairwise (· ≤ ·)
 top : ∀ m ∈ R.marks, m ≤ R.steps.length
 stv : SlV d.tv d.ts.length
 ssv : SlV d.sv d.ss.length
 smv : SlV d.mv d.marks.length
def refR (T s : Nat) (hv : Value) (part : Bool) (nv : Value) (R : RSt) : HP := exL (IsQ R) fun d => d.pieces T s hv part nv R.bad
def atD (l : List PairD) (k : ByteArray) : Option PairD := l.find? fun p => decide (p.key = k)
def atV (l : List PairD) (k : ByteArray) : Value := ((atD l k).map PairD.v).getD (.slice none 0 0)
def atB (l : List PairD) (k : ByteArray) : List Nat := ((atD l k).map PairD.bs).getD []
theorem atD_atL (l : List PairD) (k : ByteArray) : (atD l k).map PairD.bs = atL (l.map PairD.e) k := by
 unfold atD atL
 rw [List.find?_map, Option.map_map]
 rfl
theorem atD_mem {l : List PairD} {k : ByteArray} {p : PairD} (h : atD l k = some p) : p ∈ l ∧ p.key = k := ⟨List.mem_of_find?_eq_some h, by have := List.find?_some h; simpa using this⟩
theorem atD_step {l : List PairD} {i : Nat} {p : PairD} (h : l[i]? = some p) (k : ByteArray) : atD (l.drop i) k = if p.key = k then some p else atD (l.drop (i + 1)) k := by
 obtain ⟨h1, rfl⟩ := List.getElem?_eq_some_iff.1 h
 rw [List.drop_eq_getElem_cons h1]
 unfold atD
 rw [List.find?_cons]
 by_cases hk : l[i].key = k <;> simp [hk]
theorem atD_back {l : List PairD} {i : Nat} {p : PairD} (h : l[i]? = some p) (k : ByteArray) : atD (l.take (i + 1)).reverse k = if p.key = k then some p else atD (l.take i).reverse k := by
 obtain ⟨h1, rfl⟩ := List.getElem?_eq_some_iff.1 h
 rw [List.take_succ_eq_append_getElem h1, List.reverse_append, List.reverse_singleton, List.singleton_append]
 unfold atD
 rw [List.find?_cons]
 by_cases hk : l[i].key = k <;> simp [hk]
def RfD.nowV (d : RfD) (k : ByteArray) : Value := match atD d.ss.reverse k with
 | some p => p.v
 | none => atV d.ts k
def RfD.nowB (d : RfD) (k : ByteArray) : List Nat := match atD d.ss.reverse k with
 | some p => p.bs
 | none => atB d.ts k
abbrev NoD := ByteArray × Int
def NoD.cells (p : NoD) : List Value := [.string p.1, .int .i64 p.2]
def noC (l : List NoD) : List Value := l.flatMap NoD.cells
def noF (l : List NoD) (k : ByteArray) : Int := ((l.find? fun p => decide (p.1 = k) && !decide (p.2 = 0)).map (·.2)).getD 0
theorem noC_get {l : List NoD} {i : Nat} {p : NoD} (h : l[i]? = some p) : (noC l)[i * 2]? = some (.string p.1) ∧ (noC l)[i * 2 + 1]? = some (.int .i64 p.2) := by
 induction l generalizing i with
 | nil => simp at h
 | cons y l ih =>
  cases i with
  | zero => simp at h; subst h; exact ⟨rfl, rfl⟩
  | succ i =>
   have h2 := ih (i := i) (by simpa using h)
   have e : ∀ j, (noC (y :: l))[j + 2]? = (noC l)[j]? := fun j => by
    show (Value.string y.1 :: Value.int .i64 y.2 :: noC l)[j + 2]? = _
    simp
   rw [show (i + 1) * 2 = i * 2 + 2 by omega, e, show i * 2 + 2 + 1 = (i * 2 + 1) + 2 by omega, e]
   exact h2
theorem noF_step {l : List NoD} {i : Nat} {p : NoD} (h : l[i]? = some p) (k : ByteArray) : noF (l.drop i) k = if p.1 = k ∧ p.2 ≠ 0 then p.2 else noF (l.drop (i + 1)) k := by
 obtain ⟨h1, rfl⟩ := List.getElem?_eq_some_iff.1 h
 rw [List.drop_eq_getElem_cons h1]
 unfold noF
 rw [List.find?_cons]
 by_cases hk : l[i].1 = k <;> by_cases h0 : l[i].2 = 0 <;> simp [hk, h0]
def refF (hs : List KB) (no : List NoD) (part : Bool) (k : ByteArray) : List Nat × Int :=
 if noF no k ≠ 0 then ([], noF no k) else ((atL hs k).getD [], if (atL hs k).isSome = false ∧ part = true then 74 else 0)
section
variable {R : RSt} {d : RfD} {k : ByteArray}
theorem IsQ.told (h : IsQ R d) (k : ByteArray) : (atD d.ts k).isSome = (atL R.told k).isSome := by
 rw [← h.ts, ← atD_atL, Option.isSome_map]
theorem IsQ.val (h : IsQ R d) (k : ByteArray) : d.nowB k = R.val k := by
 unfold RfD.nowB RSt.val atB lastS
 rw [← h.ts, ← h.ss, ← List.map_reverse, ← atD_atL, ← atD_atL]
 cases atD d.ss.reverse k <;> rfl
theorem atV_of {l : List PairD} {φ : Value → List Nat → Prop} (h0 : φ (.slice none 0 0) []) (h : ∀ p ∈ l, φ p.v p.bs) (k : ByteArray) : φ (atV l k) (atB l k) := by
 unfold atV atB
 cases hc : atD l k with
 | none => exact h0
 | some p => exact h p (atD_mem hc).1
theorem nowV_of {d : RfD} {φ : Value → List Nat → Prop} (h0 : φ (.slice none 0 0) []) (h1 : ∀ p ∈ d.ts, φ p.v p.bs) (h2 : ∀ p ∈ d.ss, φ p.v p.bs) (k : ByteArray) : φ (d.nowV k) (d.nowB k) := by
 unfold RfD.nowV RfD.nowB
 cases hc : atD d.ss.reverse k with
 | none => exact atV_of h0 h1 k
 | some p => exact h2 p (List.mem_reverse.1 (atD_mem hc).1)
theorem pdS_rd {l : List PairD} {M : List HP} {p : PairD} (h : p ∈ l) (hv : SlV p.v p.bs.length) : RdS (pdS l ++ M) p.v p.bs.length (bvs p.bs) := by
 induction l with
 | nil => cases h
 | cons q l ih =>
  rcases List.mem_cons.1 h with rfl | h
  ·exact sh_rd hv
  ·exact (ih h).tl
theorem RfD.rd {T s : Nat} {hv nv : Value} {part : Bool} {bad : Int} (h : IsQ R d) (k : ByteArray) :
 RdS (d.pieces T s hv part nv bad) (d.nowV k) (d.nowB k).length (bvs (d.nowB k)) ∧ (d.nowB k).length ≤ 4096 := by
 refine nowV_of (φ := fun v bs => RdS (d.pieces T s hv part nv bad) v bs.length (bvs bs) ∧ bs.length ≤ 4096) ⟨.nil, Nat.zero_le _⟩ (fun p hp => ?_) (fun p hp => ?_) k
 ·exact ⟨.tl (.tl (.tl (.tl (pdS_rd hp (h.tw p hp).1)))), (h.tw p hp).2⟩
 ·have := pdS_rd (M := []) hp (h.sw p hp).1
  rw [List.append_nil] at this
  exact ⟨.tl (.tl (.tl (.tl (this.right _)))), (h.sw p hp).2⟩
theorem RfD.rdT {T s : Nat} {hv nv : Value} {part : Bool} {bad : Int} (h : IsQ R d) {p : PairD} (hp : p ∈ d.ts) : RdS (d.pieces T s hv part nv bad) p.v p.bs.length (bvs p.bs) := .tl (.tl (.tl (.tl (pdS_rd hp (h.tw p hp).1))))
theorem pdS_with {key : ByteArray} {new : PairD} : ∀ {l : List PairD} {M : List HP}, Ent (pdS l ++ M) (pdS (withL PairD.key key new true l) ++ M) ∧ Ent (sh new.v new.bs :: (pdS l ++ M)) (pdS (withL PairD.key key new false l) ++ M)
 | [], M => ⟨Ent.refl _, Ent.refl _⟩
 | p :: l, M => by
  have h1 : ∀ M, Ent (pdS (p :: l) ++ M) (pdS ((if p.key = key then [] else [p]) ++ withL PairD.key key new true l) ++ M) := fun M => by
   split
   ·exact (Ent.drop _).trans (pdS_with (M := M)).1
   ·exact Ent.cons _ (pdS_with (M := M)).1
  refine ⟨h1 M, ?_⟩
  unfold withL
  cases hs : slt p.key key with
  | true =>
   simp only [Bool.not_true, Bool.not_false, Bool.and_false, Bool.false_eq_true, if_false, List.nil_append, Bool.or_false]
   split
   ·exact ((Ent.cons _ (Ent.drop _)).trans (pdS_with (M := M)).2)
   ·exact (Ent.perm (List.Perm.swap _ _ _)).trans (Ent.cons _ (pdS_with (M := M)).2)
  | false =>
   simp only [Bool.not_false, Bool.and_self, if_true, Bool.or_true]
   exact Ent.cons _ (h1 M)
theorem pairsE_len {l : List PairD} {m : List KB} (h : l.map PairD.e = m) : l.length = m.length := by rw [← h, List.length_map]
theorem IsQ.tell {x : Value} {v : List Nat} (h : IsQ R d) (hx : SlV x v.length) (hv : v.length ≤ 4096) (tv : Value) (ht : SlV tv (withL PairD.key k ⟨k, x, v⟩ false d.ts).length) : IsQ { R with told := insL R.told k v } { d with tv := tv, ts := withL PairD.key k ⟨k, x, v⟩ false d.ts } := by
 refine ⟨?_, h.ss, h.marks, fun p hp => ?_, h.sw, h.up, h.top, ht, h.ssv, h.smv⟩
 ·show (withL PairD.key k ⟨k, x, v⟩ false d.ts).map PairD.e = insL R.told k v
  rw [withL_map PairD.key Prod.fst PairD.e (fun _ => rfl), h.ts]
  rfl
 ·rcases withL_mem PairD.key hp with rfl | ⟨h1, _⟩
  ·exact ⟨hx, hv⟩
  ·exact h.tw p h1
theorem IsQ.bad (h : IsQ R d) (b : Int) : IsQ { R with bad := b } d := ⟨h.ts, h.ss, h.marks, h.tw, h.sw, h.up, h.top, h.stv, h.ssv, h.smv⟩
theorem IsQ.put {x : Value} {v : List Nat} (h : IsQ R d) (hx : SlV x v.length) (hv : v.length ≤ 4096) {sv : Value} (hs : SlV sv (d.ss.length + 1)) : IsQ { R with steps := R.steps ++ [(k, v)] } { d with sv := sv, ss := d.ss ++ [⟨k, x, v⟩] } := by
 refine ⟨h.ts, ?_, h.marks, h.tw, fun p hp => ?_, h.up, fun m hm => ?_, h.stv, ?_, h.smv⟩
 ·show (d.ss ++ [_]).map PairD.e = _
  rw [List.map_append, h.ss]
  rfl
 ·rcases List.mem_append.1 hp with hp | hp
  ·exact h.sw p hp
  ·rw [List.mem_singleton.1 hp]; exact ⟨hx, hv⟩
 ·show m ≤ (R.steps ++ [(k, v)]).length
  have := h.top m hm
  rw [List.length_append]
  omega
 ·show SlV sv (d.ss ++ [_]).length
  rw [List.length_append, List.length_singleton]
  exact hs
theorem IsQ.mark (h : IsQ R d) {mv : Value} (hs : SlV mv (d.marks.length + 1)) : IsQ (markQ R).2 { d with mv := mv, marks := d.marks ++ [d.ss.length] } := by
 have hsl := pairsE_len h.ss
 refine ⟨h.ts, h.ss, ?_, h.tw, h.sw, ?_, fun m hm => ?_, h.stv, h.ssv, ?_⟩
 ·show d.marks ++ [d.ss.length] = R.marks ++ [R.steps.length]
  rw [h.marks, hsl]
 ·exact List.pairwise_append.2 ⟨h.up, List.pairwise_singleton _ _, fun a ha b hb => by rw [List.mem_singleton.1 hb]; exact h.top a ha⟩
 ·rcases List.mem_append.1 hm with hm | hm
  ·exact h.top m hm
  ·rw [List.mem_singleton.1 hm]; exact Nat.le_refl _
 ·show SlV mv (d.marks ++ [_]).length
  rw [List.length_append, List.length_singleton]
  exact hs
theorem IsQ.back {m at_ : Nat} (h : IsQ R d) (hm : R.marks[m]? = some at_) {sv mv : Value} (hs : SlV sv at_) (hmv : SlV mv (m + 1)) : IsQ (backQ R m).2 { d with sv := sv, ss := d.ss.take at_, mv := mv, marks := d.marks.take (m + 1) } := by
 have hsl := pairsE_len h.ss
 have hlt : m < R.marks.length := (List.getElem?_eq_some_iff.1 hm).1
 have hle : at_ ≤ R.steps.length := h.top at_ (List.mem_of_getElem? hm)
 have e : (backQ R m).2 = { R with steps := R.steps.take at_, marks := R.marks.take (m + 1) } := by
  unfold backQ
  rw [if_neg (by omega), Int.toNat_natCast, List.getD_eq_getElem?_getD, hm]
  rfl
 rw [e]
 refine ⟨h.ts, ?_, ?_, h.tw, fun p hp => h.sw p (List.mem_of_mem_take hp), h.up.sublist (List.take_sublist _ _), fun n hn => ?_, h.stv, ?_, ?_⟩
 ·show (d.ss.take at_).map PairD.e = R.steps.take at_
  rw [List.map_take, h.ss]
 ·show d.marks.take (m + 1) = R.marks.take (m + 1)
  rw [h.marks]
 ·show n ≤ (R.steps.take at_).length
  rw [List.length_take, Nat.min_eq_left hle]
  obtain ⟨j, hj⟩ := List.getElem?_of_mem hn
  rw [List.getElem?_take] at hj
  split at hj
  ·rename_i hjm
   rcases Nat.lt_or_ge j m with hlt2 | hge
   ·obtain ⟨p1, rfl⟩ := List.getElem?_eq_some_iff.1 hj
    obtain ⟨p2, rfl⟩ := List.getElem?_eq_some_iff.1 hm
    exact List.pairwise_iff_getElem.1 h.up j m p1 p2 hlt2
   ·obtain rfl : j = m := by omega
    rw [hm] at hj
    cases hj
    exact Nat.le_refl _
  ·cases hj
 ·show SlV sv (d.ss.take at_).length
  rw [List.length_take, Nat.min_eq_left (by omega)]
  exact hs
 ·show SlV mv (d.marks.take (m + 1)).length
  rw [List.length_take, h.marks, Nat.min_eq_left (by omega)]
  exact hmv
theorem pdS_app (a b : List PairD) : pdS (a ++ b) = pdS a ++ pdS b := List.map_append
theorem pdS_take {l : List PairD} {i : Nat} : Ent (pdS l) (pdS (l.take i)) := by
 have e : pdS l = pdS (l.take i) ++ pdS (l.drop i) := by
  unfold pdS
  rw [← List.map_append, List.take_append_drop]
 rw [e]
 exact Ent.dropL _ _
theorem pairsC_take (l : List PairD) (i : Nat) : (pairsC l).take (i * 2) = pairsC (l.take i) := by
 induction l generalizing i with
 | nil => simp [pairsC]
 | cons y l ih =>
  cases i with
  | zero => rw [Nat.zero_mul, List.take_zero, List.take_zero]; rfl
  | succ i =>
   show (y.cells ++ pairsC l).take ((i + 1) * 2) = y.cells ++ pairsC (l.take i)
   have e : (i + 1) * 2 = y.cells.length + i * 2 := by
    show (i + 1) * 2 = 2 + i * 2
    omega
   rw [e, List.take_length_add_append, ih]
end
end Go.Sl
