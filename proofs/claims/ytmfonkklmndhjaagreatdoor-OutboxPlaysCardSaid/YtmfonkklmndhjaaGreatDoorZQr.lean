import Derived.Test.YtmfonkklmndhjaaGreatDoorZPa
namespace Go.Sl
open Go Go.Sort
abbrev KB := ByteArray × List Nat
structure RSt where
 told : List KB
 steps : List KB
 marks : List Nat
 bad : Int
def atL (l : List KB) (k : ByteArray) : Option (List Nat) := (l.find? fun p => decide (p.1 = k)).map (·.2)
def lastS (l : List KB) (k : ByteArray) : Option (List Nat) := atL l.reverse k
def insL (l : List KB) (k : ByteArray) (v : List Nat) : List KB := withL Prod.fst k (k, v) false l
def RSt.val (R : RSt) (k : ByteArray) : List Nat := (lastS R.steps k).getD ((atL R.told k).getD [])
def askI (find : List Nat × Int) (R : RSt) (k : ByteArray) : Int := if (atL R.told k).isSome then 0 else if find.2 ≠ 0 then find.2 else if 4096 < find.1.length then 71 else 0
def askQ (find : List Nat × Int) (R : RSt) (k : ByteArray) : RSt :=
 if (atL R.told k).isSome then R else if askI find R k = 0 then { R with told := insL R.told k find.1 } else { R with bad := if R.bad = 0 then askI find R k else R.bad }
def getQ (find : List Nat × Int) (R : RSt) (k : ByteArray) : (List Nat × Int) × RSt :=
 if mayI k 0 ≠ 0 then (([], mayI k 0), R) else ((if askI find R k = 0 then (askQ find R k).val k else [], askI find R k), askQ find R k)
def putQ (find : List Nat × Int) (R : RSt) (k : ByteArray) (bs : List Nat) : Int × RSt :=
 if mayI k bs.length ≠ 0 then (mayI k bs.length, R) else (askI find R k, if askI find R k = 0 then { askQ find R k with steps := (askQ find R k).steps ++ [(k, bs)] } else askQ find R k)
def markQ (R : RSt) : Int × RSt := (R.marks.length, { R with marks := R.marks ++ [R.steps.length] })
def backQ (R : RSt) (m : Int) : Int × RSt := if m < 0 ∨ (R.marks.length : Int) ≤ m then (72, R) else (0, { R with steps := R.steps.take (R.marks.getD m.toNat 0), marks := R.marks.take (m.toNat + 1) })
def touchedQ (R : RSt) : List ByteArray := R.told.map (·.1)
def changesQ (R : RSt) : List (ByteArray × List Nat × List Nat) := (R.told.filter fun p => !decide (strB (R.val p.1) = strB p.2)).map fun p => (p.1, p.2, R.val p.1)
def Rise (l : List KB) : Prop := l.Pairwise fun a b => slt a.1 b.1 = true
theorem Rise.nodup {l : List KB} (h : Rise l) : (l.map (·.1)).Nodup := by
 refine List.pairwise_map.2 (h.imp fun hab e => ?_)
 rw [e, slt_irrefl] at hab
 cases hab
theorem atL_none {l : List KB} {k : ByteArray} : atL l k = none ↔ k ∉ l.map (·.1) := by
 simp only [atL, Option.map_eq_none_iff, List.find?_eq_none, List.mem_map, not_exists, not_and, decide_eq_true_eq]
theorem atL_mem {l : List KB} {k : ByteArray} {v : List Nat} (h : atL l k = some v) : (k, v) ∈ l := by
 simp only [atL, Option.map_eq_some_iff] at h
 obtain ⟨p, hp, rfl⟩ := h
 have h1 := List.find?_some hp
 simp only [decide_eq_true_eq] at h1
 rw [← h1]
 exact List.mem_of_find?_eq_some hp
theorem atL_of {l : List KB} (hn : (l.map (·.1)).Nodup) {k : ByteArray} {v : List Nat} (h : (k, v) ∈ l) : atL l k = some v := by
 cases hc : atL l k with
 | none => exact absurd (List.mem_map.2 ⟨_, h, rfl⟩) (atL_none.1 hc)
 | some u =>
  have h2 := atL_mem hc
  induction l with
  | nil => cases h
  | cons p l ih =>
   rw [List.map_cons, List.nodup_cons] at hn
   rcases List.mem_cons.1 h with e1 | h3
   ·rcases List.mem_cons.1 h2 with e | h4
    ·exact (Prod.mk.inj (e.trans e1.symm)).2 ▸ rfl
    ·exact absurd (List.mem_map.2 ⟨(k, u), h4, by rw [← e1]⟩) hn.1
   ·rcases List.mem_cons.1 h2 with e | h4
    ·exact absurd (List.mem_map.2 ⟨(k, v), h3, by rw [← e]⟩) hn.1
    ·have hne : ¬p.1 = k := fun e => hn.1 (by rw [e]; exact List.mem_map.2 ⟨(k, v), h3, rfl⟩)
     refine ih hn.2 h3 ?_ h4
     rw [← hc]
     simp [atL, hne]
theorem atL_perm {l m : List KB} (hn : (l.map (·.1)).Nodup) (h : l.Perm m) (k : ByteArray) : atL m k = atL l k := by
 have hm : (m.map (·.1)).Nodup := (h.map _).nodup_iff.1 hn
 cases hl : atL l k with
 | none => rw [atL_none] at hl ⊢; exact fun hk => hl ((h.map _).mem_iff.2 hk)
 | some v => exact atL_of hm (h.mem_iff.1 (atL_mem hl))
theorem lastS_app (l : List KB) (p : KB) (k : ByteArray) : lastS (l ++ [p]) k = if k = p.1 then some p.2 else lastS l k := by
 unfold lastS atL
 rw [List.reverse_append, List.reverse_singleton, List.singleton_append, List.find?_cons]
 by_cases h : k = p.1
 ·simp [h]
 ·have h2 : ¬p.1 = k := fun e => h e.symm
  simp [h, h2]
theorem takeW_lt {l : List KB} {k : ByteArray} : ∀ p ∈ l.takeWhile (fun p => slt p.1 k), slt p.1 k = true := fun p hp => by
 induction l with
 | nil => simp at hp
 | cons q l ih =>
  rw [List.takeWhile_cons] at hp
  split at hp
  ·rename_i hq
   rcases List.mem_cons.1 hp with rfl | hp
   ·exact hq
   ·exact ih hp
  ·cases hp
theorem dropW_gt {l : List KB} (hr : Rise l) {k : ByteArray} (hk : k ∉ l.map (·.1)) : ∀ p ∈ l.dropWhile (fun p => slt p.1 k), slt k p.1 = true := by
 induction l with
 | nil => intro p hp; simp at hp
 | cons q l ih =>
  have h1 := List.pairwise_cons.1 hr
  rw [List.map_cons, List.mem_cons, not_or] at hk
  intro p hp
  rw [List.dropWhile_cons] at hp
  split at hp
  ·exact ih h1.2 hk.2 p hp
  ·rename_i hq
   have hq2 : slt k q.1 = true := by
    cases hc : slt k q.1 with
    | true => rfl
    | false => exact absurd (slt_tri hc (by simpa using hq)) hk.1
   rcases List.mem_cons.1 hp with rfl | hp
   ·exact hq2
   ·exact slt_trans hq2 (h1.1 p hp)
theorem withL_done {l : List KB} {k : ByteArray} {x : KB} (hk : k ∉ l.map (·.1)) : withL Prod.fst k x true l = l := by
 induction l with
 | nil => rfl
 | cons p l ih =>
  rw [List.map_cons, List.mem_cons, not_or] at hk
  have hne : ¬p.1 = k := fun e => hk.1 e.symm
  unfold withL
  simp only [Bool.not_true, Bool.false_and, Bool.true_or, Bool.false_eq_true, if_false, hne, List.nil_append, ih hk.2]
  rfl
theorem insL_new {l : List KB} {k : ByteArray} {v : List Nat} (hk : k ∉ l.map (·.1)) : insL l k v = l.takeWhile (fun p => slt p.1 k) ++ (k, v) :: l.dropWhile (fun p => slt p.1 k) := by
 unfold insL
 induction l with
 | nil => rfl
 | cons p l ih =>
  rw [List.map_cons, List.mem_cons, not_or] at hk
  have hne : ¬p.1 = k := fun e => hk.1 e.symm
  unfold withL
  rw [List.takeWhile_cons, List.dropWhile_cons]
  by_cases h : slt p.1 k = true
  ·simp only [h, Bool.not_true, Bool.not_false, Bool.and_false, Bool.or_false, Bool.false_eq_true, if_false, hne, List.nil_append, if_true, List.cons_append, ih hk.2]
  ·rw [Bool.not_eq_true] at h
   simp only [h, Bool.not_false, Bool.and_true, Bool.or_true, if_true, hne, if_false, Bool.false_eq_true, List.nil_append, withL_done hk.2]
   rfl
theorem insL_perm {l : List KB} {k : ByteArray} {v : List Nat} (hk : k ∉ l.map (·.1)) : (insL l k v).Perm (l ++ [(k, v)]) := by
 rw [insL_new hk]
 refine List.perm_middle.trans ?_
 rw [List.takeWhile_append_dropWhile]
 exact (List.perm_append_comm (l₁ := [(k, v)]) (l₂ := l))
theorem insL_rise {l : List KB} (hr : Rise l) {k : ByteArray} {v : List Nat} (hk : k ∉ l.map (·.1)) : Rise (insL l k v) := by
 rw [insL_new hk]
 refine List.pairwise_append.2 ⟨hr.sublist (List.takeWhile_sublist _), List.pairwise_cons.2 ⟨fun p hp => dropW_gt hr hk p hp, hr.sublist (List.dropWhile_sublist _)⟩, fun a ha b hb => ?_⟩
 have h1 := takeW_lt a ha
 rcases List.mem_cons.1 hb with rfl | hb
 ·exact h1
 ·exact slt_trans h1 (dropW_gt hr hk b hb)
def KV.kb (p : KV ByteArray) : KB := (p.1, p.2.2)
theorem getK_atL (l : List (KV ByteArray)) (k : ByteArray) : (getK l k).map (·.2) = atL (l.map KV.kb) k := by
 unfold getK atL
 rw [List.find?_map, Option.map_map, Option.map_map]
 rfl
structure IsR (R : RSt) (c : StC) : Prop where
 wf : c.wf
 has : R.told.Perm (c.has.map KV.kb)
 rise : Rise R.told
 keys : ∀ p ∈ R.told, mayI p.1 0 = 0
 now : ∀ k, c.nowF k = lastS R.steps k
 len : c.steps.length = R.steps.length
 st : ∀ (i : Nat) (x : StepC), c.steps[i]? = some x → ∃ p, R.steps[i]? = some p ∧ x.key = p.1 ∧ (if x.laid = true then some x.bs else none) = lastS (R.steps.take i) x.key
 marks : c.marks = R.marks
 up : R.marks.Pairwise (· ≤ ·)
 top : ∀ m ∈ R.marks, m ≤ R.steps.length
def stR (T s : Nat) (src : Value) (R : RSt) : HP := exL (IsR R) fun c => c.pieces T s src
section
variable {R : RSt} {c c' : StC} {k : ByteArray}
theorem IsR.atL (h : IsR R c) (k : ByteArray) : (getK c.has k).map (·.2) = atL R.told k := by
 rw [getK_atL]
 exact atL_perm h.rise.nodup h.has k
theorem IsR.told (h : IsR R c) (k : ByteArray) : (getK c.has k).isSome = (Go.Sl.atL R.told k).isSome := by
 rw [← h.atL k, Option.isSome_map]
theorem IsR.val (h : IsR R c) (k : ByteArray) : c.val k = R.val k := by
 unfold StC.val RSt.val
 rw [← h.now k, ← h.atL k]
 unfold StC.nowF
 cases getK c.now k <;> rfl
theorem IsR.cnt (h : IsR R c) : c.has.length = R.told.length := by
 have := h.has.length_eq
 rw [List.length_map] at this
 exact this.symm
theorem IsR.vals (h : IsR R c) : ∀ p ∈ R.told, p.2.length ≤ 4096 := fun p hp => by
 obtain ⟨q, hq, rfl⟩ := List.mem_map.1 (h.has.mem_iff.1 hp)
 exact (h.wf.has q hq).2
theorem IsR.bad (h : IsR R c) (b : Int) : IsR { R with bad := b } c := ⟨h.wf, h.has, h.rise, h.keys, h.now, h.len, h.st, h.marks, h.up, h.top⟩
theorem askQ_fail {find : List Nat × Int} (h : askI find R k ≠ 0) : askQ find R k = { R with bad := if R.bad = 0 then askI find R k else R.bad } := by
 have h1 : ¬(Go.Sl.atL R.told k).isSome = true := fun e => h (by unfold askI; rw [if_pos e])
 unfold askQ
 rw [if_neg h1, if_neg h]
theorem IsR.ask {find : ByteArray → List Nat × Int} (h : IsR R c) (hk : mayI k 0 = 0) (hf : askI (find k) R k = 0) (hs : AskOk find c k c') : IsR (askQ (find k) R k) c' := by
 rcases hs.out with ⟨h1, rfl⟩ | ⟨h1, x, hx, hl, rfl⟩
 ·unfold askQ
  rw [if_pos (by rw [← h.told k]; exact h1)]
  exact h
 ·have hn : k ∉ R.told.map (·.1) := by
   rw [← atL_none, ← h.atL k, h1]
   rfl
  unfold askQ
  rw [if_neg (by rw [← h.told k, h1]; simp), if_pos hf]
  refine ⟨hs.wf h.wf, ?_, insL_rise h.rise hn, fun p hp => ?_, h.now, h.len, h.st, h.marks, h.up, h.top⟩
  ·show (insL R.told k (find k).1).Perm ((putK c.has k x (find k).1).map KV.kb)
   rw [putK_new h1, List.map_append]
   exact (insL_perm hn).trans (h.has.append_right _)
  ·rcases List.mem_append.1 ((insL_perm hn).mem_iff.1 hp) with hp | hp
   ·exact h.keys p hp
   ·rw [List.mem_singleton.1 hp]; exact hk
theorem IsR.put {x : Value} {bs : List Nat} {sv : Value} (h : IsR R c) (hx : SlV x bs.length) (hb : bs.length ≤ 4096) : IsR { R with steps := R.steps ++ [(k, bs)] } (c.put k x bs sv) := by
 refine ⟨StC.put_wf h.wf hx hb, h.has, h.rise, h.keys, fun j => ?_, ?_, fun i y hy => ?_, h.marks, h.up, fun m hm => ?_⟩
 ·rw [lastS_app]
  show (getK (putK c.now k x bs) j).map (·.2) = _
  rw [getK_put]
  by_cases hj : j = k
  ·simp [hj]
  ·simp only [hj, if_false]
   exact h.now j
 ·show (c.steps ++ [c.was k]).length = _
  rw [List.length_append, List.length_append, h.len]
  rfl
 ·have hy2 : (c.steps ++ [c.was k])[i]? = some y := hy
  rcases Nat.lt_or_ge i c.steps.length with hi | hi
  ·rw [List.getElem?_append_left hi] at hy2
   obtain ⟨p, hp, h1, h2⟩ := h.st i y hy2
   have hi2 : i < R.steps.length := by rw [← h.len]; exact hi
   refine ⟨p, ?_, h1, ?_⟩
   ·rw [List.getElem?_append_left hi2]; exact hp
   ·rw [List.take_append_of_le_length (Nat.le_of_lt hi2)]; exact h2
  ·have hi2 : i = c.steps.length := by
    have := (List.getElem?_eq_some_iff.1 hy2).1
    rw [List.length_append, List.length_singleton] at this
    omega
   subst hi2
   rw [List.getElem?_concat_length] at hy2
   cases hy2
   refine ⟨(k, bs), by rw [h.len, List.getElem?_concat_length], was_key c k, ?_⟩
   have e : (R.steps ++ [(k, bs)]).take c.steps.length = R.steps := by rw [h.len]; exact List.take_left
   rw [e, was_key, ← h.now k]
   unfold StC.was StC.nowF
   cases getK c.now k <;> rfl
 ·show m ≤ (R.steps ++ [(k, bs)]).length
  rw [List.length_append]
  have := h.top m hm
  omega
theorem IsR.mark (h : IsR R c) (h1 : c'.has = c.has) (h2 : c'.now = c.now) (h3 : c'.steps = c.steps) (h4 : c'.marks = c.marks ++ [c.steps.length]) (hw : c'.wf) : IsR (markQ R).2 c' := by
 refine ⟨hw, by rw [h1]; exact h.has, h.rise, h.keys, fun k => by unfold StC.nowF; rw [h2]; exact h.now k, by rw [h3]; exact h.len, by rw [h3]; exact h.st, by rw [h4, h.marks, h.len]; rfl, ?_, fun m hm => ?_⟩
 ·exact List.pairwise_append.2 ⟨h.up, List.pairwise_singleton _ _, fun a ha b hb => by rw [List.mem_singleton.1 hb]; exact h.top a ha⟩
 ·rcases List.mem_append.1 hm with hm | hm
  ·exact h.top m hm
  ·rw [List.mem_singleton.1 hm]; exact Nat.le_refl _
theorem IsR.undo (h : IsR R c) : ∀ (d j : Nat), j + d = R.steps.length → undoTo c.steps j c.nowF = lastS (R.steps.take j)
 | 0, j, hj => by
  rw [undoTo_all (by rw [h.len]; omega), List.take_of_length_le (by omega)]
  exact funext h.now
 | d + 1, j, hj => by
  have hlt : j < c.steps.length := by rw [h.len]; omega
  have hx := List.getElem?_eq_getElem hlt
  rw [undoTo_step hx, h.undo d (j + 1) (by omega)]
  obtain ⟨p, hp, h1, h2⟩ := h.st j _ hx
  have e : R.steps.take (j + 1) = R.steps.take j ++ [p] := by
   obtain ⟨hh, rfl⟩ := List.getElem?_eq_some_iff.1 hp
   exact List.take_succ_eq_append_getElem hh
  funext k
  unfold undo1
  rw [e, lastS_app]
  by_cases hk : k = p.1
  ·rw [if_pos (by rw [h1]; exact hk), h2, hk, h1]
  ·rw [if_neg (by rw [h1]; exact hk), if_neg hk]
theorem IsR.back {m at_ : Nat} (h : IsR R c) (hm : c.marks[m]? = some at_) (hg : Gone c m at_ c') : IsR (backQ R m).2 c' := by
 have hm2 : R.marks[m]? = some at_ := by rw [← h.marks]; exact hm
 have hlt : m < R.marks.length := (List.getElem?_eq_some_iff.1 hm2).1
 have hle : at_ ≤ R.steps.length := h.top at_ (List.mem_of_getElem? hm2)
 have e : (backQ R m).2 = { R with steps := R.steps.take at_, marks := R.marks.take (m + 1) } := by
  unfold backQ
  rw [if_neg (by omega), Int.toNat_natCast, List.getD_eq_getElem?_getD, hm2]
  rfl
 rw [e]
 refine ⟨hg.wf, by rw [hg.has]; exact h.has, h.rise, h.keys, fun k => ?_, ?_, fun i x hx => ?_, by rw [hg.marks, h.marks], h.up.sublist (List.take_sublist _ _), fun n hn => ?_⟩
 ·rw [hg.now, h.undo (R.steps.length - at_) at_ (by omega)]
 ·rw [hg.steps, List.length_take, List.length_take, h.len]
 ·rw [hg.steps, List.getElem?_take] at hx
  split at hx
  ·rename_i hi
   obtain ⟨p, hp, h1, h2⟩ := h.st i x hx
   refine ⟨p, ?_, h1, ?_⟩
   ·show (R.steps.take at_)[i]? = _
    rw [List.getElem?_take, if_pos hi]; exact hp
   ·show _ = lastS ((R.steps.take at_).take i) x.key
    rw [List.take_take, Nat.min_eq_left (Nat.le_of_lt hi)]; exact h2
  ·cases hx
 ·show n ≤ (R.steps.take at_).length
  rw [List.length_take, Nat.min_eq_left hle]
  obtain ⟨j, hj⟩ := List.getElem?_of_mem hn
  rw [List.getElem?_take] at hj
  split at hj
  ·rename_i hjm
   rcases Nat.lt_or_ge j m with hlt2 | hge
   ·obtain ⟨p1, rfl⟩ := List.getElem?_eq_some_iff.1 hj
    obtain ⟨p2, rfl⟩ := List.getElem?_eq_some_iff.1 hm2
    exact List.pairwise_iff_getElem.1 h.up j m p1 p2 hlt2
   ·obtain rfl : j = m := by omega
    rw [hm2] at hj
    cases hj
    exact Nat.le_refl _
  ·cases hj
theorem IsR.touched (h : IsR R c) {ss : List (List UInt8)} (hp : ss.Perm (c.has.map fun p => p.1.data.toList)) : (ss.mergeSort leB).map strOfB = touchedQ R := by
 have e1 : ss.mergeSort leB = R.told.map fun p => p.1.data.toList := by
  have hr : (R.told.map fun p => p.1.data.toList).Pairwise fun x y => leB x y = true := by
   refine List.pairwise_map.2 (h.rise.imp fun hab => ?_)
   rw [slt_eq] at hab
   simp only [decide_eq_true_eq] at hab
   simp only [leB, decide_eq_true_eq]
   exact List.le_of_lt hab
  refine List.Perm.eq_of_pairwise (le := fun a b => leB a b = true) (fun a b _ _ x y => leB_anti x y) (leB_pair ss) hr ?_
  refine (List.mergeSort_perm ss leB).trans (hp.trans ?_)
  have := (h.has.map fun p : KB => p.1.data.toList).symm
  rw [List.map_map] at this
  exact this
 rw [e1, List.map_map]
 rfl
theorem filter_map_kb (l : List KB) (f : ByteArray → Bool) (g : KB → Bool) (hfg : ∀ p ∈ l, f p.1 = g p) {β : Type} (u : ByteArray → β) (v : KB → β) (huv : ∀ p ∈ l, u p.1 = v p) : ((l.map (·.1)).filter f).map u = (l.filter g).map v := by
 induction l with
 | nil => rfl
 | cons p l ih =>
  have h1 := ih (fun q hq => hfg q (List.mem_cons_of_mem _ hq)) (fun q hq => huv q (List.mem_cons_of_mem _ hq))
  rw [List.map_cons, List.filter_cons, List.filter_cons, hfg p List.mem_cons_self]
  split
  ·rw [List.map_cons, List.map_cons, h1, huv p List.mem_cons_self]
  ·exact h1
theorem IsR.changes (h : IsR R c) {ss : List (List UInt8)} (hp : ss.Perm (c.has.map fun p => p.1.data.toList)) : (((ss.mergeSort leB).map strOfB).filter (turned c)).map (fun k => (k, hasL c k, c.val k)) = changesQ R := by
 rw [h.touched hp]
 have hh : ∀ p ∈ R.told, hasL c p.1 = p.2 := fun p hp => by
  unfold hasL
  rw [h.atL p.1, atL_of h.rise.nodup (k := p.1) (v := p.2) hp]
  rfl
 refine filter_map_kb _ _ _ (fun p hp => ?_) _ _ (fun p hp => ?_)
 ·unfold turned
  rw [h.val, hh p hp]
 ·rw [h.val, hh p hp]
end
theorem getQ_told {R : RSt} {f : List Nat × Int} {key : ByteArray} : (askQ f R key).told.length ≤ R.told.length + 1 := by
 unfold askQ
 split
 ·omega
 ·split
  ·show (insL R.told key f.1).length ≤ _
   exact withL_len Prod.fst key (key, f.1) R.told false
  ·show R.told.length ≤ _
   omega
theorem askQ_steps {R : RSt} {f : List Nat × Int} {key : ByteArray} : (askQ f R key).steps = R.steps ∧ (askQ f R key).marks = R.marks := by
 unfold askQ
 split
 ·exact ⟨rfl, rfl⟩
 ·split <;> exact ⟨rfl, rfl⟩
structure RSt.small (R : RSt) : Prop where
 told : ∀ p ∈ R.told, p.2.length ≤ 4096
 steps : ∀ p ∈ R.steps, p.2.length ≤ 4096
theorem RSt.small.val {R : RSt} (h : R.small) (k : ByteArray) : (R.val k).length ≤ 4096 := by
 unfold RSt.val
 cases hs : lastS R.steps k with
 | some v => exact h.steps _ (List.mem_reverse.1 (atL_mem hs))
 | none =>
  cases ht : atL R.told k with
  | some v => exact h.told _ (atL_mem ht)
  | none => exact Nat.zero_le _
theorem insL_mem {l : List KB} {k : ByteArray} {v : List Nat} {p : KB} (h : p ∈ insL l k v) : p = (k, v) ∨ p ∈ l := by
 rcases withL_mem Prod.fst h with h | h
 ·exact .inl h
 ·exact .inr h.1
theorem askI_ok {f : List Nat × Int} {R : RSt} {k : ByteArray} (h : askI f R k = 0) (hn : (atL R.told k).isSome = false) : f.2 = 0 ∧ f.1.length ≤ 4096 := by
 unfold askI at h
 rw [if_neg (by rw [hn]; decide)] at h
 split at h
 ·rename_i h2; exact absurd h h2
 ·rename_i h2
  split at h
  ·cases h
  ·exact ⟨by simpa using h2, by omega⟩
theorem RSt.small.ask {R : RSt} (h : R.small) (f : List Nat × Int) (k : ByteArray) : (askQ f R k).small := by
 unfold askQ
 split
 ·exact h
 ·rename_i hn
  split
  ·rename_i h0
   refine ⟨fun p hp => ?_, h.steps⟩
   rcases insL_mem hp with rfl | hp
   ·exact (askI_ok h0 (by simpa using hn)).2
   ·exact h.told p hp
  ·exact ⟨h.told, h.steps⟩
theorem getQ_state {f : List Nat × Int} {R : RSt} {k : ByteArray} : (getQ f R k).2 = if mayI k 0 = 0 then askQ f R k else R := by
 unfold getQ
 by_cases h : mayI k 0 = 0
 ·rw [if_neg (fun h2 => h2 h), if_pos h]
 ·rw [if_pos h, if_neg h]
theorem RSt.small.get {R : RSt} (h : R.small) (f : List Nat × Int) (k : ByteArray) : (getQ f R k).2.small ∧ (getQ f R k).1.1.length ≤ 4096 := by
 constructor
 ·rw [getQ_state]
  split
  ·exact h.ask f k
  ·exact h
 ·unfold getQ
  split
  ·exact Nat.zero_le _
  ·split
   ·exact (h.ask f k).val k
   ·exact Nat.zero_le _
theorem RSt.small.mark {R : RSt} (h : R.small) : (markQ R).2.small := ⟨h.told, h.steps⟩
theorem RSt.small.back {R : RSt} (h : R.small) (m : Int) : (backQ R m).2.small := by
 unfold backQ
 split
 ·exact h
 ·exact ⟨h.told, fun p hp => h.steps p (List.mem_of_mem_take hp)⟩
theorem getQ_may {f : List Nat × Int} {R : RSt} {k : ByteArray} (h : mayI k 0 = 0) : getQ f R k = ((if askI f R k = 0 then (askQ f R k).val k else [], askI f R k), askQ f R k) := by unfold getQ; rw [if_neg (fun h2 => h2 h)]
theorem getQ_bounds {f : List Nat × Int} {R : RSt} {k : ByteArray} : (getQ f R k).2.told.length ≤ R.told.length + 1 ∧ (getQ f R k).2.steps = R.steps ∧ (getQ f R k).2.marks = R.marks := by
 rw [getQ_state]
 split
 ·exact ⟨getQ_told, askQ_steps.1, askQ_steps.2⟩
 ·exact ⟨Nat.le_succ _, rfl, rfl⟩
end Go.Sl
