import Derived.Test.YtnbcbdlbejdkpaaGreatDoorZQr
import Derived.Lib.SlBytesConst
/-
  The document's state as data: its pieces and what they stand for. A library of this session's own.
-/
namespace Go.Sl
open Go Go.Sort
structure RfD where
  tv : Value
  ts : List PairD
  sv : Value
  ss : List PairD
  mv : Value
  marks : List Nat
def pdS (l : List PairD) : List HP := l.map fun p => sh p.v p.bs
def RfD.pieces (T s : Nat) (hv : Value) (part : Bool) (nv : Value) (bad : Int) (d : RfD) : List HP :=
  cel s T [hv, .bool part, nv, d.tv, d.sv, d.mv, .int .i64 bad] :: own 2 d.tv d.ts.length (pairsC d.ts) :: own 2 d.sv d.ss.length (pairsC d.ss) :: own 1 d.mv d.marks.length (d.marks.map fun n : Nat => Value.int .i64 n) :: (pdS d.ts ++ pdS d.ss)
structure IsQ (R : RSt) (d : RfD) : Prop where
  ts : d.ts.map PairD.e = R.told
  ss : d.ss.map PairD.e = R.steps
  marks : d.marks = R.marks
  tw : ∀ p ∈ d.ts, SlV p.v p.bs.length ∧ p.bs.length ≤ 4096
  sw : ∀ p ∈ d.ss, SlV p.v p.bs.length ∧ p.bs.length ≤ 4096
  up : R.marks.Pairwise (· ≤ ·)
  top : ∀ m ∈ R.marks, m ≤ R.steps.length
  stv : SlV d.tv d.ts.length
  ssv : SlV d.sv d.ss.length
  smv : SlV d.mv d.marks.length
def refR (T s : Nat) (hv : Value) (part : Bool) (nv : Value) (R : RSt) : HP := exL (IsQ R) fun d => d.pieces T s hv part nv R.bad
def atD (l : List PairD) (k : ByteArray) : Option PairD := l.find? fun p => decide (p.key = k)
def atV (l : List PairD) (k : ByteArray) : Value := ((atD l k).map PairD.v).getD (.slice none 0 0)
def atB (l : List PairD) (k : ByteArray) : List Nat := ((atD l k).map PairD.bs).getD []
theorem atD_atL (l : List PairD) (k : ByteArray) : (atD l k).map PairD.bs = atL (l.map PairD.e) k := by
  unfold atD atL
  rw [List.find?_map, Option.map_map]
  rfl
theorem atD_mem {l : List PairD} {k : ByteArray} {p : PairD} (h : atD l k = some p) : p ∈ l ∧ p.key = k := ⟨List.mem_of_find?_eq_some h, by have := List.find?_some h; simpa using this⟩
theorem atD_step {l : List PairD} {i : Nat} {p : PairD} (h : l[i]? = some p) (k : ByteArray) : atD (l.drop i) k = if p.key = k then some p else atD (l.drop (i + 1)) k := by
  obtain ⟨h1, rfl⟩ := List.getElem?_eq_some_iff.1 h
  rw [List.drop_eq_getElem_cons h1]
  unfold atD
  rw [List.find?_cons]
  by_cases hk : l[i].key = k <;> simp [hk]
theorem atD_back {l : List PairD} {i : Nat} {p : PairD} (h : l[i]? = some p) (k : ByteArray) : atD (l.take (i + 1)).reverse k = if p.key = k then some p else atD (l.take i).reverse k := by
  obtain ⟨h1, rfl⟩ := List.getElem?_eq_some_iff.1 h
  rw [List.take_succ_eq_append_getElem h1, List.reverse_append, List.reverse_singleton, List.singleton_append]
  unfold atD
  rw [List.find?_cons]
  by_cases hk : l[i].key = k <;> simp [hk]
def RfD.nowV (d : RfD) (k : ByteArray) : Value := match atD d.ss.reverse k with
  | some p => p.v
  | none => atV d.ts k
def RfD.nowB (d : RfD) (k : ByteArray) : List Nat := match atD d.ss.reverse k with
  | some p => p.bs
  | none => atB d.ts k
/-- Whom a source refuses. -/
abbrev NoD := ByteArray × Int
def NoD.cells (p : NoD) : List Value := [.string p.1, .int .i64 p.2]
def noC (l : List NoD) : List Value := l.flatMap NoD.cells
def noF (l : List NoD) (k : ByteArray) : Int := ((l.find? fun p => decide (p.1 = k) && !decide (p.2 = 0)).map (·.2)).getD 0
theorem noC_len (l : List NoD) : (noC l).length = l.length * 2 := by
  unfold noC
  induction l with
  | nil => rfl
  | cons x l ih =>
    rw [List.flatMap_cons, List.length_append, ih]
    show 2 + l.length * 2 = (l.length + 1) * 2
    omega
theorem noC_get {l : List NoD} {i : Nat} {p : NoD} (h : l[i]? = some p) : (noC l)[i * 2]? = some (.string p.1) ∧ (noC l)[i * 2 + 1]? = some (.int .i64 p.2) := by
  induction l generalizing i with
  | nil => simp at h
  | cons y l ih =>
    cases i with
    | zero => simp at h; subst h; exact ⟨rfl, rfl⟩
    | succ i =>
      have h2 := ih (i := i) (by simpa using h)
      have e : ∀ j, (noC (y :: l))[j + 2]? = (noC l)[j]? := fun j => by
        show (Value.string y.1 :: Value.int .i64 y.2 :: noC l)[j + 2]? = _
        simp
      rw [show (i + 1) * 2 = i * 2 + 2 by omega, e, show i * 2 + 2 + 1 = (i * 2 + 1) + 2 by omega, e]
      exact h2
theorem noF_step {l : List NoD} {i : Nat} {p : NoD} (h : l[i]? = some p) (k : ByteArray) : noF (l.drop i) k = if p.1 = k ∧ p.2 ≠ 0 then p.2 else noF (l.drop (i + 1)) k := by
  obtain ⟨h1, rfl⟩ := List.getElem?_eq_some_iff.1 h
  rw [List.drop_eq_getElem_cons h1]
  unfold noF
  rw [List.find?_cons]
  by_cases hk : l[i].1 = k <;> by_cases h0 : l[i].2 = 0 <;> simp [hk, h0]
/-- What the document's source tells. -/
def refF (hs : List KB) (no : List NoD) (part : Bool) (k : ByteArray) : List Nat × Int :=
  if noF no k ≠ 0 then ([], noF no k) else ((atL hs k).getD [], if (atL hs k).isSome = false ∧ part = true then 74 else 0)
section
variable {R : RSt} {d : RfD} {k : ByteArray}
theorem IsQ.told (h : IsQ R d) (k : ByteArray) : (atD d.ts k).isSome = (atL R.told k).isSome := by
  rw [← h.ts, ← atD_atL, Option.isSome_map]
theorem IsQ.val (h : IsQ R d) (k : ByteArray) : d.nowB k = R.val k := by
  unfold RfD.nowB RSt.val atB lastS
  rw [← h.ts, ← h.ss, ← List.map_reverse, ← atD_atL, ← atD_atL]
  cases atD d.ss.reverse k <;> rfl
theorem atV_of {l : List PairD} {φ : Value → List Nat → Prop} (h0 : φ (.slice none 0 0) []) (h : ∀ p ∈ l, φ p.v p.bs) (k : ByteArray) : φ (atV l k) (atB l k) := by
  unfold atV atB
  cases hc : atD l k with
  | none => exact h0
  | some p => exact h p (atD_mem hc).1
theorem nowV_of {d : RfD} {φ : Value → List Nat → Prop} (h0 : φ (.slice none 0 0) []) (h1 : ∀ p ∈ d.ts, φ p.v p.bs) (h2 : ∀ p ∈ d.ss, φ p.v p.bs) (k : ByteArray) : φ (d.nowV k) (d.nowB k) := by
  unfold RfD.nowV RfD.nowB
  cases hc : atD d.ss.reverse k with
  | none => exact atV_of h0 h1 k
  | some p => exact h2 p (List.mem_reverse.1 (atD_mem hc).1)
theorem pdS_rd {l : List PairD} {M : List HP} {p : PairD} (h : p ∈ l) (hv : SlV p.v p.bs.length) : RdS (pdS l ++ M) p.v p.bs.length (bvs p.bs) := by
  induction l with
  | nil => cases h
  | cons q l ih =>
    rcases List.mem_cons.1 h with rfl | h
    · exact sh_rd hv
    · exact (ih h).tl
theorem RfD.rd {T s : Nat} {hv nv : Value} {part : Bool} {bad : Int} (h : IsQ R d) (k : ByteArray) :
    RdS (d.pieces T s hv part nv bad) (d.nowV k) (d.nowB k).length (bvs (d.nowB k)) ∧ (d.nowB k).length ≤ 4096 := by
  refine nowV_of (φ := fun v bs => RdS (d.pieces T s hv part nv bad) v bs.length (bvs bs) ∧ bs.length ≤ 4096) ⟨.nil, Nat.zero_le _⟩ (fun p hp => ?_) (fun p hp => ?_) k
  · exact ⟨.tl (.tl (.tl (.tl (pdS_rd hp (h.tw p hp).1)))), (h.tw p hp).2⟩
  · have := pdS_rd (M := []) hp (h.sw p hp).1
    rw [List.append_nil] at this
    exact ⟨.tl (.tl (.tl (.tl (this.right _)))), (h.sw p hp).2⟩
theorem RfD.rdT {T s : Nat} {hv nv : Value} {part : Bool} {bad : Int} (h : IsQ R d) {p : PairD} (hp : p ∈ d.ts) : RdS (d.pieces T s hv part nv bad) p.v p.bs.length (bvs p.bs) := .tl (.tl (.tl (.tl (pdS_rd hp (h.tw p hp).1))))
theorem pdS_with {key : ByteArray} {new : PairD} : ∀ {l : List PairD} {M : List HP}, Ent (pdS l ++ M) (pdS (withL PairD.key key new true l) ++ M) ∧ Ent (sh new.v new.bs :: (pdS l ++ M)) (pdS (withL PairD.key key new false l) ++ M)
  | [], M => ⟨Ent.refl _, Ent.refl _⟩
  | p :: l, M => by
    have h1 : ∀ M, Ent (pdS (p :: l) ++ M) (pdS ((if p.key = key then [] else [p]) ++ withL PairD.key key new true l) ++ M) := fun M => by
      split
      · exact (Ent.drop _).trans (pdS_with (M := M)).1
      · exact Ent.cons _ (pdS_with (M := M)).1
    refine ⟨h1 M, ?_⟩
    unfold withL
    cases hs : slt p.key key with
    | true =>
      simp only [Bool.not_true, Bool.not_false, Bool.and_false, Bool.false_eq_true, if_false, List.nil_append, Bool.or_false]
      split
      · exact ((Ent.cons _ (Ent.drop _)).trans (pdS_with (M := M)).2)
      · exact (Ent.perm (List.Perm.swap _ _ _)).trans (Ent.cons _ (pdS_with (M := M)).2)
    | false =>
      simp only [Bool.not_false, Bool.and_self, if_true, Bool.or_true]
      exact Ent.cons _ (h1 M)
theorem pairsE_len {l : List PairD} {m : List KB} (h : l.map PairD.e = m) : l.length = m.length := by rw [← h, List.length_map]
/-- The document's state, once it was asked. -/
theorem IsQ.tell {x : Value} {v : List Nat} (h : IsQ R d) (hx : SlV x v.length) (hv : v.length ≤ 4096) (tv : Value) (ht : SlV tv (withL PairD.key k ⟨k, x, v⟩ false d.ts).length) : IsQ { R with told := insL R.told k v } { d with tv := tv, ts := withL PairD.key k ⟨k, x, v⟩ false d.ts } := by
  refine ⟨?_, h.ss, h.marks, fun p hp => ?_, h.sw, h.up, h.top, ht, h.ssv, h.smv⟩
  · show (withL PairD.key k ⟨k, x, v⟩ false d.ts).map PairD.e = insL R.told k v
    rw [withL_map PairD.key Prod.fst PairD.e (fun _ => rfl), h.ts]
    rfl
  · rcases withL_mem PairD.key hp with rfl | ⟨h1, _⟩
    · exact ⟨hx, hv⟩
    · exact h.tw p h1
theorem IsQ.bad (h : IsQ R d) (b : Int) : IsQ { R with bad := b } d := ⟨h.ts, h.ss, h.marks, h.tw, h.sw, h.up, h.top, h.stv, h.ssv, h.smv⟩
theorem IsQ.put {x : Value} {v : List Nat} (h : IsQ R d) (hx : SlV x v.length) (hv : v.length ≤ 4096) {sv : Value} (hs : SlV sv (d.ss.length + 1)) : IsQ { R with steps := R.steps ++ [(k, v)] } { d with sv := sv, ss := d.ss ++ [⟨k, x, v⟩] } := by
  refine ⟨h.ts, ?_, h.marks, h.tw, fun p hp => ?_, h.up, fun m hm => ?_, h.stv, ?_, h.smv⟩
  · show (d.ss ++ [_]).map PairD.e = _
    rw [List.map_append, h.ss]
    rfl
  · rcases List.mem_append.1 hp with hp | hp
    · exact h.sw p hp
    · rw [List.mem_singleton.1 hp]; exact ⟨hx, hv⟩
  · show m ≤ (R.steps ++ [(k, v)]).length
    have := h.top m hm
    rw [List.length_append]
    omega
  · show SlV sv (d.ss ++ [_]).length
    rw [List.length_append, List.length_singleton]
    exact hs
theorem IsQ.mark (h : IsQ R d) {mv : Value} (hs : SlV mv (d.marks.length + 1)) : IsQ (markQ R).2 { d with mv := mv, marks := d.marks ++ [d.ss.length] } := by
  have hsl := pairsE_len h.ss
  refine ⟨h.ts, h.ss, ?_, h.tw, h.sw, ?_, fun m hm => ?_, h.stv, h.ssv, ?_⟩
  · show d.marks ++ [d.ss.length] = R.marks ++ [R.steps.length]
    rw [h.marks, hsl]
  · exact List.pairwise_append.2 ⟨h.up, List.pairwise_singleton _ _, fun a ha b hb => by rw [List.mem_singleton.1 hb]; exact h.top a ha⟩
  · rcases List.mem_append.1 hm with hm | hm
    · exact h.top m hm
    · rw [List.mem_singleton.1 hm]; exact Nat.le_refl _
  · show SlV mv (d.marks ++ [_]).length
    rw [List.length_append, List.length_singleton]
    exact hs
theorem IsQ.back {m at_ : Nat} (h : IsQ R d) (hm : R.marks[m]? = some at_) {sv mv : Value} (hs : SlV sv at_) (hmv : SlV mv (m + 1)) : IsQ (backQ R m).2 { d with sv := sv, ss := d.ss.take at_, mv := mv, marks := d.marks.take (m + 1) } := by
  have hsl := pairsE_len h.ss
  have hlt : m < R.marks.length := (List.getElem?_eq_some_iff.1 hm).1
  have hle : at_ ≤ R.steps.length := h.top at_ (List.mem_of_getElem? hm)
  have e : (backQ R m).2 = { R with steps := R.steps.take at_, marks := R.marks.take (m + 1) } := by
    unfold backQ
    rw [if_neg (by omega), Int.toNat_natCast, List.getD_eq_getElem?_getD, hm]
    rfl
  rw [e]
  refine ⟨h.ts, ?_, ?_, h.tw, fun p hp => h.sw p (List.mem_of_mem_take hp), h.up.sublist (List.take_sublist _ _), fun n hn => ?_, h.stv, ?_, ?_⟩
  · show (d.ss.take at_).map PairD.e = R.steps.take at_
    rw [List.map_take, h.ss]
  · show d.marks.take (m + 1) = R.marks.take (m + 1)
    rw [h.marks]
  · show n ≤ (R.steps.take at_).length
    rw [List.length_take, Nat.min_eq_left hle]
    obtain ⟨j, hj⟩ := List.getElem?_of_mem hn
    rw [List.getElem?_take] at hj
    split at hj
    · rename_i hjm
      rcases Nat.lt_or_ge j m with hlt2 | hge
      · obtain ⟨p1, rfl⟩ := List.getElem?_eq_some_iff.1 hj
        obtain ⟨p2, rfl⟩ := List.getElem?_eq_some_iff.1 hm
        exact List.pairwise_iff_getElem.1 h.up j m p1 p2 hlt2
      · obtain rfl : j = m := by omega
        rw [hm] at hj
        cases hj
        exact Nat.le_refl _
    · cases hj
  · show SlV sv (d.ss.take at_).length
    rw [List.length_take, Nat.min_eq_left (by omega)]
    exact hs
  · show SlV mv (d.marks.take (m + 1)).length
    rw [List.length_take, h.marks, Nat.min_eq_left (by omega)]
    exact hmv
theorem pdS_app (a b : List PairD) : pdS (a ++ b) = pdS a ++ pdS b := List.map_append
theorem pdS_take {l : List PairD} {i : Nat} : Ent (pdS l) (pdS (l.take i)) := by
  have e : pdS l = pdS (l.take i) ++ pdS (l.drop i) := by
    unfold pdS
    rw [← List.map_append, List.take_append_drop]
  rw [e]
  exact Ent.dropL _ _
theorem pairsC_take (l : List PairD) (i : Nat) : (pairsC l).take (i * 2) = pairsC (l.take i) := by
  induction l generalizing i with
  | nil => simp [pairsC]
  | cons y l ih =>
    cases i with
    | zero => rw [Nat.zero_mul, List.take_zero, List.take_zero]; rfl
    | succ i =>
      show (y.cells ++ pairsC l).take ((i + 1) * 2) = y.cells ++ pairsC (l.take i)
      have e : (i + 1) * 2 = y.cells.length + i * 2 := by
        show (i + 1) * 2 = 2 + i * 2
        omega
      rw [e, List.take_length_add_append, ih]
end
end Go.Sl
/-
  A source that may turn when it is asked. A library of this session's own.
-/
namespace Go.Sl
open Go
/-- Asked at a key, the pieces T become such as Φ tells, and so it answers. -/
structure SrcH (P : Program) (F : List HP) (src : Value) (key : ByteArray) (T : List HP) (f : List Nat × Int) (Φ : List HP → Prop) : Prop where
  out : ∃ t u g r, src = .iface t u ∧ (∀ w, (method (P.types.size + Made.depth) t u "Find").run P w = .ok (g, r) w) ∧ callOk P g = true ∧
    ∀ (L : List HP), SpecF P g [r, .string key] (L ++ F) T (fun v L' => ∃ x D T', Φ T' ∧ v = .tuple #[x, .int .i64 f.2] ∧ (f.2 = 0 → RdS (D ++ T') x f.1.length (bvs f.1)) ∧ L' = D ++ T')
theorem SrcG.h {P : Program} {F : List HP} {src : Value} {find : ByteArray → List Nat × Int} (h : SrcG P F src find) (key : ByteArray) : SrcH P F src key [] (find key) (· = []) := by
  obtain ⟨t, u, f, r, h1, h2, h3, h4⟩ := h.out
  refine ⟨t, u, f, r, h1, h2, h3, fun L => (h4 key L).turn fun v L' hv => ?_⟩
  obtain ⟨x, hx, rfl, rfl⟩ := hv
  exact ⟨_, ⟨x, [own 1 x (find key).1.length (bvs (find key).1)], [], rfl, rfl, fun _ => own_rd hx (by rw [bvs_len, Nat.mul_one]), by rw [List.append_nil]⟩, Ent.refl _⟩
theorem SrcH.left {P : Program} {F : List HP} {src : Value} {key : ByteArray} {T : List HP} {Φ : List HP → Prop} {f : List Nat × Int} (h : SrcH P F src key T f Φ) (L : List HP) : SrcH P (L ++ F) src key T f Φ := by
  obtain ⟨t, u, g, r, h1, h2, h3, h4⟩ := h.out
  exact ⟨t, u, g, r, h1, h2, h3, fun M => by rw [← List.append_assoc]; exact h4 (M ++ L)⟩
/-- Is the source asked? -/
def asksQ (R : RSt) (key : ByteArray) : Bool := decide (mayI key 0 = 0) && !(atL R.told key).isSome
def behind (R : RSt) (key : ByteArray) (T : List HP) (Φ : List HP → Prop) (T' : List HP) : Prop := if asksQ R key then Φ T' else T' = T
theorem behind_nil {R : RSt} {key : ByteArray} {T' : List HP} (h : behind R key [] (· = []) T') : T' = [] := by
  unfold behind at h
  split at h <;> exact h
theorem Ent.dropR (D T : List HP) : Ent (D ++ T) T := fun w F hs => by
  rw [List.append_assoc] at hs
  exact hs.right
theorem swapE (A B : List HP) : Ent (A ++ B) (B ++ A) := Ent.perm List.perm_append_comm
end Go.Sl
/-
  Bytes of a constant: the block bears a mark from then on. A library of this session's own.
-/
namespace Go.Sl
open Go
section
variable {P : Program} {F L : List HP}
theorem DoesG.constB {t e : TypeId} (ht : P.underlying t = some (.slice e)) (he : P.underlying e = some (.int .u8)) {b n c : Nat} {cs : List Value} {k : Value → List HP → Prop}
    (hk : k (.slice (some ⟨b, 0, none⟩) n c) (blk b (.cells ⟨cs⟩ e (cs.length, cs.length + 1)) :: L)) : DoesG P F (convert t t (.slice (some ⟨b, 0, none⟩) n c)) (cel b e cs :: L) k := ⟨fun w h => by
  have hheap : w.heap[b]? = some (.cells ⟨cs⟩ e (0, 0)) := Sat.blk_heap h
  have hsh : w.shape? b = some (e, cs.length) := by
    unfold World.shape?
    rw [hheap]
    rfl
  refine ⟨_, _, w.freeze ⟨b, cs.length, none⟩ 1, ?_, ?_, ?_, hk⟩
  · simp [convert, run_underlying ht, run_underlying he, markStringish, hsh]
  · unfold World.freeze
    rw [if_neg (by decide)]
    exact ⟨rfl, rfl, rfl, by simp⟩
  · refine Sat.put h ?_ ?_
    · unfold World.freeze
      rw [if_neg (by decide)]
      simp [Array.getElem?_modify, hheap]
    · intro k hk
      unfold World.freeze
      rw [if_neg (by decide)]
      simp only [Array.getElem?_modify]
      rw [if_neg (fun e => hk e.symm)]⟩
variable {sz n m : Nat} {v x : Value} {cs ys : List Value}
theorem append_satC {t e bs : Nat} (E : ElT P t e sz bs) (ty : TypeId) {w : World} (hs : Sat w (own sz v n cs :: L)) (hx : RdS (own sz v n cs :: L) x m ys) (hm : ys.length = m * sz) (h1 : ∀ u ∈ ys, u.oneCell' = true)
    (hmax : n + m ≤ maxLen) (hb : (n + m) * bs ≤ 281474976710656 ∧ ∀ g cap, v = .slice (some ⟨g, 0, none⟩) n cap → Builtin.nextslicecap (n + m) cap * bs ≤ 281474976710656) :
    ∃ v' w', (Builtin.append_ #[t, t] ty #[v, x]).run P w = .ok v' w' ∧ Ext w w' ∧ Sat w' (own sz v' (n + m) (cs ++ ys) :: L) ∧ SlV v' (n + m) ∧ (v' = .slice none 0 0 ↔ v = .slice none 0 0 ∧ m = 0) := by
  obtain ⟨i, z, hi, hz, hsz, hby, hzs⟩ := E.inf
  subst hsz
  subst hby
  have hs63 : ((n + m : Nat) : Int) ≤ 9223372036854775807 := by simp only [maxLen] at hmax; omega
  rcases hs.ownV with ⟨rfl, rfl⟩ | ⟨g, cap, rfl, hn⟩
  · obtain ⟨_, rfl, hL⟩ := hs.own_nil_open
    cases hx with
    | nil =>
      refine ⟨.slice none 0 0, w, ?_, Ext.refl w, Sat.own_nil hL, .inl ⟨rfl, rfl⟩, by simp⟩
      simp [Builtin.append_, run_und E.und, sizeOf, typeInfo, hi, Builtin.lenOf, Builtin.firstCells]
    | zero a cap =>
      refine ⟨.slice none 0 0, w, ?_, Ext.refl w, Sat.own_nil hL, .inl ⟨rfl, rfl⟩, by simp⟩
      simp [Builtin.append_, run_und E.und, sizeOf, typeInfo, hi, Builtin.lenOf, Builtin.firstCells, loadCells, loadCellsFrom]
    | mk b o m cap ys hn h =>
      have hnews : ∀ j u, ys[j]? = some u → w.cell? ((⟨b, o, none⟩ : Addr).add j) = some u := fun j u hj => by rw [add_none]; exact h w hs j u hj
      by_cases hm0 : m = 0
      · subst hm0
        obtain rfl : ys = [] := List.eq_nil_of_length_eq_zero (by simpa using hm)
        refine ⟨.slice none 0 0, w, ?_, Ext.refl w, Sat.own_nil hL, .inl ⟨rfl, rfl⟩, by simp⟩
        simp [Builtin.append_, run_und E.und, sizeOf, typeInfo, hi, Builtin.lenOf, Builtin.firstCells, loadCells, loadCellsFrom]
      · have hr := run_append_nil (P := P) w t ty e i z E.und hi hz ⟨b, o, none⟩ m cap ys hm hnews (by omega) (by omega) (by have h := hb.1; simp only [Nat.zero_add] at h; omega)
        obtain ⟨r, hr1, hr2⟩ := zeroCells_list z.cells (grownCap w m 0 e - m)
        have hge := grownCap_ge w m 0 e
        have hle := grownCap_le_maxLen w m 0 e (by omega)
        refine ⟨_, _, hr, (Ext.drew w).trans (Ext.alloc _ _), ?_, .inr ⟨_, _, by rw [Nat.zero_add], by omega⟩, by simp [hm0]⟩
        have hal := hL.drew.alloc (.cells (ys.toArray ++ Builtin.zeroCells z.cells (grownCap w m 0 e - m)) e)
        rw [hr1] at hal ⊢
        simp only [List.nil_append, Nat.zero_add]
        refine Sat.own_of (t := e) (rest := r) (by simpa using hal) hge hle hm ?_
        rw [List.length_append, hm, hr2, hzs, ← Nat.add_mul]
        congr 1; omega
  · obtain ⟨bt, rest, hnc, hcm, hcl, hcap, hB⟩ := hs.own_open
    have hheap := hB.blk_heap
    cases hx with
    | nil =>
      refine ⟨_, w, ?_, Ext.refl w, by simpa using hs, .inr ⟨g, cap, rfl, hn⟩, by simp⟩
      simp [Builtin.append_, run_und E.und, sizeOf, typeInfo, hi, Builtin.lenOf, Builtin.firstCells, hn, storeCells]
    | zero a xcap =>
      refine ⟨_, w, ?_, Ext.refl w, by simpa using hs, .inr ⟨g, cap, rfl, hn⟩, by simp⟩
      simp [Builtin.append_, run_und E.und, sizeOf, typeInfo, hi, Builtin.lenOf, Builtin.firstCells, loadCells, loadCellsFrom, hn, storeCells]
    | mk b o m xcap ys hxn h =>
      have hnews : ∀ j u, ys[j]? = some u → w.cell? ((⟨b, o, none⟩ : Addr).add j) = some u := fun j u hj => by rw [add_none]; exact h w hs j u hj
      by_cases hroom : n + m ≤ cap
      · have hfit : n * i.size + 0 + ys.length ≤ (cs ++ rest).length := by rw [hm, hcap, Nat.add_zero, ← Nat.add_mul]; exact Nat.mul_le_mul_right _ hroom
        obtain ⟨w', hr, hxt, hb', hk⟩ := storeCells_run P g (n * i.size) bt ys 0 (cs ++ rest) w hheap hfit h1
        have hf := run_firstCells_some (P := P) w i.size m ⟨b, o, none⟩ m xcap ys hm hnews
        refine ⟨.slice (some ⟨g, 0, none⟩) (n + m) cap, w', ?_, hxt, ?_, .inr ⟨g, cap, rfl, hroom⟩, by simp⟩
        · have hadd : (⟨g, 0, none⟩ : Addr).add (n * i.size) = ⟨g, n * i.size, none⟩ := by rw [add_none, Nat.zero_add]
          simp [Builtin.append_, run_und E.und, sizeOf, typeInfo, hi, Builtin.lenOf, hroom, hf, hadd, hr]
        · have hB' := hB.put hb' hk
          have e1 : (cs ++ rest).take (n * i.size + 0) ++ ys ++ (cs ++ rest).drop (n * i.size + 0 + ys.length) = (cs ++ ys) ++ rest.drop ys.length := by
            rw [Nat.add_zero, ← hcl, List.take_left, ← List.drop_drop, List.drop_left]
          rw [e1] at hB'
          refine hB'.own_of hroom hcm (by rw [List.length_append, hcl, hm, Nat.add_mul]) ?_
          have e2 : (rest.drop ys.length).length = rest.length - ys.length := List.length_drop
          have e3 : cs.length + rest.length = cap * i.size := by rw [← List.length_append]; exact hcap
          have e4 : ys.length ≤ rest.length := by
            have : n * i.size + ys.length ≤ cap * i.size := by rw [← hcap]; simpa using hfit
            omega
          simp only [List.length_append, e2]
          omega
      · have holds : ∀ j u, cs[j]? = some u → w.cell? ((⟨g, 0, none⟩ : Addr).add j) = some u := fun j u hj => by
          rw [add_none, Nat.zero_add]
          refine cell_of_heap hheap ?_
          rw [List.getElem?_append_left (List.getElem?_eq_some_iff.1 hj).1]
          exact hj
        have hr := run_append_grow (P := P) w t ty e i z E.und hi hz ⟨g, 0, none⟩ n cap cs hcl holds ⟨b, o, none⟩ m xcap ys hm hnews (by omega) hs63 (hb.2 _ _ rfl)
        obtain ⟨r, hr1, hr2⟩ := zeroCells_list z.cells (grownCap w (n + m) cap e - (n + m))
        have hge := grownCap_ge w (n + m) cap e
        have hle := grownCap_le_maxLen w (n + m) cap e hmax
        refine ⟨_, _, hr, (Ext.drew w).trans (Ext.alloc _ _), ?_, .inr ⟨_, _, rfl, hge⟩, by simp⟩
        have hal := hB.tail.drew.alloc (.cells (cs.toArray ++ ys.toArray ++ Builtin.zeroCells z.cells (grownCap w (n + m) cap e - (n + m))) e)
        rw [hr1] at hal ⊢
        refine Sat.own_of (t := e) (rest := r) (by simpa using hal) hge hle (by rw [List.length_append, hcl, hm, Nat.add_mul]) ?_
        rw [List.length_append, List.length_append, hcl, hm, hr2, hzs, ← Nat.add_mul, ← Nat.add_mul]
        congr 1; omega
theorem app_ownC {t e bs : Nat} (E : ElT P t e sz bs) (ty : TypeId) {k : Value → List HP → Prop} (hx : RdS (own sz v n cs :: (L ++ F)) x m ys) (hm : ys.length = m * sz) (h1 : ∀ u ∈ ys, u.oneCell' = true)
    (hmax : n + m ≤ maxLen) (hb : (n + m) * bs ≤ 281474976710656 ∧ ∀ g cap, v = .slice (some ⟨g, 0, none⟩) n cap → Builtin.nextslicecap (n + m) cap * bs ≤ 281474976710656) (hk : ∀ v', SlV v' (n + m) → (cs ++ ys).length = (n + m) * sz → (v' = .slice none 0 0 ↔ v = .slice none 0 0 ∧ m = 0) → k v' (own sz v' (n + m) (cs ++ ys) :: L)) :
    DoesG P F (Builtin.append_ #[t, t] ty #[v, x]) (own sz v n cs :: L) k := ⟨fun w hs => by
  obtain ⟨v', w', hr, hxt, hs', hv, hnil⟩ := append_satC E ty hs hx hm h1 hmax hb
  exact ⟨v', _, w', hr, hxt, hs', hk v' hv hs'.ownL hnil⟩⟩
theorem noC_set {l : List NoD} {i : Nat} {p : NoD} (h : l[i]? = some p) : (noC l).take (i * 2 + 1) ++ [.int .i64 0] ++ (noC l).drop (i * 2 + 1 + 1) = noC (l.set i (p.1, 0)) := by
  unfold noC
  induction l generalizing i with
  | nil => simp at h
  | cons y l ih =>
    cases i with
    | zero =>
      simp only [List.getElem?_cons_zero, Option.some.injEq] at h
      subst h
      rfl
    | succ i =>
      have h2 := ih (i := i) (by simpa using h)
      rw [List.set_cons_succ, List.flatMap_cons, List.flatMap_cons, ← h2]
      have e1 : (i + 1) * 2 + 1 = (NoD.cells y).length + (i * 2 + 1) := by
        show (i + 1) * 2 + 1 = 2 + (i * 2 + 1)
        omega
      have e2 : (i + 1) * 2 + 1 + 1 = (NoD.cells y).length + (i * 2 + 1 + 1) := by rw [e1]; omega
      rw [e2, e1, List.take_length_add_append, List.drop_length_add_append]
      simp
end
end Go.Sl
