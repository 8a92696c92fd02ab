import Derived.Test.YtjacolfhlfogkabGreatDoorZQr
namespace Go.Sl
open Go Go.Sort
structure RfD where
 tv : Value
 ts : List PairD
 sv : Value
 ss : List PairD
 mv : Value
 marks : List Nat
structure IsQ (R : RSt) (d : RfD) : Prop where
 ts : d.ts.map PairD.e = R.told
 ss : d.ss.map PairD.e = R.steps
 marks : d.marks = R.marks
 tw : ∀ p ∈ d.ts, SlV p.v p.bs.length ∧ p.bs.length ≤ 4096
 sw : ∀ p ∈ d.ss, SlV p.v p.bs.length ∧ p.bs.length ≤ 4096
 up : R.marks.Pairwise (· ≤ ·)
 top : ∀ m ∈ R.marks, m ≤ R.steps.length
 stv : SlV d.tv d.ts.length
 ssv : SlV d.sv d.ss.length
 smv : SlV d.mv d.marks.length
def atD (l : List PairD) (k : ByteArray) : Option PairD := l.find? fun p => decide (p.key = k)
def atV (l : List PairD) (k : ByteArray) : Value := ((atD l k).map PairD.v).getD (.slice none 0 0)
def atB (l : List PairD) (k : ByteArray) : List Nat := ((atD l k).map PairD.bs).getD []
theorem atD_atL (l : List PairD) (k : ByteArray) : (atD l k).map PairD.bs = atL (l.map PairD.e) k := by
 unfold atD atL
 rw [List.find?_map, Option.map_map]
 rfl
def RfD.nowB (d : RfD) (k : ByteArray) : List Nat := match atD d.ss.reverse k with
 | some p => p.bs
 | none => atB d.ts k
abbrev NoD := ByteArray × Int
def NoD.cells (p : NoD) : List Value := [.string p.1, .int .i64 p.2]
def noF (l : List NoD) (k : ByteArray) : Int := ((l.find? fun p => decide (p.1 = k) && !decide (p.2 = 0)).map (·.2)).getD 0
def refF (hs : List KB) (no : List NoD) (part : Bool) (k : ByteArray) : List Nat × Int :=
 if noF no k ≠ 0 then ([], noF no k) else ((atL hs k).getD [], if (atL hs k).isSome = false ∧ part = true then 74 else 0)
section
variable {R : RSt} {d : RfD} {k : ByteArray}
theorem IsQ.told (h : IsQ R d) (k : ByteArray) : (atD d.ts k).isSome = (atL R.told k).isSome := by
 rw [← h.ts, ← atD_atL, Option.isSome_map]
theorem IsQ.val (h : IsQ R d) (k : ByteArray) : d.nowB k = R.val k := by
 unfold RfD.nowB RSt.val atB lastS
 rw [← h.ts, ← h.ss, ← List.map_reverse, ← atD_atL, ← atD_atL]
 cases atD d.ss.reverse k <;> rfl
theorem pairsE_len {l : List PairD} {m : List KB} (h : l.map PairD.e = m) : l.length = m.length := by rw [← h, List.length_map]
theorem IsQ.mark (h : IsQ R d) {mv : Value} (hs : SlV mv (d.marks.length + 1)) : IsQ (markQ R).2 { d with mv := mv, marks := d.marks ++ [d.ss.length] } := by
 have hsl := pairsE_len h.ss
 refine ⟨h.ts, h.ss, ?_, h.tw, h.sw, ?_, fun m hm => ?_, h.stv, h.ssv, ?_⟩
 ·show d.marks ++ [d.ss.length] = R.marks ++ [R.steps.length]
  rw [h.marks, hsl]
 ·exact List.pairwise_append.2 ⟨h.up, List.pairwise_singleton _ _, fun a ha b hb => by rw [List.mem_singleton.1 hb]; exact h.top a ha⟩
 ·rcases List.mem_append.1 hm with hm | hm
  ·exact h.top m hm
  ·rw [List.mem_singleton.1 hm]; exact Nat.le_refl _
 ·show SlV mv (d.marks ++ [_]).length
  rw [List.length_append, List.length_singleton]
  exact hs
end
end Go.Sl
namespace Go.Sl
open Go
structure SrcH (P : Program) (F : List HP) (src : Value) (key : ByteArray) (T : List HP) (f : List Nat × Int) (Φ : List HP → Prop) : Prop where
 out : ∃ t u g r, src = .iface t u ∧ (∀ w, (method (P.types.size + Made.depth) t u "Find").run P w = .ok (g, r) w) ∧ callOk P g = true ∧
  ∀ (L : List HP), SpecF P g [r, .string key] (L ++ F) T (fun v L' => ∃ x D T', Φ T' ∧ v = .tuple #[x, .int .i64 f.2] ∧ (f.2 = 0 → RdS (D ++ T') x f.1.length (bvs f.1)) ∧ L' = D ++ T')
theorem SrcG.h {P : Program} {F : List HP} {src : Value} {find : ByteArray → List Nat × Int} (h : SrcG P F src find) (key : ByteArray) : SrcH P F src key [] (find key) (· = []) := by
 obtain ⟨t, u, f, r, h1, h2, h3, h4⟩ := h.out
 refine ⟨t, u, f, r, h1, h2, h3, fun L => (h4 key L).turn fun v L' hv => ?_⟩
 obtain ⟨x, hx, rfl, rfl⟩ := hv
 exact ⟨_, ⟨x, [own 1 x (find key).1.length (bvs (find key).1)], [], rfl, rfl, fun _ => own_rd hx (by rw [bvs_len, Nat.mul_one]), by rw [List.append_nil]⟩, Ent.refl _⟩
def asksQ (R : RSt) (key : ByteArray) : Bool := decide (mayI key 0 = 0) && !(atL R.told key).isSome
def behind (R : RSt) (key : ByteArray) (T : List HP) (Φ : List HP → Prop) (T' : List HP) : Prop := if asksQ R key then Φ T' else T' = T
theorem behind_nil {R : RSt} {key : ByteArray} {T' : List HP} (h : behind R key [] (· = []) T') : T' = [] := by
 unfold behind at h
 split at h <;> exact h
theorem Ent.dropR (D T : List HP) : Ent (D ++ T) T := fun w F hs => by
 rw [List.append_assoc] at hs
 exact hs.right
theorem swapE (A B : List HP) : Ent (A ++ B) (B ++ A) := Ent.perm List.perm_append_comm
end Go.Sl
