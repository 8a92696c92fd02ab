import Derived.Test.YtmfonkklmndhjaaGreatDoorZOg
import Derived.Test.YtmfonkklmndhjaaGreatDoorZQd
namespace Go.Sl
open Go
theorem SpecF.also {P : Program} {f : FuncId} {args : List Value} {F pre : List HP} {R : Value → List HP → Prop} {φ : Prop} (h : SpecF P f args F pre R) (hφ : ∀ v L, R v L → Gives (L ++ F) fun _ => φ) : SpecF P f args F pre (fun v L => R v L ∧ φ) :=
 fun w hs => (h w hs).mono fun e w' ⟨v, L, he, hv, hx, hs'⟩ => ⟨v, L, he, ⟨hv, hφ v L hv w' hs'⟩, hx, hs'⟩
structure Dg9 (d : List Nat) : Prop where
 len : d.length = 32
 byte : ∀ x ∈ d, x < 256
structure LogD where
 n : Nat
 fs : List (List Nat)
def log0 : LogD := ⟨0, []⟩
structure LogD.ok (l : LogD) : Prop where
 fs : ∀ d ∈ l.fs, Dg9 d
 len : l.fs.length = ones l.n
 le : l.n ≤ 1099511627776
theorem log0_ok : log0.ok := ⟨fun d h => absurd h List.not_mem_nil, by rw [show log0.n = 0 from rfl, ones_zero]; rfl, by decide⟩
def chunkF : Nat → List Nat → List (List Nat)
 | 0, _ => []
 | k + 1, l => l.take 32 :: chunkF k (l.drop 32)
theorem chunkF_len : ∀ (k : Nat) (l : List Nat), (chunkF k l).length = k
 | 0, _ => rfl
 | k + 1, l => by rw [chunkF, List.length_cons, chunkF_len k]
theorem chunkF_snoc : ∀ (k : Nat) (l : List Nat), chunkF (k + 1) l = chunkF k l ++ [(l.drop (32 * k)).take 32]
 | 0, l => by simp [chunkF]
 | k + 1, l => by
  have := chunkF_snoc k (l.drop 32)
  rw [chunkF, this, chunkF, List.cons_append, List.drop_drop]
  congr 5
  omega
theorem chunkF_ok : ∀ (k : Nat) (l : List Nat), 32 * k ≤ l.length → (∀ b ∈ l, b < 256) → ∀ d ∈ chunkF k l, Dg9 d
 | 0, _, _, _ => fun d h => absurd h List.not_mem_nil
 | k + 1, l, hl, hb => fun d hd => by
  rcases List.mem_cons.1 hd with rfl | hd
  ·exact ⟨by rw [List.length_take]; omega, fun b h => hb b (List.mem_of_mem_take h)⟩
  ·exact chunkF_ok k (l.drop 32) (by rw [List.length_drop]; omega) (fun b h => hb b (List.mem_of_mem_drop h)) d hd
theorem getD_get {l : List Nat} {i : Nat} (h : i < l.length) : l.getD i 0 = l[i] := by simp [List.getD, h]
theorem num8 {bs : List Nat} (hb : ∀ b ∈ bs, b < 256) (h8 : 8 ≤ bs.length) (h0 : bs.getD 0 0 = 0) {i : Nat} (hi : i ≤ 8) : ∃ a : Nat, numF (bs.take i) = (a : Int) ∧ a < 72057594037927936 := by
 cases i with
 | zero => exact ⟨0, rfl, by decide⟩
 | succ i =>
  rcases Nat.lt_or_ge i 7 with h7 | h7
  ·obtain ⟨a, ha, hlt, _⟩ := num_lt hb i h7 (by omega)
   rw [h0, Nat.zero_add, Nat.one_mul] at hlt
   have hp : 256 ^ i ≤ 256 ^ 6 := Nat.pow_le_pow_right (by decide) (by omega)
   have e6 : 256 ^ 6 = 281474976710656 := by decide
   exact ⟨a, ha, by omega⟩
  ·obtain rfl : i = 7 := by omega
   obtain ⟨a, ha, hlt, _⟩ := num_lt hb 6 (by decide) (by omega)
   rw [h0, Nat.zero_add, Nat.one_mul] at hlt
   have e6 : 256 ^ 6 = 281474976710656 := by decide
   have h7l : 7 < bs.length := by omega
   have hb7 := hb _ (List.getElem_mem h7l)
   refine ⟨256 * a + bs[7], ?_, by omega⟩
   rw [numF_take bs 7 h7l, ha, numStep_nat a _ (by omega) hb7]
theorem num7 {bs : List Nat} (hb : ∀ b ∈ bs, b < 256) (h8 : 8 ≤ bs.length) (h0 : bs.getD 0 0 = 0) {i : Nat} (hi : i ≤ 7) : ∃ a : Nat, numF (bs.take i) = (a : Int) ∧ a ≤ 281474976710656 := by
 cases i with
 | zero => exact ⟨0, rfl, by decide⟩
 | succ i =>
  obtain ⟨a, ha, hlt, _⟩ := num_lt hb i (by omega) (by omega)
  rw [h0, Nat.zero_add, Nat.one_mul] at hlt
  have hp : 256 ^ i ≤ 256 ^ 6 := Nat.pow_le_pow_right (by decide) (by omega)
  have e6 : 256 ^ 6 = 281474976710656 := by decide
  exact ⟨a, ha, by omega⟩
def numL (bs : List Nat) : Nat := (numF (bs.take 8)).toNat
def askR (bs : List Nat) : LogD × Int :=
 if bs = [] then (log0, 0) else
 if bs.length % 32 ≠ 8 ∨ bs.getD 0 0 ≠ 0 ∨ bs.getD 1 0 ≠ 0 then (log0, 75) else
 if 1099511627776 < numL bs ∨ (bs.length - 8) / 32 ≠ ones (numL bs) ∨ numL bs = 0 then (log0, 75) else
 (⟨numL bs, chunkF ((bs.length - 8) / 32) (bs.drop 8)⟩, 0)
theorem askR_ok {bs : List Nat} (hb : ∀ b ∈ bs, b < 256) : (askR bs).1.ok := by
 unfold askR
 (repeat' split) <;> first | exact log0_ok | skip
 rename_i h1 h2 h3
 refine ⟨chunkF_ok _ _ (by rw [List.length_drop]; omega) (fun b h => hb b (List.mem_of_mem_drop h)), ?_, ?_⟩
 ·show (chunkF _ _).length = ones (numL bs)
  rw [chunkF_len]
  omega
 ·show numL bs ≤ _
  omega
section
variable (K : List W32)
def oneM (x : List (List Nat) × List Nat) : List (List Nat) × List Nat := (x.1.dropLast, nodeD K (x.1.getLastD []) x.2)
def mergeN : Nat → List (List Nat) × List Nat → List (List Nat) × List Nat
 | 0, x => x
 | k + 1, x => oneM K (mergeN k x)
theorem mergeN_len (k : Nat) (x : List (List Nat) × List Nat) : (mergeN K k x).1.length = x.1.length - k := by
 induction k with
 | zero => rfl
 | succ k ih => rw [mergeN, oneM, List.length_dropLast, ih]; omega
theorem mergeN_ok {x : List (List Nat) × List Nat} (h1 : ∀ d ∈ x.1, Dg9 d) (h2 : Dg9 x.2) (k : Nat) : (∀ d ∈ (mergeN K k x).1, Dg9 d) ∧ Dg9 (mergeN K k x).2 := by
 induction k with
 | zero => exact ⟨h1, h2⟩
 | succ k ih => exact ⟨fun d hd => ih.1 d ((List.dropLast_sublist _).subset hd), ⟨dig_len _ _, dig_byte _ _⟩⟩
def addL9 (l : LogD) (bs : List Nat) : LogD := ⟨l.n + 1, (mergeN K (trail l.n) (l.fs, leafT K bs)).1 ++ [(mergeN K (trail l.n) (l.fs, leafT K bs)).2]⟩
def rootN (fs : List (List Nat)) : Nat → List Nat
 | 0 => fs.getD (fs.length - 1) []
 | i + 1 => nodeD K (fs.getD (fs.length - 2 - i) []) (rootN fs i)
def rootL (fs : List (List Nat)) : List Nat := if fs.length = 0 then dig K [] else rootN K fs (fs.length - 1)
theorem getD_ok {fs : List (List Nat)} (h : ∀ d ∈ fs, Dg9 d) {i : Nat} (hi : i < fs.length) : Dg9 (fs.getD i []) := by
 rw [List.getD_eq_getElem?_getD, List.getElem?_eq_getElem hi]
 exact h _ (List.getElem_mem hi)
theorem rootN_ok {fs : List (List Nat)} (h : ∀ d ∈ fs, Dg9 d) (h0 : fs.length ≠ 0) (i : Nat) : Dg9 (rootN K fs i) := by
 cases i with
 | zero => exact getD_ok h (by omega)
 | succ i => exact ⟨dig_len _ _, dig_byte _ _⟩
theorem rootL_ok {fs : List (List Nat)} (h : ∀ d ∈ fs, Dg9 d) : Dg9 (rootL K fs) := by
 unfold rootL
 split
 ·exact ⟨dig_len _ _, dig_byte _ _⟩
 ·exact rootN_ok K h (by assumption) _
end
theorem ones_succ (n : Nat) : ones (n + 1) + trail n = ones n + 1 := by
 induction n using Nat.strongRecOn with
 | ind n ih =>
  by_cases h : n % 2 = 1
  ·have := ih (n / 2) (by omega)
   rw [trail_odd h, ones_step (n + 1), ones_step n, show (n + 1) % 2 = 0 by omega, show (n + 1) / 2 = n / 2 + 1 by omega, h]
   omega
  ·rw [trail_even h, ones_step (n + 1), ones_step n, show (n + 1) % 2 = 1 by omega, show (n + 1) / 2 = n / 2 by omega]
   omega
theorem addL9_ok {K : List W32} {l : LogD} (h : l.ok) (hn : l.n < 1099511627776) (bs : List Nat) : (addL9 K l bs).ok := by
 have h1 := mergeN_ok K (x := (l.fs, leafT K bs)) h.fs ⟨dig_len _ _, dig_byte _ _⟩ (trail l.n)
 have h2 := mergeN_len K (trail l.n) (l.fs, leafT K bs)
 have h3 := ones_succ l.n
 have h4 := trail_le l.n
 refine ⟨fun d hd => ?_, ?_, hn⟩
 ·rcases List.mem_append.1 hd with hd | hd
  ·exact h1.1 d hd
  ·rw [List.mem_singleton.1 hd]; exact h1.2
 ·show (_ ++ [_]).length = ones (l.n + 1)
  rw [List.length_append, List.length_singleton, h2]
  have := h.len
  show l.fs.length - trail l.n + 1 = _
  omega
def valueB (l : LogD) : List Nat := be l.n 8 ++ l.fs.flatten
theorem flat_bytes {fs : List (List Nat)} (h : ∀ d ∈ fs, Dg9 d) : ∀ b ∈ fs.flatten, b < 256 := fun b hb => by
 obtain ⟨d, hd, hb⟩ := List.mem_flatten.1 hb
 exact (h d hd).byte b hb
theorem valueB_bytes {l : LogD} (h : ∀ d ∈ l.fs, Dg9 d) : ∀ b ∈ valueB l, b < 256 := fun b hb => by
 rcases List.mem_append.1 hb with hb | hb
 ·exact be_lt _ _ b hb
 ·exact flat_bytes h b hb
theorem flat_len9 {fs : List (List Nat)} (h : ∀ d ∈ fs, Dg9 d) : fs.flatten.length = 32 * fs.length := by
 induction fs with
 | nil => rfl
 | cons d fs ih =>
  rw [List.flatten_cons, List.length_append, ih (fun e he => h e (List.mem_cons_of_mem _ he)), (h d List.mem_cons_self).len, List.length_cons]
  omega
def oK : ByteArray := ⟨#[111]⟩
def logOf (g : (List Nat × Int) × RSt) : (LogD × Int) × RSt := (if g.1.2 ≠ 0 then (log0, g.1.2) else askR g.1.1, g.2)
def logQ (find : SrcF) (R : RSt) : (LogD × Int) × RSt := logOf (gtQ find R oK)
def addC (find : SrcF) (K : List W32) (R : RSt) (l : LogD) (f : LeafD) : (Int × Int) × RSt :=
 (if (ptQ find R oK (valueB (addL9 K l { f with idx := l.n }.bytes))).1 ≠ 0 then (0, (ptQ find R oK (valueB (addL9 K l { f with idx := l.n }.bytes))).1) else ((l.n : Int), 0), (ptQ find R oK (valueB (addL9 K l { f with idx := l.n }.bytes))).2)
def addB (find : SrcF) (K : List W32) (f : LeafD) (x : (LogD × Int) × RSt) : (Int × Int) × RSt :=
 if x.1.2 ≠ 0 then ((0, x.1.2), x.2) else if x.1.1.n = 1099511627776 then ((0, 114), x.2) else addC find K x.2 x.1.1 f
def addQ (find : SrcF) (K : List W32) (R : RSt) (f : LeafD) : (Int × Int) × RSt := if f.idx ≠ 0 ∨ ¬ f.may then ((0, 110), R) else addB find K f (logQ find R)
def sizeQ (find : SrcF) (R : RSt) : (Int × Int) × RSt := (((logQ find R).1.1.n, (logQ find R).1.2), (logQ find R).2)
def rootQ (find : SrcF) (K : List W32) (R : RSt) : (List Nat × Int) × RSt := (if (logQ find R).1.2 ≠ 0 then (List.replicate 32 0, (logQ find R).1.2) else (rootL K (logQ find R).1.1.fs, 0), (logQ find R).2)
theorem logQ_err {find : SrcF} {R : RSt} (h : (logQ find R).1.2 ≠ 0) : (logQ find R).1.1 = log0 := by
 unfold logQ logOf askR at h ⊢
 simp only at h ⊢
 (repeat' split) <;> first | rfl | skip
 all_goals simp_all
theorem logQ_ok {find : SrcF} {R : RSt} (hb : ∀ b ∈ (gtQ find R oK).1.1, b < 256) : (logQ find R).1.1.ok := by
 unfold logQ logOf
 simp only
 split
 ·exact log0_ok
 ·exact askR_ok hb
theorem IsQ.small {R : RSt} {d : RfD} (h : IsQ R d) : R.small :=
 ⟨fun p hp => by
  rw [← h.ts] at hp
  obtain ⟨x, hx, rfl⟩ := List.mem_map.1 hp
  exact (h.tw x hx).2, fun p hp => by
  rw [← h.ss] at hp
  obtain ⟨x, hx, rfl⟩ := List.mem_map.1 hp
  exact (h.sw x hx).2⟩
theorem ref_len {T s : Nat} {hv nv : Value} {part : Bool} {g : (List Nat × Int) × RSt} {k : ByteArray} {L : List HP} (h : g.1.1 = [] ∨ g.1.1 = g.2.val k) : Gives (refR T s hv part nv g.2 :: L) fun _ => g.1.1.length ≤ 4096 := fun w hs => by
 rcases h with h | h
 ·rw [h]; exact Nat.zero_le _
 ·rw [h]
  obtain ⟨d, hd, _⟩ := Sat.exL.1 hs
  exact hd.small.val k
theorem addL9_n (K : List W32) (l : LogD) (bs : List Nat) : (addL9 K l bs).n = l.n + 1 := rfl
structure OStep where
 what : Int
 n : Int
 m : Int
 leaf : LeafD
structure OStep.wf (x : OStep) : Prop where
 w1 : -9223372036854775808 ≤ x.what
 w2 : x.what ≤ 9223372036854775807
 n1 : -9223372036854775808 ≤ x.n
 n2 : x.n ≤ 9223372036854775807
 leaf : x.leaf.wf
 to : ∀ b ∈ x.leaf.to, b < 256
 amt : wOk x.leaf.amt
def OStep.cells (x : OStep) : List Value := .int .i64 x.what :: .int .i64 x.n :: .int .i64 x.m :: x.leaf.cells
theorem OStep.cells_len {x : OStep} (h : x.wf) : x.cells.length = 30 := by rw [OStep.cells, List.length_cons, List.length_cons, List.length_cons, LeafD.cells_len h.leaf]
theorem OStep.leaf_at {x : OStep} (h : x.wf) : (x.cells.drop 3).take x.leaf.cells.length = x.leaf.cells := by simp [OStep.cells]
def oStep (find : SrcF) (K : List W32) (R : RSt) (x : OStep) : RSt :=
 if pickN x.what 8 < 3 then (addQ find K R x.leaf).2 else if pickN x.what 8 = 3 then (sizeQ find R).2 else if pickN x.what 8 < 6 then (rootQ find K R).2 else if pickN x.what 8 = 6 then (markQ R).2 else (backQ R x.n).2
theorem Lim.oadd {find : SrcF} (hb : SrcF.bytes find) {R : RSt} {k : Nat} (h : Lim R (k + 2)) (K : List W32) (f : LeafD) : Lim (addQ find K R f).2 k := by
 have hg := h.get hb oK
 have hok := logQ_ok (R := R) hg.2
 have h1 : Lim (logQ find R).2 (k + 1) := hg.1
 unfold addQ
 split
 ·exact h.mono (by omega)
 ·unfold addB
  split
  ·exact h1.mono (by omega)
  ·split
   ·exact h1.mono (by omega)
   ·rename_i hn
    have hle := hok.le
    exact h1.put hb oK (valueB_bytes (addL9_ok (K := K) hok (by omega) _).fs)
theorem Lim.ostep {find : SrcF} (hb : SrcF.bytes find) {R : RSt} {k : Nat} (h : Lim R (k + 2)) (K : List W32) (x : OStep) : Lim (oStep find K R x) k := by
 have h1 : Lim (logQ find R).2 (k + 1) := (h.get hb oK).1
 unfold oStep
 split
 ·exact h.oadd hb K _
 ·split
  ·exact h1.mono (by omega)
  ·split
   ·exact h1.mono (by omega)
   ·split
    ·exact ⟨by have := h.told; show R.told.length + k ≤ _; omega, by have := h.steps; show R.steps.length + k ≤ _; omega, h.tb, h.sb⟩
    ·unfold backQ
     split
     ·exact h.mono (by omega)
     ·exact ⟨by have := h.told; show R.told.length + k ≤ _; omega, by have := h.steps; show (R.steps.take _).length + k ≤ _; rw [List.length_take]; omega, h.tb, fun p hp => h.sb p (List.mem_of_mem_take hp)⟩
theorem gtQ_marks {find : SrcF} {R : RSt} {k : ByteArray} : (gtQ find R k).2.marks = R.marks := by
 unfold gtQ getQ askQ
 (repeat' split) <;> rfl
theorem ptQ_marks {find : SrcF} {R : RSt} {k : ByteArray} {bs : List Nat} : (ptQ find R k bs).2.marks = R.marks := by
 unfold ptQ putQ askQ
 (repeat' split) <;> rfl
theorem ostep_marks {find : SrcF} {K : List W32} {R : RSt} {i : Nat} (h : R.marks.length ≤ i) (x : OStep) : (oStep find K R x).marks.length ≤ i + 1 := by
 have h1 : (logQ find R).2.marks = R.marks := gtQ_marks
 unfold oStep
 split
 ·unfold addQ addB addC
  (repeat' split) <;> first | exact Nat.le_succ_of_le h | (show (logQ find R).2.marks.length ≤ _; rw [h1]; omega) | (show (ptQ _ _ _ _).2.marks.length ≤ _; rw [ptQ_marks, h1]; omega)
 ·split
  ·show (logQ find R).2.marks.length ≤ _; rw [h1]; omega
  ·split
   ·show (logQ find R).2.marks.length ≤ _; rw [h1]; omega
   ·split
    ·show (R.marks ++ [_]).length ≤ _
     rw [List.length_append]
     exact Nat.succ_le_succ h
    ·unfold backQ
     split
     ·exact Nat.le_succ_of_le h
     ·show (R.marks.take _).length ≤ _
      rw [List.length_take]
      omega
end Go.Sl
