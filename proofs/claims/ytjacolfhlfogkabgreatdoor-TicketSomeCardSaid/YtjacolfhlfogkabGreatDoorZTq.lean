import Derived.Test.YtjacolfhlfogkabGreatDoorZKp
namespace Go.Sl
open Go
def madeOf (g : (List Nat × Int) × RSt) : (Int × Int) × RSt := (if g.1.2 ≠ 0 then (0, g.1.2) else madeR g.1.1, g.2)
def madeQ (find : SrcF) (R : RSt) : (Int × Int) × RSt := madeOf (gtQ find R ntK)
def findOf (n : Int) (g : (List Nat × Int) × RSt) : (TicketD × Int) × RSt := (if g.1.2 ≠ 0 then (zeroT', g.1.2) else findR n g.1.1, g.2)
def tfindQ (find : SrcF) (R : RSt) (n : Int) : (TicketD × Int) × RSt := if n < 1 ∨ 1099511627776 < n then ((zeroT', 90), R) else findOf n (gtQ find R (tkey n.toNat))
def openB (find : SrcF) (R : RSt) (m : Nat) (t : TicketD) : (Int × Int) × RSt :=
 if (ptQ find R (tkey m) t.value).1 ≠ 0 then ((0, (ptQ find R (tkey m) t.value).1), (ptQ find R (tkey m) t.value).2) else
 (((m : Int), 0), (ptQ find (ptQ find R (tkey m) t.value).2 ntK (be m 8)).2)
def openA (find : SrcF) (t : TicketD) (g : (Int × Int) × RSt) : (Int × Int) × RSt :=
 if g.1.2 ≠ 0 then ((0, g.1.2), g.2) else if 1099511627776 ≤ g.1.1 then ((0, 92), g.2) else openB find g.2 (g.1.1.toNat + 1) t
def openQ (find : SrcF) (R : RSt) (t : TicketD) : (Int × Int) × RSt := if t.num ≠ 0 ∨ ¬ t.may then ((0, 93), R) else openA find t (madeQ find R)
def retryB (find : SrcF) (n : Int) (y : Int × RSt) : Int × RSt := if y.1 ≠ 0 then y else ptQ find y.2 (tkey n.toNat) []
def retryA (find : SrcF) (n : Int) (x : (TicketD × Int) × RSt) : Int × RSt := if x.1.2 ≠ 0 then (x.1.2, x.2) else retryB find n (mintQ find x.2 x.1.1.tok x.1.1.to x.1.1.amt)
def retryQ (find : SrcF) (R : RSt) (n : Int) : Int × RSt := retryA find n (tfindQ find R n)
def cancelB (t : TicketD) (p : Int × RSt) : (TicketD × Int) × RSt := if p.1 ≠ 0 then ((zeroT', p.1), p.2) else ((t, 0), p.2)
def cancelA (find : SrcF) (n : Int) (a : List Nat) (x : (TicketD × Int) × RSt) : (TicketD × Int) × RSt :=
 if x.1.2 ≠ 0 then ((zeroT', x.1.2), x.2) else if x.1.1.snd ≠ a then ((zeroT', 91), x.2) else cancelB x.1.1 (ptQ find x.2 (tkey n.toNat) [])
def cancelQ (find : SrcF) (R : RSt) (n : Int) (a : List Nat) : (TicketD × Int) × RSt := cancelA find n a (tfindQ find R n)
theorem tkey_may (n : Nat) : mayI (tkey n) 0 = 0 := mayI_ok (by rw [tkey_size]; decide) (by rw [tkey_size]; decide) (by decide)
theorem madeR_nat {bs : List Nat} (h : (madeR bs).2 = 0) : 0 ≤ (madeR bs).1 ∧ (madeR bs).1 ≤ 1099511627776 := by
 unfold madeR at h ⊢
 split
 ·exact ⟨by decide, by decide⟩
 ·rename_i h1
  rw [if_neg h1] at h
  split
  ·exact ⟨by decide, by decide⟩
  ·rename_i h2
   show 0 ≤ numF bs ∧ numF bs ≤ _
   omega
theorem madeQ_nat {find : SrcF} {R : RSt} (h : (madeQ find R).1.2 = 0) : 0 ≤ (madeQ find R).1.1 ∧ (madeQ find R).1.1 ≤ 1099511627776 := by
 unfold madeQ madeOf at h ⊢
 simp only at h ⊢
 split
 ·exact ⟨Int.le_refl 0, (by decide : (0 : Int) ≤ 1099511627776)⟩
 ·rename_i h1
  rw [if_neg h1] at h
  exact madeR_nat h
theorem gtQ_told {find : SrcF} {R : RSt} {key : ByteArray} (hm : mayI key 0 = 0) (h : (gtQ find R key).1.2 = 0) : (atL (gtQ find R key).2.told key).isSome = true := by
 have e := getQ_may (f := find key) (R := R) hm
 unfold gtQ at h ⊢
 rw [e] at h ⊢
 have h0 : askI (find key) R key = 0 := h
 show (atL (askQ (find key) R key).told key).isSome = true
 by_cases ht : (atL R.told key).isSome = true
 ·rw [askQ_there ht]; exact ht
 ·have hn : key ∉ R.told.map (·.1) := by rw [← atL_none]; simpa using ht
  unfold askQ
  rw [if_neg ht, if_pos h0]
  show (atL (insL R.told key (find key).1) key).isSome = true
  rw [atL_ins hn]
  rfl
theorem ask_told {f : List Nat × Int} {R : RSt} {k key : ByteArray} (h : (atL R.told key).isSome = true) : (atL (askQ f R k).told key).isSome = true := by
 unfold askQ
 split
 ·exact h
 ·rename_i h1
  split
  ·have hn : k ∉ R.told.map (·.1) := by rw [← atL_none]; simpa using h1
   cases hc : atL (insL R.told k f.1) key with
   | some v => rfl
   | none =>
    have h2 := atL_none.1 hc
    have h3 : key ∈ R.told.map (·.1) := by
     refine Classical.byContradiction fun h4 => ?_
     rw [← atL_none] at h4
     rw [h4] at h
     cases h
    refine absurd ?_ h2
    have := ((insL_perm (v := f.1) hn).map (·.1)).mem_iff (a := key)
    rw [this, List.map_append]
    exact List.mem_append_left _ h3
  ·exact h
theorem ptQ_told {find : SrcF} {R : RSt} {k key : ByteArray} {bs : List Nat} (h : (atL R.told key).isSome = true) : (atL (ptQ find R k bs).2.told key).isSome = true := by
 unfold ptQ putQ
 split
 ·exact h
 ·have h1 := ask_told (f := find k) (k := k) h
  show (atL (if askI (find k) R k = 0 then _ else _ : RSt).told key).isSome = true
  split
  ·exact h1
  ·exact h1
theorem gtQ_told2 {find : SrcF} {R : RSt} {k key : ByteArray} (h : (atL R.told key).isSome = true) : (atL (gtQ find R k).2.told key).isSome = true := by
 unfold gtQ
 rw [getQ_state]
 split
 ·exact ask_told h
 ·exact h
theorem ptQ_ok {find : SrcF} {R : RSt} {k : ByteArray} {bs : List Nat} (hm : mayI k bs.length = 0) (h : (atL R.told k).isSome = true) : (ptQ find R k bs).1 = 0 := by
 unfold ptQ putQ
 rw [if_neg (fun e => e hm)]
 exact askI_there h
theorem madeQ_told {find : SrcF} {R : RSt} (h : (madeQ find R).1.2 = 0) : (atL (madeQ find R).2.told ntK).isSome = true := by
 refine gtQ_told (by decide) ?_
 unfold madeQ madeOf at h
 simp only at h
 split at h
 ·exact h
 ·rename_i h1; simpa using h1
theorem open_second {find : SrcF} {R : RSt} (h : (madeQ find R).1.2 = 0) (k : ByteArray) (v : List Nat) (m : Nat) : (ptQ find (ptQ find (madeQ find R).2 k v).2 ntK (be m 8)).1 = 0 := by
 refine ptQ_ok ?_ (ptQ_told (madeQ_told h))
 exact mayI_ok (by decide) (by decide) (by rw [be_len]; decide)
theorem findOf_wf (n : Int) (g : (List Nat × Int) × RSt) : (findOf n g).1.1.wf := by
 unfold findOf
 show (if _ then _ else _ : TicketD × Int).1.wf
 split
 ·exact ⟨rfl, rfl, rfl⟩
 ·exact findR_wf _ _
theorem tfindQ_wf (find : SrcF) (R : RSt) (n : Int) : (tfindQ find R n).1.1.wf := by
 unfold tfindQ
 split
 ·exact ⟨rfl, rfl, rfl⟩
 ·exact findOf_wf _ _
theorem tfindQ_amt (find : SrcF) (R : RSt) (n : Int) : wOk (tfindQ find R n).1.1.amt := by
 unfold tfindQ
 split
 ·exact zero4_ok
 ·unfold findOf findR
  show wOk (if _ then _ else _ : TicketD × Int).1.amt
  (repeat' split) <;> first | exact zero4_ok | exact wordsN_ok _
theorem tfindQ_num {find : SrcF} {R : RSt} {n : Int} (h : (tfindQ find R n).1.2 = 0) : 1 ≤ n ∧ n ≤ 1099511627776 := by
 unfold tfindQ at h
 split at h
 ·exact absurd (show (90 : Int) = 0 from h) (by decide)
 ·omega
theorem tfindQ_steps (find : SrcF) (R : RSt) (n : Int) : (tfindQ find R n).2.steps = R.steps := by
 unfold tfindQ
 split
 ·rfl
 ·exact gtQ_steps find R _
theorem madeQ_steps (find : SrcF) (R : RSt) : (madeQ find R).2.steps = R.steps := gtQ_steps find R _
theorem mintQ_steps (find : SrcF) (R : RSt) (t : Int) (to a : List Nat) : (mintQ find R t to a).2.steps.length ≤ R.steps.length + 2 := by
 have h1 := runQ_steps find R t
 have h2 := amtQ_steps find (runQ find R t).2 (balKey t.toNat to)
 unfold mintQ mintA lay2Q
 (repeat' split) <;> (try simp only [h1, h2]) <;> first | omega | skip
 ·have := ptQ_steps find (amtQ find (runQ find R t).2 (balKey t.toNat to)).2 (tokKey t.toNat) (tokB { (runQ find R t).1.1 with sup := addL (runQ find R t).1.1.sup a })
  rw [h2, h1] at this
  exact Nat.le_succ_of_le this
 ·refine Nat.le_trans (ptQ_steps find _ _ _) ?_
  have := ptQ_steps find (amtQ find (runQ find R t).2 (balKey t.toNat to)).2 (tokKey t.toNat) (tokB { (runQ find R t).1.1 with sup := addL (runQ find R t).1.1.sup a })
  rw [h2, h1] at this
  exact Nat.succ_le_succ this
theorem gtQ_val (find : SrcF) (R : RSt) (k : ByteArray) : (gtQ find R k).1.1 = [] ∨ (gtQ find R k).1.1 = (gtQ find R k).2.val k := by
 unfold gtQ
 by_cases hm : mayI k 0 = 0
 ·rw [getQ_may hm]
  show (if _ then _ else _ : List Nat) = [] ∨ _
  split
  ·exact .inr rfl
  ·exact .inl rfl
 ·unfold getQ
  rw [if_pos hm]
  exact .inl rfl
theorem st_val {T s : Nat} {src : Value} {R : RSt} {L : List HP} : Gives (stR T s src R :: L) fun _ => ∀ k, (R.val k).length ≤ 4096 := fun w hs k => by
 obtain ⟨c, hc, _⟩ := Sat.exL.1 hs
 have h := (StC.rd (T := T) (s := s) (src := src) (key := k) hc.wf).2.2
 rw [hc.val] at h
 exact h
theorem st_len {T s : Nat} {src : Value} {g : (List Nat × Int) × RSt} {k : ByteArray} {L : List HP} (h : g.1.1 = [] ∨ g.1.1 = g.2.val k) : Gives (stR T s src g.2 :: L) fun _ => g.1.1.length ≤ 4096 := fun w hs => by
 rcases h with h | h
 ·rw [h]; exact Nat.zero_le _
 ·rw [h]; exact st_val w hs k
theorem Lim.tfind {find : SrcF} (hb : SrcF.bytes find) {R : RSt} {k : Nat} (h : Lim R (k + 1)) (n : Int) : Lim (tfindQ find R n).2 k := by
 unfold tfindQ
 split
 ·exact h.mono (Nat.le_succ _)
 ·exact (h.get hb _).1
theorem Lim.lay2 {find : SrcF} (hb : SrcF.bytes find) {R : RSt} {k : Nat} (h : Lim R (k + 2)) (t : Nat) (d : TokD) (key : ByteArray) (a : List Nat) : Lim (lay2Q find R t d key a).2 k := by
 unfold lay2Q
 split
 ·exact (h.layTok hb t d).mono (Nat.le_succ _)
 ·exact Lim.lay hb (h.layTok hb t d) _ _
theorem Lim.mint {find : SrcF} (hb : SrcF.bytes find) {R : RSt} {k : Nat} (h : Lim R (k + 4)) (t : Int) (to a : List Nat) : Lim (mintQ find R t to a).2 k := by
 have h1 : Lim (runQ find R t).2 (k + 3) := h.run hb t
 have h2 : Lim (amtQ find (runQ find R t).2 (balKey t.toNat to)).2 (k + 2) := h1.amt hb _
 unfold mintQ mintA
 (repeat' split) <;> first | exact h1.mono (by omega) | exact h2.mono (by omega) | exact h2.lay2 hb _ _ _ _
structure StepT where
 what : Int
 num : Int
 t : TicketD
structure StepT.wf (x : StepT) : Prop where
 w1 : -9223372036854775808 ≤ x.what
 w2 : x.what ≤ 9223372036854775807
 n1 : -9223372036854775808 ≤ x.num
 n2 : x.num ≤ 9223372036854775807
 t : x.t.wf
 snd : ∀ b ∈ x.t.snd, b < 256
 to : ∀ b ∈ x.t.to, b < 256
 amt : wOk x.t.amt
def StepT.cells (x : StepT) : List Value := .int .i64 x.what :: .int .i64 x.num :: x.t.cells
theorem StepT.cells_len {x : StepT} (h : x.wf) : x.cells.length = 49 := by
 show (x.t.cells).length + 1 + 1 = 49
 rw [TicketD.cells_len h.t]
theorem StepT.cells_one (x : StepT) : ∀ u ∈ x.cells, u.oneCell' = true := by
 intro u hu
 simp only [StepT.cells, List.mem_cons] at hu
 rcases hu with rfl | rfl | h
 ·rfl
 ·rfl
 ·exact TicketD.cells_one _ u h
theorem StepT.t_at (x : StepT) : (x.cells.drop 2).take x.t.cells.length = x.t.cells := by simp [StepT.cells]
theorem StepT.snd_at (x : StepT) : (x.cells.drop 4).take (bvs x.t.snd).length = bvs x.t.snd := by simp [StepT.cells, TicketD.cells]
theorem StepT.tok_at {x : StepT} (h : x.wf) : x.cells[24]? = some (.int .i64 x.t.tok) := TicketD.tok_at h.t
structure AnsT where
 code : Int
 num : Int
 t : TicketD
def AnsT.cells (x : AnsT) : List Value := .int .i64 x.code :: .int .i64 x.num :: x.t.cells
theorem AnsT.cells_len {x : AnsT} (h : x.t.wf) : x.cells.length = 49 := by
 show (x.t.cells).length + 1 + 1 = 49
 rw [TicketD.cells_len h]
theorem AnsT.cells_one (x : AnsT) : ∀ u ∈ x.cells, u.oneCell' = true := by
 intro u hu
 simp only [AnsT.cells, List.mem_cons] at hu
 rcases hu with rfl | rfl | h
 ·rfl
 ·rfl
 ·exact TicketD.cells_one _ u h
def ansK : List LK := .int .i64 :: .int .i64 :: tickK
theorem AnsT.wt {x : AnsT} (h : x.t.wf) : Go.Sl.wt ansK x.cells := ⟨rfl, rfl, TicketD.wt h⟩
def ans1 (e : Int) : AnsT := ⟨e, 0, zeroT'⟩
def ansF (x : (TicketD × Int) × RSt) : AnsT × RSt := (⟨x.1.2, 0, x.1.1⟩, x.2)
def ansN (x : (Int × Int) × RSt) : AnsT × RSt := (⟨x.1.2, x.1.1, zeroT'⟩, x.2)
def ansI (x : Int × RSt) : AnsT × RSt := (ans1 x.1, x.2)
def stepTn (find : SrcF) (k : Nat) (R : RSt) (x : StepT) : AnsT × RSt := match k with
 | 0 => ansN (openQ find R x.t)
 | 1 => ansN (openQ find R x.t)
 | 2 => ansN (openQ find R x.t)
 | 3 => ansF (tfindQ find R x.num)
 | 4 => ansN (madeQ find R)
 | 5 => ansI (retryQ find R x.num)
 | 6 => ansI (retryQ find R x.num)
 | 7 => ansF (cancelQ find R x.num x.t.snd)
 | 8 => ansF (cancelQ find R x.num x.t.snd)
 | 9 => ansI (registerQ find R x.t.tok)
 | 10 => ansI (pauseQ find R x.t.tok)
 | 11 => ansI (resumeQ find R x.t.tok)
 | 12 => (⟨0, (markQ R).1, zeroT'⟩, (markQ R).2)
 | _ => ansI (backQ R x.num)
def stepTk (find : SrcF) (R : RSt) (x : StepT) : AnsT × RSt := stepTn find (pickN x.what 14) R x
theorem zeroT_wf : zeroT'.wf := ⟨rfl, rfl, rfl⟩
theorem cancelQ_wf (find : SrcF) (R : RSt) (n : Int) (a : List Nat) : (cancelQ find R n a).1.1.wf := by
 unfold cancelQ cancelA cancelB
 (repeat' split) <;> first | exact zeroT_wf | exact tfindQ_wf find R n
theorem stepTk_wf (find : SrcF) (R : RSt) (x : StepT) : (stepTk find R x).1.t.wf := by
 unfold stepTk
 generalize pickN x.what 14 = k
 unfold stepTn
 split <;> first | exact zeroT_wf | exact tfindQ_wf find R _ | exact cancelQ_wf find R _ _
theorem value_bytes {x : StepT} (h : x.wf) (hm : x.t.may) : ∀ b ∈ x.t.value, b < 256 := fun b hb => by
 simp only [TicketD.value, List.mem_append, List.mem_singleton] at hb
 rcases hb with (((hb | hb) | hb) | hb) | hb
 ·exact be_lt _ _ b hb
 ·exact h.snd b hb
 ·have := hm.2.1
  omega
 ·exact h.to b hb
 ·exact wideB_lt _ b hb
section
variable {find : SrcF} {R : RSt} {k : Nat}
theorem Lim.open_ (hb : SrcF.bytes find) (h : Lim R (k + 3)) (t : TicketD) (hv : t.may → ∀ b ∈ t.value, b < 256) : Lim (openQ find R t).2 k := by
 unfold openQ
 split
 ·exact h.mono (by omega)
 ·rename_i hm
  have hm2 : t.may := Classical.byContradiction fun e => hm (.inr e)
  have h1 : Lim (madeQ find R).2 (k + 2) := (h.get hb ntK).1
  generalize madeQ find R = g at h1
  have h2 : Lim (ptQ find g.2 (tkey (g.1.1.toNat + 1)) t.value).2 (k + 1) := h1.put hb _ (hv hm2)
  unfold openA openB
  (repeat' split) <;> first | exact h1.mono (by omega) | exact h2.mono (by omega) | exact h2.put hb _ (be_lt _ _)
theorem Lim.retry_ (hb : SrcF.bytes find) (h : Lim R (k + 6)) (n : Int) : Lim (retryQ find R n).2 k := by
 have h1 : Lim (tfindQ find R n).2 (k + 5) := h.tfind hb n
 unfold retryQ
 generalize tfindQ find R n = g at h1
 have h2 : Lim (mintQ find g.2 g.1.1.tok g.1.1.to g.1.1.amt).2 (k + 1) := h1.mint hb _ _ _
 unfold retryA retryB
 (repeat' split) <;> first | exact h1.mono (by omega) | exact h2.mono (by omega) | exact h2.put hb _ (fun b hb => absurd hb List.not_mem_nil)
theorem Lim.cancel_ (hb : SrcF.bytes find) (h : Lim R (k + 2)) (n : Int) (a : List Nat) : Lim (cancelQ find R n a).2 k := by
 have h1 : Lim (tfindQ find R n).2 (k + 1) := h.tfind hb n
 unfold cancelQ
 generalize tfindQ find R n = g at h1
 have h2 : Lim (ptQ find g.2 (tkey n.toNat) []).2 k := h1.put hb _ (fun b hb => absurd hb List.not_mem_nil)
 unfold cancelA cancelB
 (repeat' split) <;> first | exact h1.mono (by omega) | exact h2
theorem Lim.register_ (hb : SrcF.bytes find) (h : Lim R (k + 2)) (t : Int) : Lim (registerQ find R t).2 k := by
 have h1 : Lim (tokenQ find R t).2 (k + 1) := h.token hb t
 unfold registerQ
 (repeat' split) <;> first | exact h1.mono (by omega) | exact h1.layTok hb _ _
theorem Lim.pause_ (hb : SrcF.bytes find) (h : Lim R (k + 2)) (t : Int) : Lim (pauseQ find R t).2 k := by
 have h1 : Lim (runQ find R t).2 (k + 1) := h.run hb t
 unfold pauseQ
 (repeat' split) <;> first | exact h1.mono (by omega) | exact h1.layTok hb _ _
theorem Lim.resume_ (hb : SrcF.bytes find) (h : Lim R (k + 2)) (t : Int) : Lim (resumeQ find R t).2 k := by
 have h1 : Lim (thereQ find R t).2 (k + 1) := h.there hb t
 unfold resumeQ
 (repeat' split) <;> first | exact h1.mono (by omega) | exact h1.layTok hb _ _
theorem Lim.tick (hb : SrcF.bytes find) (h : Lim R (k + 7)) {x : StepT} (hx : x.wf) : Lim (stepTk find R x).2 k := by
 unfold stepTk
 generalize pickN x.what 14 = j
 have ho : Lim (openQ find R x.t).2 k := (h.mono (by omega : k + 3 ≤ k + 7)).open_ hb x.t (value_bytes hx)
 have hr : Lim (retryQ find R x.num).2 k := (h.mono (by omega : k + 6 ≤ k + 7)).retry_ hb x.num
 have hc : Lim (cancelQ find R x.num x.t.snd).2 k := (h.mono (by omega : k + 2 ≤ k + 7)).cancel_ hb x.num _
 have h2 : Lim R (k + 2) := h.mono (by omega)
 have h1 : Lim R (k + 1) := h.mono (by omega)
 unfold stepTn
 split
 ·exact ho
 ·exact ho
 ·exact ho
 ·exact h1.tfind hb _
 ·exact (h1.get hb ntK).1
 ·exact hr
 ·exact hr
 ·exact hc
 ·exact hc
 ·exact h2.register_ hb _
 ·exact h2.pause_ hb _
 ·exact h2.resume_ hb _
 ·exact ⟨by have := h.told; show R.told.length + k ≤ _; omega, by have := h.steps; show R.steps.length + k ≤ _; omega, h.tb, h.sb⟩
 ·show Lim (backQ R x.num).2 k
  unfold backQ
  split
  ·exact h.mono (by omega)
  ·refine ⟨by have := h.told; show R.told.length + k ≤ _; omega, ?_, h.tb, fun p hp => h.sb p (List.mem_of_mem_take hp)⟩
   have := h.steps
   show (R.steps.take _).length + k ≤ _
   rw [List.length_take]
   omega
variable {φ : RSt → Prop}
theorem Keeps.tick (hk : Keeps find φ) {x : StepT} (hx : pickN x.what 14 < 12) (h : φ R) : φ (stepTk find R x).2 := by
 have hto := hk.token x.t.tok h
 have hth := hk.there x.t.tok h
 have hr := hk.run x.t.tok h
 have hm : φ (madeQ find R).2 := hk.get _ _ h
 have hf : φ (tfindQ find R x.num).2 := by
  unfold tfindQ
  split
  ·exact h
  ·exact hk.get _ _ h
 have ho : φ (openQ find R x.t).2 := by
  unfold openQ
  split
  ·exact h
  ·generalize madeQ find R = g at hm
   have h2 := hk.put g.2 (tkey (g.1.1.toNat + 1)) x.t.value hm
   unfold openA openB
   (repeat' split) <;> first | exact hm | exact h2 | exact hk.put _ _ _ h2
 have hre : φ (retryQ find R x.num).2 := by
  unfold retryQ
  generalize tfindQ find R x.num = g at hf
  have h2 : φ (mintQ find g.2 g.1.1.tok g.1.1.to g.1.1.amt).2 := by
   have hr := hk.run g.1.1.tok hf
   unfold mintQ mintA
   (repeat' split) <;> first | exact hr | exact hk.amt _ hr | exact hk.lay2 _ _ _ _ (hk.amt _ hr)
  unfold retryA retryB
  (repeat' split) <;> first | exact hf | exact h2 | exact hk.put _ _ _ h2
 have hca : φ (cancelQ find R x.num x.t.snd).2 := by
  unfold cancelQ
  generalize tfindQ find R x.num = g at hf
  have h2 := hk.put g.2 (tkey x.num.toNat) [] hf
  unfold cancelA cancelB
  (repeat' split) <;> first | exact hf | exact h2
 unfold stepTk
 generalize pickN x.what 14 = j at hx
 match j, hx with
 | 0, _ => exact ho
 | 1, _ => exact ho
 | 2, _ => exact ho
 | 3, _ => exact hf
 | 4, _ => exact hm
 | 5, _ => exact hre
 | 6, _ => exact hre
 | 7, _ => exact hca
 | 8, _ => exact hca
 | 9, _ =>
  show φ (registerQ find R x.t.tok).2
  unfold registerQ
  (repeat' split) <;> first | exact hto | exact hk.layTok _ _ hto
 | 10, _ =>
  show φ (pauseQ find R x.t.tok).2
  unfold pauseQ
  (repeat' split) <;> first | exact hr | exact hk.layTok _ _ hr
 | 11, _ =>
  show φ (resumeQ find R x.t.tok).2
  unfold resumeQ
  (repeat' split) <;> first | exact hth | exact hk.layTok _ _ hth
theorem tick_marks {n : Nat} (h : R.marks.length ≤ n) (x : StepT) : (stepTk find R x).2.marks.length ≤ n + 1 := by
 by_cases hx : pickN x.what 14 < 12
 ·have hk : Keeps find (fun S => S.marks.length ≤ n) := ⟨fun S k h => by rw [show (gtQ find S k).2.marks = S.marks from getQ_bounds.2.2]; exact h, fun S k bs h => by rw [show (ptQ find S k bs).2.marks = S.marks from putQ_bounds.2.2]; exact h⟩
  have := hk.tick hx h
  omega
 ·unfold stepTk
  have h14 : pickN x.what 14 < 14 := pickN_lt _ (by decide)
  generalize pickN x.what 14 = j at hx h14
  have hj : j = 12 ∨ j = 13 := by omega
  rcases hj with rfl | rfl
  ·show (R.marks ++ [R.steps.length]).length ≤ _
   rw [List.length_append, List.length_singleton]
   omega
  ·have := (backQ_bounds (R := R) (m := x.num)).2.2
   show (backQ R x.num).2.marks.length ≤ _
   omega
end
end Go.Sl
