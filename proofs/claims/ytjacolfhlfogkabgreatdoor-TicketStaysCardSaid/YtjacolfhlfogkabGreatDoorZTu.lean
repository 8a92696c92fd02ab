import Derived.Test.YtjacolfhlfogkabGreatDoorZCh
import Derived.Test.YtjacolfhlfogkabGreatDoorZAr
import Derived.Test.YtjacolfhlfogkabGreatDoorZTq
namespace Go.Sl
open Go
structure StepS where
 kind : Int
 key : ByteArray
 v : Value
 bs : List Nat
 mark : Int
def StepS.cells (x : StepS) : List Value := [.int .i64 x.kind, .string x.key, x.v, .int .i64 x.mark]
theorem chS_rd {l : List ChD} {M : List HP} (hv : ∀ d ∈ l, SlV d.ov d.old.length ∧ SlV d.nv d.new.length) : ∀ d ∈ l, RdS (chS l ++ M) d.ov d.old.length (bvs d.old) ∧ RdS (chS l ++ M) d.nv d.new.length (bvs d.new) := by
 induction l with
 | nil => intro d hd; cases hd
 | cons e l ih =>
  intro d hd
  have h1 := hv e (by simp)
  show RdS (own 1 e.ov e.old.length (bvs e.old) :: own 1 e.nv e.new.length (bvs e.new) :: (chS l ++ M)) _ _ _ ∧ RdS (own 1 e.ov e.old.length (bvs e.old) :: own 1 e.nv e.new.length (bvs e.new) :: (chS l ++ M)) _ _ _
  rcases List.mem_cons.1 hd with rfl | hd
  ·exact ⟨own_rd h1.1 (by rw [bvs_len, Nat.mul_one]), (own_rd h1.2 (by rw [bvs_len, Nat.mul_one])).tl⟩
  ·have h2 := ih (fun d hd => hv d (by simp [hd])) d hd
   exact ⟨h2.1.tl.tl, h2.2.tl.tl⟩
end Go.Sl
namespace Go.Sl
open Go
def Inv9 (R : RSt) : Prop := ∀ p ∈ R.steps, p.1 ∈ R.told.map (·.1)
theorem atL_ins_ne {l : List KB} {k j : ByteArray} {v : List Nat} (hk : k ∉ l.map (·.1)) (hj : j ≠ k) : atL (insL l k v) j = atL l j := by
 rw [insL_new hk]
 have e : l = l.takeWhile (fun p => slt p.1 k) ++ l.dropWhile (fun p => slt p.1 k) := (List.takeWhile_append_dropWhile).symm
 have hne : ¬(k = j) := fun e => hj e.symm
 conv => rhs; rw [e]
 unfold atL
 rw [List.find?_append, List.find?_append, List.find?_cons]
 simp [hne]
theorem lastS_none {l : List KB} {k : ByteArray} (h : k ∉ l.map (·.1)) : lastS l k = none := by
 unfold lastS
 rw [atL_none, List.map_reverse, List.mem_reverse]
 exact h
theorem changes_ask {R : RSt} (hI : Inv9 R) (f : List Nat × Int) (k : ByteArray) : changesQ (askQ f R k) = changesQ R := by
 unfold askQ
 split
 ·rfl
 ·rename_i hn
  have hk : k ∉ R.told.map (·.1) := by rw [← atL_none]; simpa using hn
  split
  ·have hs : k ∉ R.steps.map (·.1) := fun h => by
    obtain ⟨p, hp, e⟩ := List.mem_map.1 h
    exact hk (e ▸ hI p hp)
   obtain ⟨R', hR⟩ : ∃ R' : RSt, R' = { R with told := insL R.told k f.1 } := ⟨_, rfl⟩
   rw [← hR]
   have hv : ∀ p ∈ R.told, R'.val p.1 = R.val p.1 := fun p hp => by
    have hne : p.1 ≠ k := fun e => hk (by rw [← e]; exact List.mem_map_of_mem hp)
    rw [hR]
    unfold RSt.val
    show (lastS R.steps p.1).getD ((atL (insL R.told k f.1) p.1).getD []) = _
    rw [atL_ins_ne hk hne]
   have hw : R'.val k = f.1 := by
    rw [hR]
    unfold RSt.val
    show (lastS R.steps k).getD ((atL (insL R.told k f.1) k).getD []) = _
    rw [lastS_none hs, atL_ins hk]
    rfl
   have ht : R'.told = R.told.takeWhile (fun p => slt p.1 k) ++ (k, f.1) :: R.told.dropWhile (fun p => slt p.1 k) := by rw [hR]; exact insL_new hk
   unfold changesQ
   have e1 : R'.told.filter (fun p => !decide (strB (R'.val p.1) = strB p.2)) = R.told.filter (fun p => !decide (strB (R.val p.1) = strB p.2)) := by
    rw [ht, List.filter_append, List.filter_cons_of_neg (by rw [hw]; simp), ← List.filter_append, List.takeWhile_append_dropWhile]
    refine List.filter_congr fun p hp => ?_
    rw [hv p hp]
   rw [e1]
   refine List.map_congr_left fun p hp => ?_
   rw [hv p (List.mem_filter.1 hp).1]
  ·rfl
theorem Inv9.ask {R : RSt} (hI : Inv9 R) (f : List Nat × Int) (k : ByteArray) : Inv9 (askQ f R k) := by
 unfold askQ
 split
 ·exact hI
 ·rename_i hn
  have hk : k ∉ R.told.map (·.1) := by rw [← atL_none]; simpa using hn
  split
  ·intro p hp
   have := hI p hp
   show p.1 ∈ (insL R.told k f.1).map (·.1)
   rw [((insL_perm (v := f.1) hk).map (·.1)).mem_iff, List.map_append]
   exact List.mem_append_left _ this
  ·exact hI
theorem ask_in {R : RSt} {f : List Nat × Int} {k : ByteArray} (h : askI f R k = 0) : k ∈ (askQ f R k).told.map (·.1) := by
 refine Classical.byContradiction fun hn => ?_
 by_cases ht : (atL R.told k).isSome = true
 ·rw [askQ_there ht, ← atL_none] at hn
  rw [hn] at ht
  cases ht
 ·have hk : k ∉ R.told.map (·.1) := by rw [← atL_none]; simpa using ht
  unfold askQ at hn
  rw [if_neg ht, if_pos h, ← atL_none] at hn
  have := atL_ins (v := f.1) hk
  rw [show atL (insL R.told k f.1) k = none from hn] at this
  cases this
theorem Inv9.keeps (find : SrcF) : Keeps find Inv9 := by
 refine ⟨fun R k h => ?_, fun R k bs h => ?_⟩
 ·unfold gtQ
  rw [getQ_state]
  split
  ·exact h.ask _ _
  ·exact h
 ·unfold ptQ putQ
  split
  ·exact h
  ·have h1 := h.ask (find k) k
   show Inv9 (if askI (find k) R k = 0 then _ else _)
   split
   ·rename_i h0
    intro p hp
    rcases List.mem_append.1 hp with hp | hp
    ·exact h1 p hp
    ·rw [List.mem_singleton.1 hp]
     exact ask_in h0
   ·exact h1
theorem Inv9.mark {R : RSt} (h : Inv9 R) : Inv9 (markQ R).2 := h
theorem Inv9.back {R : RSt} (h : Inv9 R) (m : Int) : Inv9 (backQ R m).2 := by
 unfold backQ
 split
 ·exact h
 ·exact fun p hp => h p (List.mem_of_mem_take hp)
theorem Inv9.tick {find : SrcF} {R : RSt} (h : Inv9 R) (x : StepT) : Inv9 (stepTk find R x).2 := by
 by_cases hx : pickN x.what 14 < 12
 ·exact (Inv9.keeps find).tick hx h
 ·unfold stepTk
  have h14 : pickN x.what 14 < 14 := pickN_lt _ (by decide)
  generalize pickN x.what 14 = j at hx h14
  have hj : j = 12 ∨ j = 13 := by omega
  rcases hj with rfl | rfl
  ·exact h.mark
  ·exact h.back x.num
structure Quiet (R S : RSt) : Prop where
 inv : Inv9 S
 same : changesQ S = changesQ R
def AllF (find : SrcF) : Prop := ∀ k, mayI k 0 = 0 → (find k).2 = 0 ∧ (find k).1.length ≤ 4096
section
variable {find : SrcF} {R S : RSt}
theorem Quiet.refl (h : Inv9 R) : Quiet R R := ⟨h, rfl⟩
theorem Quiet.get (h : Quiet R S) (k : ByteArray) : Quiet R (gtQ find S k).2 := by
 unfold gtQ
 rw [getQ_state]
 split
 ·exact ⟨h.inv.ask _ _, (changes_ask h.inv _ _).trans h.same⟩
 ·exact h
theorem Quiet.amt (h : Quiet R S) (k : ByteArray) : Quiet R (amtQ find S k).2 := h.get k
theorem Quiet.token (h : Quiet R S) (t : Int) : Quiet R (tokenQ find S t).2 := by
 unfold tokenQ
 split
 ·exact h
 ·exact h.get _
theorem Quiet.there (h : Quiet R S) (t : Int) : Quiet R (thereQ find S t).2 := h.token t
theorem Quiet.run (h : Quiet R S) (t : Int) : Quiet R (runQ find S t).2 := h.token t
theorem pt_zero (hf : AllF find) {k : ByteArray} {bs : List Nat} (hm : mayI k bs.length = 0) : (ptQ find S k bs).1 = 0 := by
 have hk : mayI k 0 = 0 := by
  unfold mayI at hm ⊢
  split at hm
  ·cases hm
  ·rename_i h1
   rw [if_neg h1, if_neg (by omega)]
 obtain ⟨h1, h2⟩ := hf k hk
 unfold ptQ putQ
 rw [if_neg (fun e => e hm)]
 show askI (find k) S k = 0
 unfold askI
 rw [if_neg (show ¬ (find k).2 ≠ 0 from fun e => e h1), if_neg (show ¬ 4096 < (find k).1.length by omega)]
 split <;> rfl
theorem layTok_zero (hf : AllF find) (t : Nat) (d : TokD) : (layTokQ find S t d).1 = 0 := pt_zero hf (mayI_ok (by rw [show (tokKey t).size = 2 from strB_size _]; decide) (by rw [show (tokKey t).size = 2 from strB_size _]; decide) (by rw [tokB_len]; decide))
theorem lay_zero (hf : AllF find) {k : ByteArray} (h1 : 0 < k.size) (h2 : k.size ≤ 128) (a : List Nat) : (layQ find S k a).1 = 0 := pt_zero hf (mayI_ok h1 h2 (by
 unfold amtB
 split
 ·decide
 ·rw [wide_len]; decide))
theorem register_quiet (hf : AllF find) (hq : Quiet R S) (t : Int) (h : (registerQ find S t).1 ≠ 0) : Quiet R (registerQ find S t).2 := by
 have h1 := hq.token (find := find) t
 by_cases c1 : (tokenQ find S t).1.2 ≠ 0
 ·rw [registerQ, if_pos c1]; exact h1
 ·by_cases c2 : (tokenQ find S t).1.1.there = true
  ·rw [registerQ, if_neg c1, if_pos c2]; exact h1
  ·rw [registerQ, if_neg c1, if_neg c2] at h
   exact absurd (layTok_zero hf _ _) h
theorem pause_quiet (hf : AllF find) (hq : Quiet R S) (t : Int) (h : (pauseQ find S t).1 ≠ 0) : Quiet R (pauseQ find S t).2 := by
 have h1 := hq.run (find := find) t
 by_cases c1 : (runQ find S t).1.2 ≠ 0
 ·rw [pauseQ, if_pos c1]; exact h1
 ·rw [pauseQ, if_neg c1] at h
  exact absurd (layTok_zero hf _ _) h
theorem resume_quiet (hf : AllF find) (hq : Quiet R S) (t : Int) (h : (resumeQ find S t).1 ≠ 0) : Quiet R (resumeQ find S t).2 := by
 have h1 := hq.there (find := find) t
 by_cases c1 : (thereQ find S t).1.2 ≠ 0
 ·rw [resumeQ, if_pos c1]; exact h1
 ·by_cases c2 : (thereQ find S t).1.1.paused = false
  ·rw [resumeQ, if_neg c1, if_pos c2]; exact h1
  ·rw [resumeQ, if_neg c1, if_neg c2] at h
   exact absurd (layTok_zero hf _ _) h
theorem lay2_zero (hf : AllF find) (t : Nat) (d : TokD) {to : List Nat} (hto : to.length = 20) (a : List Nat) : (lay2Q find S t d (balKey t to) a).1 = 0 := by
 have hs : (balKey t to).size = 22 := by rw [balKey, strB_size]; simp [hto]
 rw [lay2Q, if_neg (fun e => e (layTok_zero hf _ _))]
 exact lay_zero hf (by rw [hs]; decide) (by rw [hs]; decide) _
theorem mint_quiet (hf : AllF find) (hq : Quiet R S) (t : Int) {to : List Nat} (hto : to.length = 20) (a : List Nat) (h : (mintQ find S t to a).1 ≠ 0) : Quiet R (mintQ find S t to a).2 := by
 have h1 := hq.run (find := find) t
 have h2 := h1.amt (find := find) (balKey t.toNat to)
 by_cases c1 : (runQ find S t).1.2 ≠ 0
 ·rw [mintQ, if_pos c1]; exact h1
 rw [mintQ, if_neg c1] at h ⊢
 by_cases c2 : m256 ≤ nat4 (runQ find S t).1.1.sup + nat4 a
 ·rw [if_pos c2]; exact h1
 rw [if_neg c2] at h ⊢
 generalize amtQ find (runQ find S t).2 (balKey t.toNat to) = y at h h2 ⊢
 by_cases c3 : y.1.2 ≠ 0
 ·rw [mintA, if_pos c3]; exact h2
 rw [mintA, if_neg c3] at h ⊢
 by_cases c4 : m256 ≤ nat4 y.1.1 + nat4 a
 ·rw [if_pos c4]; exact h2
 rw [if_neg c4] at h ⊢
 by_cases c5 : a = z4
 ·rw [if_pos c5]; exact h2
 rw [if_neg c5] at h
 exact absurd (lay2_zero hf _ _ hto _) h
theorem tfind_quiet (hq : Quiet R S) (n : Int) : Quiet R (tfindQ find S n).2 := by
 unfold tfindQ
 split
 ·exact hq
 ·exact hq.get _
theorem tk_zero (hf : AllF find) (n : Nat) (bs : List Nat) (hb : bs.length ≤ 4096) : (ptQ find S (tkey n) bs).1 = 0 := pt_zero hf (mayI_ok (by rw [tkey_size]; decide) (by rw [tkey_size]; decide) hb)
theorem open_quiet (hf : AllF find) (hq : Quiet R S) {t : TicketD} (ht : t.wf) (h : (openQ find S t).1.2 ≠ 0) : Quiet R (openQ find S t).2 := by
 by_cases c1 : t.num ≠ 0 ∨ ¬ t.may
 ·rw [openQ, if_pos c1]; exact hq
 rw [openQ, if_neg c1] at h ⊢
 have h1 : Quiet R (madeQ find S).2 := hq.get ntK
 generalize madeQ find S = g at h h1 ⊢
 by_cases c2 : g.1.2 ≠ 0
 ·rw [openA, if_pos c2]; exact h1
 rw [openA, if_neg c2] at h ⊢
 by_cases c3 : 1099511627776 ≤ g.1.1
 ·rw [if_pos c3]; exact h1
 rw [if_neg c3, openB, if_neg (fun e => e (tk_zero hf _ _ (by rw [TicketD.value_len ht]; decide)))] at h
 exact absurd rfl h
theorem retry_quiet (hf : AllF find) (hq : Quiet R S) (n : Int) (h : (retryQ find S n).1 ≠ 0) : Quiet R (retryQ find S n).2 := by
 have h1 := tfind_quiet (find := find) hq n
 have hw := tfindQ_wf find S n
 rw [retryQ] at h ⊢
 generalize tfindQ find S n = g at h h1 hw ⊢
 by_cases c1 : g.1.2 ≠ 0
 ·rw [retryA, if_pos c1]; exact h1
 rw [retryA, if_neg c1] at h ⊢
 by_cases c2 : (mintQ find g.2 g.1.1.tok g.1.1.to g.1.1.amt).1 ≠ 0
 ·rw [retryB, if_pos c2]
  exact mint_quiet hf h1 _ hw.to _ c2
 ·rw [retryB, if_neg c2] at h
  exact absurd (tk_zero hf _ _ (by decide)) h
theorem cancel_quiet (hf : AllF find) (hq : Quiet R S) (n : Int) (a : List Nat) (h : (cancelQ find S n a).1.2 ≠ 0) : Quiet R (cancelQ find S n a).2 := by
 have h1 := tfind_quiet (find := find) hq n
 rw [cancelQ] at h ⊢
 generalize tfindQ find S n = g at h h1 ⊢
 by_cases c1 : g.1.2 ≠ 0
 ·rw [cancelA, if_pos c1]; exact h1
 rw [cancelA, if_neg c1] at h ⊢
 by_cases c2 : g.1.1.snd ≠ a
 ·rw [if_pos c2]; exact h1
 rw [if_neg c2, cancelB, if_neg (fun e => e (tk_zero hf _ _ (by decide)))] at h
 exact absurd rfl h
theorem tick_quiet (hf : AllF find) (hI : Inv9 R) {x : StepT} (hx : x.wf) (h12 : pickN x.what 14 < 12) (h : (stepTk find R x).1.code ≠ 0) : changesQ (stepTk find R x).2 = changesQ R := by
 have hq := Quiet.refl hI
 suffices Quiet R (stepTk find R x).2 from this.same
 unfold stepTk at h ⊢
 generalize pickN x.what 14 = j at h12 h ⊢
 match j, h12 with
 | 0, _ => exact open_quiet hf hq hx.t h
 | 1, _ => exact open_quiet hf hq hx.t h
 | 2, _ => exact open_quiet hf hq hx.t h
 | 3, _ => exact tfind_quiet hq _
 | 4, _ => exact hq.get ntK
 | 5, _ => exact retry_quiet hf hq _ h
 | 6, _ => exact retry_quiet hf hq _ h
 | 7, _ => exact cancel_quiet hf hq _ _ h
 | 8, _ => exact cancel_quiet hf hq _ _ h
 | 9, _ => exact register_quiet hf hq _ h
 | 10, _ => exact pause_quiet hf hq _ h
 | 11, _ => exact resume_quiet hf hq _ h
end
end Go.Sl
