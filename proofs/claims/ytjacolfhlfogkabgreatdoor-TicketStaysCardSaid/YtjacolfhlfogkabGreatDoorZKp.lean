import Derived.Test.YtjacolfhlfogkabGreatDoorZLm
import Derived.Test.YtjacolfhlfogkabGreatDoorZWd
import Derived.Test.YtjacolfhlfogkabGreatDoorZLq
import Derived.Test.YtjacolfhlfogkabGreatDoorZMk
import Derived.Test.YtjacolfhlfogkabGreatDoorZCh
namespace Go.Sl
open Go
structure StepD where
 what : Int
 tok : Int
 a : List Nat
 b : List Nat
 c : List Nat
 amt : List Nat
structure StepD.wf (x : StepD) : Prop where
 w1 : -9223372036854775808 ≤ x.what
 w2 : x.what ≤ 9223372036854775807
 t1 : -9223372036854775808 ≤ x.tok
 t2 : x.tok ≤ 9223372036854775807
 a : adr x.a
 b : adr x.b
 c : adr x.c
 amt : wOk x.amt
def StepD.cells (x : StepD) : List Value := .int .i64 x.what :: .int .i64 x.tok :: (bvs x.a ++ (bvs x.b ++ (bvs x.c ++ uvs x.amt)))
def stepK : List LK := .int .i64 :: .int .i64 :: (List.replicate 20 (.int .u8) ++ (List.replicate 20 (.int .u8) ++ (List.replicate 20 (.int .u8) ++ List.replicate 4 (.int .u64))))
theorem step_of {cs : List Value} (h : wtr stepK cs) : ∃ x : StepD, x.wf ∧ cs = x.cells := by
 unfold stepK at h
 obtain ⟨c1, cs1, rfl, ⟨w, rfl, h2⟩, h8⟩ := wtr_cons h
 obtain ⟨c2, cs2, rfl, ⟨t, rfl, h4⟩, h5⟩ := wtr_cons h8
 obtain ⟨h6, h7⟩ := wtr_append h5
 obtain ⟨h9, h10⟩ := wtr_append h7
 obtain ⟨h11, h12⟩ := wtr_append h10
 obtain ⟨la, a1, a2, a3⟩ := wtr_u8 h6
 obtain ⟨lb, b1, b2, b3⟩ := wtr_u8 h9
 obtain ⟨lc, k1, k2, k3⟩ := wtr_u8 h11
 obtain ⟨m, m1, m2, m3⟩ := wtr_u64 h12
 refine ⟨⟨w, t, la, lb, lc, m⟩, ⟨(i64_of_wf h2).1, (i64_of_wf h2).2, (i64_of_wf h4).1, (i64_of_wf h4).2, ⟨a1, a2⟩, ⟨b1, b2⟩, ⟨k1, k2⟩, ⟨m1, m2⟩⟩, ?_⟩
 rw [StepD.cells, ← a3, ← b3, ← k3, ← m3, List.take_append_drop, List.take_append_drop, List.take_append_drop]
structure ToldD where
 code : Int
 tok : TokD
 amt : List Nat
 mark : Int
def ToldD.cells (x : ToldD) : List Value := .int .i64 x.code :: (x.tok.cells ++ (uvs x.amt ++ [.int .i64 x.mark]))
end Go.Sl
namespace Go.Sl
open Go
structure Lim (R : RSt) (k : Nat) : Prop where
 told : R.told.length + k ≤ 3500000000000
 steps : R.steps.length + k ≤ 4000000000000
 tb : ∀ p ∈ R.told, ∀ b ∈ p.2, b < 256
 sb : ∀ p ∈ R.steps, ∀ b ∈ p.2, b < 256
def SrcF.bytes (find : SrcF) : Prop := ∀ k, ∀ b ∈ (find k).1, b < 256
theorem Lim.mono {R : RSt} {k j : Nat} (h : Lim R k) (hj : j ≤ k) : Lim R j := ⟨by have := h.told; omega, by have := h.steps; omega, h.tb, h.sb⟩
theorem Lim.ask {R : RSt} {k : Nat} {f : List Nat × Int} {key : ByteArray} (h : Lim R (k + 1)) (hf : ∀ b ∈ f.1, b < 256) : Lim (askQ f R key) k ∧ (askQ f R key).steps = R.steps := by
 have h1 := getQ_told (R := R) (f := f) (key := key)
 have h2 := (askQ_steps (R := R) (f := f) (key := key)).1
 refine ⟨⟨by have := h.told; omega, by rw [h2]; have := h.steps; omega, ?_, by rw [h2]; exact h.sb⟩, h2⟩
 unfold askQ
 split
 ·exact h.tb
 ·split
  ·intro p hp b hb
   rcases insL_mem hp with e | e
   ·rw [e] at hb; exact hf b hb
   ·exact h.tb p e b hb
  ·exact h.tb
theorem Lim.val {R : RSt} {k : Nat} (h : Lim R k) (key : ByteArray) : ∀ b ∈ R.val key, b < 256 := by
 unfold RSt.val
 cases hs : lastS R.steps key with
 | some v => exact h.sb _ (List.mem_reverse.1 (atL_mem hs))
 | none =>
  cases ht : atL R.told key with
  | some v => exact h.tb _ (atL_mem ht)
  | none => exact fun b hb => absurd hb List.not_mem_nil
theorem Lim.get {find : SrcF} (hb : SrcF.bytes find) {R : RSt} {k : Nat} (h : Lim R (k + 1)) (key : ByteArray) : Lim (gtQ find R key).2 k ∧ ∀ b ∈ (gtQ find R key).1.1, b < 256 := by
 unfold gtQ getQ
 split
 ·exact ⟨h.mono (Nat.le_succ _), fun b hb => absurd hb List.not_mem_nil⟩
 ·have h1 := (h.ask (f := find key) (key := key) (hb key)).1
  refine ⟨h1, ?_⟩
  show ∀ b ∈ (if askI (find key) R key = 0 then _ else _ : List Nat), b < 256
  split
  ·exact h1.val key
  ·exact fun b hb => absurd hb List.not_mem_nil
theorem Lim.put {find : SrcF} (hb : SrcF.bytes find) {R : RSt} {k : Nat} (h : Lim R (k + 1)) (key : ByteArray) {bs : List Nat} (hbs : ∀ b ∈ bs, b < 256) : Lim (ptQ find R key bs).2 k := by
 unfold ptQ putQ
 split
 ·exact h.mono (Nat.le_succ _)
 ·obtain ⟨h1, h2⟩ := h.ask (f := find key) (key := key) (hb key)
  show Lim (if askI (find key) R key = 0 then _ else _) k
  split
  ·refine ⟨h1.told, ?_, h1.tb, ?_⟩
   ·show ((askQ (find key) R key).steps ++ [(key, bs)]).length + k ≤ _
    rw [List.length_append, h2]
    have := h.steps
    show R.steps.length + 1 + k ≤ _
    omega
   ·intro p hp b hb
    rcases List.mem_append.1 hp with e | e
    ·exact h1.sb p e b hb
    ·rw [List.mem_singleton.1 e] at hb; exact hbs b hb
  ·exact h1
theorem Lim.amt {find : SrcF} (hb : SrcF.bytes find) {R : RSt} {k : Nat} (h : Lim R (k + 1)) (key : ByteArray) : Lim (amtQ find R key).2 k := (h.get hb key).1
theorem Lim.token {find : SrcF} (hb : SrcF.bytes find) {R : RSt} {k : Nat} (h : Lim R (k + 1)) (t : Int) : Lim (tokenQ find R t).2 k := by
 unfold tokenQ
 split
 ·exact h.mono (Nat.le_succ _)
 ·exact (h.get hb _).1
theorem Lim.there {find : SrcF} (hb : SrcF.bytes find) {R : RSt} {k : Nat} (h : Lim R (k + 1)) (t : Int) : Lim (thereQ find R t).2 k := h.token hb t
theorem Lim.run {find : SrcF} (hb : SrcF.bytes find) {R : RSt} {k : Nat} (h : Lim R (k + 1)) (t : Int) : Lim (runQ find R t).2 k := h.token hb t
theorem amtB_bytes (a : List Nat) : ∀ b ∈ amtB a, b < 256 := by
 unfold amtB
 split
 ·exact fun b hb => absurd hb List.not_mem_nil
 ·exact wideB_lt a
theorem tokB_bytes (d : TokD) : ∀ b ∈ tokB d, b < 256 := fun b hb => by
 rcases List.mem_cons.1 hb with e | e
 ·rw [e]; split <;> decide
 ·exact wideB_lt _ b e
theorem Lim.lay {find : SrcF} (hb : SrcF.bytes find) {R : RSt} {k : Nat} (h : Lim R (k + 1)) (key : ByteArray) (a : List Nat) : Lim (layQ find R key a).2 k := h.put hb key (amtB_bytes a)
theorem Lim.layTok {find : SrcF} (hb : SrcF.bytes find) {R : RSt} {k : Nat} (h : Lim R (k + 1)) (t : Nat) (d : TokD) : Lim (layTokQ find R t d).2 k := h.put hb _ (tokB_bytes d)
structure Keeps (find : SrcF) (φ : RSt → Prop) : Prop where
 get : ∀ R k, φ R → φ (gtQ find R k).2
 put : ∀ R k bs, φ R → φ (ptQ find R k bs).2
section
variable {find : SrcF} {φ : RSt → Prop} {R : RSt} (hk : Keeps find φ)
include hk
theorem Keeps.token (t : Int) (h : φ R) : φ (tokenQ find R t).2 := by
 unfold tokenQ
 split
 ·exact h
 ·exact hk.get _ _ h
theorem Keeps.amt (k : ByteArray) (h : φ R) : φ (amtQ find R k).2 := hk.get _ _ h
theorem Keeps.lay (k : ByteArray) (a : List Nat) (h : φ R) : φ (layQ find R k a).2 := hk.put _ _ _ h
theorem Keeps.layTok (t : Nat) (d : TokD) (h : φ R) : φ (layTokQ find R t d).2 := hk.put _ _ _ h
theorem Keeps.there (t : Int) (h : φ R) : φ (thereQ find R t).2 := hk.token t h
theorem Keeps.run (t : Int) (h : φ R) : φ (runQ find R t).2 := hk.token t h
theorem Keeps.lay2 (t : Nat) (d : TokD) (k : ByteArray) (a : List Nat) (h : φ R) : φ (lay2Q find R t d k a).2 := by
 unfold lay2Q
 split
 ·exact hk.layTok _ _ h
 ·exact hk.lay _ _ (hk.layTok _ _ h)
end
structure KeepsN (find : SrcF) (φ : Nat → RSt → Prop) : Prop where
 get : ∀ n R k, φ n R → φ (n + 1) (gtQ find R k).2
 put : ∀ n R k bs, (∀ b ∈ bs, b < 256) → φ n R → φ (n + 1) (ptQ find R k bs).2
 mono : ∀ {n m R}, φ n R → n ≤ m → φ m R
section
variable {find : SrcF} {φ : Nat → RSt → Prop} {R : RSt} {n : Nat} (hk : KeepsN find φ)
include hk
theorem KeepsN.token (t : Int) (h : φ n R) : φ (n + 1) (tokenQ find R t).2 := by
 unfold tokenQ
 split
 ·exact hk.mono (h) (by omega)
 ·exact hk.mono (hk.get _ _ _ h) (by omega)
theorem KeepsN.amt (k : ByteArray) (h : φ n R) : φ (n + 1) (amtQ find R k).2 := hk.get _ _ _ h
theorem KeepsN.there (t : Int) (h : φ n R) : φ (n + 1) (thereQ find R t).2 := hk.token t h
end
theorem withF_done {key : ByteArray} {new : KB} : ∀ l : List KB, withL Prod.fst key new true l = l.filter fun p => decide (p.1 ≠ key)
 | [] => rfl
 | p :: l => by
  unfold withL
  rw [List.filter_cons, show (true || !slt p.1 key) = true from rfl, withF_done l]
  by_cases h : p.1 = key <;> simp [h]
theorem withL_perm {key : ByteArray} {new : KB} : ∀ l : List KB, (withL Prod.fst key new false l).Perm (new :: l.filter fun p => decide (p.1 ≠ key))
 | [] => List.Perm.refl _
 | p :: l => by
  have hB : ∀ X : List KB, ((if p.1 = key then [] else [p]) ++ X) = if p.1 = key then X else p :: X := fun X => by split <;> rfl
  have hf : (p :: l).filter (fun p => decide (p.1 ≠ key)) = if p.1 = key then l.filter (fun p => decide (p.1 ≠ key)) else p :: l.filter (fun p => decide (p.1 ≠ key)) := by
   rw [List.filter_cons]
   by_cases h : p.1 = key <;> simp [h]
  unfold withL
  rw [hB, hf]
  cases hs : slt p.1 key
  ·show ([new] ++ if p.1 = key then withL Prod.fst key new true l else p :: withL Prod.fst key new true l).Perm _
   rw [withF_done l]
   exact List.Perm.refl _
  ·show ([] ++ if p.1 = key then withL Prod.fst key new false l else p :: withL Prod.fst key new false l).Perm _
   have ih := withL_perm (key := key) (new := new) l
   split
   ·exact ih
   ·exact (ih.cons p).trans (List.Perm.swap _ _ _)
theorem putP_nodup {key : ByteArray} {bs : List Nat} {l : List KB} (h : (l.map (·.1)).Nodup) : ((putP key bs l).map (·.1)).Nodup := by
 refine List.Nodup.sublist (List.Sublist.map _ List.filter_sublist) ?_
 refine ((withL_perm (key := key) (new := (key, bs)) l).map (·.1)).nodup_iff.2 ?_
 rw [List.map_cons, List.nodup_cons]
 refine ⟨fun hm => ?_, List.Nodup.sublist (List.Sublist.map _ List.filter_sublist) h⟩
 obtain ⟨p, hp, e⟩ := List.mem_map.1 hm
 have := (List.mem_filter.1 hp).2
 simp only [decide_eq_true_eq] at this
 exact this e
theorem fitB_nodup : ∀ (l out : List KB), (out.map (·.1)).Nodup → ((fitB out l).map (·.1)).Nodup
 | [], _, h => h
 | p :: l, out, h => by
  unfold fitB
  refine fitB_nodup l _ ?_
  split
  ·exact putP_nodup h
  ·exact h
end Go.Sl
namespace Go.Sl
open Go
/-! Numbers by eight bytes, there and back -/
theorem tick_ext' : ∀ {a b : TicketD}, a.num = b.num → a.ent = b.ent → a.snd = b.snd → a.tok = b.tok → a.to = b.to → a.amt = b.amt → a = b
 | ⟨_, _, _, _, _, _⟩, ⟨_, _, _, _, _, _⟩, rfl, rfl, rfl, rfl, rfl, rfl => rfl
/-! Keys of tickets are no keys of the ledger -/
section
variable {V : View} {k : ByteArray}
end
/-! Supplies -/
section
variable {m : Md} {W : List (List Nat)}
end
/-! Open tickets -/
section
variable {W : List (List Nat)} {V : View} {m : Md} {op : List TicketD} {cl : List Bool} {all : Nat → Nat}
end
end Go.Sl
