import Derived.Test.YtjacolfhlfogkabGreatDoorZCh
import Derived.Test.YtjacolfhlfogkabGreatDoorZAr
import Derived.Test.YtjacolfhlfogkabGreatDoorZTq
namespace Go.Sl
open Go
structure StepS where
 kind : Int
 key : ByteArray
 v : Value
 bs : List Nat
 mark : Int
def StepS.cells (x : StepS) : List Value := [.int .i64 x.kind, .string x.key, x.v, .int .i64 x.mark]
theorem chS_rd {l : List ChD} {M : List HP} (hv : ∀ d ∈ l, SlV d.ov d.old.length ∧ SlV d.nv d.new.length) : ∀ d ∈ l, RdS (chS l ++ M) d.ov d.old.length (bvs d.old) ∧ RdS (chS l ++ M) d.nv d.new.length (bvs d.new) := by
 induction l with
 | nil => intro d hd; cases hd
 | cons e l ih =>
  intro d hd
  have h1 := hv e (by simp)
  show RdS (own 1 e.ov e.old.length (bvs e.old) :: own 1 e.nv e.new.length (bvs e.new) :: (chS l ++ M)) _ _ _ ∧ RdS (own 1 e.ov e.old.length (bvs e.old) :: own 1 e.nv e.new.length (bvs e.new) :: (chS l ++ M)) _ _ _
  rcases List.mem_cons.1 hd with rfl | hd
  ·exact ⟨own_rd h1.1 (by rw [bvs_len, Nat.mul_one]), (own_rd h1.2 (by rw [bvs_len, Nat.mul_one])).tl⟩
  ·have h2 := ih (fun d hd => hv d (by simp [hd])) d hd
   exact ⟨h2.1.tl.tl, h2.2.tl.tl⟩
end Go.Sl
namespace Go.Sl
open Go
def Inv9 (R : RSt) : Prop := ∀ p ∈ R.steps, p.1 ∈ R.told.map (·.1)
theorem atL_ins_ne {l : List KB} {k j : ByteArray} {v : List Nat} (hk : k ∉ l.map (·.1)) (hj : j ≠ k) : atL (insL l k v) j = atL l j := by
 rw [insL_new hk]
 have e : l = l.takeWhile (fun p => slt p.1 k) ++ l.dropWhile (fun p => slt p.1 k) := (List.takeWhile_append_dropWhile).symm
 have hne : ¬(k = j) := fun e => hj e.symm
 conv => rhs; rw [e]
 unfold atL
 rw [List.find?_append, List.find?_append, List.find?_cons]
 simp [hne]
theorem lastS_none {l : List KB} {k : ByteArray} (h : k ∉ l.map (·.1)) : lastS l k = none := by
 unfold lastS
 rw [atL_none, List.map_reverse, List.mem_reverse]
 exact h
theorem changes_ask {R : RSt} (hI : Inv9 R) (f : List Nat × Int) (k : ByteArray) : changesQ (askQ f R k) = changesQ R := by
 unfold askQ
 split
 ·rfl
 ·rename_i hn
  have hk : k ∉ R.told.map (·.1) := by rw [← atL_none]; simpa using hn
  split
  ·have hs : k ∉ R.steps.map (·.1) := fun h => by
    obtain ⟨p, hp, e⟩ := List.mem_map.1 h
    exact hk (e ▸ hI p hp)
   obtain ⟨R', hR⟩ : ∃ R' : RSt, R' = { R with told := insL R.told k f.1 } := ⟨_, rfl⟩
   rw [← hR]
   have hv : ∀ p ∈ R.told, R'.val p.1 = R.val p.1 := fun p hp => by
    have hne : p.1 ≠ k := fun e => hk (by rw [← e]; exact List.mem_map_of_mem hp)
    rw [hR]
    unfold RSt.val
    show (lastS R.steps p.1).getD ((atL (insL R.told k f.1) p.1).getD []) = _
    rw [atL_ins_ne hk hne]
   have hw : R'.val k = f.1 := by
    rw [hR]
    unfold RSt.val
    show (lastS R.steps k).getD ((atL (insL R.told k f.1) k).getD []) = _
    rw [lastS_none hs, atL_ins hk]
    rfl
   have ht : R'.told = R.told.takeWhile (fun p => slt p.1 k) ++ (k, f.1) :: R.told.dropWhile (fun p => slt p.1 k) := by rw [hR]; exact insL_new hk
   unfold changesQ
   have e1 : R'.told.filter (fun p => !decide (strB (R'.val p.1) = strB p.2)) = R.told.filter (fun p => !decide (strB (R.val p.1) = strB p.2)) := by
    rw [ht, List.filter_append, List.filter_cons_of_neg (by rw [hw]; simp), ← List.filter_append, List.takeWhile_append_dropWhile]
    refine List.filter_congr fun p hp => ?_
    rw [hv p hp]
   rw [e1]
   refine List.map_congr_left fun p hp => ?_
   rw [hv p (List.mem_filter.1 hp).1]
  ·rfl
theorem Inv9.ask {R : RSt} (hI : Inv9 R) (f : List Nat × Int) (k : ByteArray) : Inv9 (askQ f R k) := by
 unfold askQ
 split
 ·exact hI
 ·rename_i hn
  have hk : k ∉ R.told.map (·.1) := by rw [← atL_none]; simpa using hn
  split
  ·intro p hp
   have := hI p hp
   show p.1 ∈ (insL R.told k f.1).map (·.1)
   rw [((insL_perm (v := f.1) hk).map (·.1)).mem_iff, List.map_append]
   exact List.mem_append_left _ this
  ·exact hI
theorem Inv9.mark {R : RSt} (h : Inv9 R) : Inv9 (markQ R).2 := h
theorem Inv9.back {R : RSt} (h : Inv9 R) (m : Int) : Inv9 (backQ R m).2 := by
 unfold backQ
 split
 ·exact h
 ·exact fun p hp => h p (List.mem_of_mem_take hp)
structure Quiet (R S : RSt) : Prop where
 inv : Inv9 S
 same : changesQ S = changesQ R
section
variable {find : SrcF} {R S : RSt}
theorem Quiet.get (h : Quiet R S) (k : ByteArray) : Quiet R (gtQ find S k).2 := by
 unfold gtQ
 rw [getQ_state]
 split
 ·exact ⟨h.inv.ask _ _, (changes_ask h.inv _ _).trans h.same⟩
 ·exact h
theorem Quiet.amt (h : Quiet R S) (k : ByteArray) : Quiet R (amtQ find S k).2 := h.get k
theorem Quiet.token (h : Quiet R S) (t : Int) : Quiet R (tokenQ find S t).2 := by
 unfold tokenQ
 split
 ·exact h
 ·exact h.get _
theorem Quiet.there (h : Quiet R S) (t : Int) : Quiet R (thereQ find S t).2 := h.token t
end
end Go.Sl
