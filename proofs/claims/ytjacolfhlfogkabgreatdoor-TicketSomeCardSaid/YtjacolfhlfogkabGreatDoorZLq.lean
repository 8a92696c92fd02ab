import Derived.Test.YtjacolfhlfogkabGreatDoorZQh
import Derived.Test.YtjacolfhlfogkabGreatDoorZLm
namespace Go.Sl
open Go
abbrev SrcF := ByteArray → List Nat × Int
def gtQ (find : SrcF) (R : RSt) (key : ByteArray) : (List Nat × Int) × RSt := getQ (find key) R key
def ptQ (find : SrcF) (R : RSt) (key : ByteArray) (bs : List Nat) : Int × RSt := putQ (find key) R key bs
def amtOf (g : (List Nat × Int) × RSt) : (List Nat × Int) × RSt := (if g.1.2 ≠ 0 then (z4, g.1.2) else amtR g.1.1, g.2)
def tokOf (g : (List Nat × Int) × RSt) : (TokD × Int) × RSt := (if g.1.2 ≠ 0 then (zTok, g.1.2) else tokR g.1.1, g.2)
def thereOf (x : (TokD × Int) × RSt) : (TokD × Int) × RSt := (if x.1.2 ≠ 0 then (zTok, x.1.2) else if x.1.1 = zTok then (zTok, 81) else x.1, x.2)
def runOf (x : (TokD × Int) × RSt) : (TokD × Int) × RSt := (if x.1.2 = 0 ∧ x.1.1.paused = true then (zTok, 83) else x.1, x.2)
def amtQ (find : SrcF) (R : RSt) (key : ByteArray) : (List Nat × Int) × RSt := amtOf (gtQ find R key)
def layQ (find : SrcF) (R : RSt) (key : ByteArray) (a : List Nat) : Int × RSt := ptQ find R key (amtB a)
def layTokQ (find : SrcF) (R : RSt) (t : Nat) (d : TokD) : Int × RSt := ptQ find R (tokKey t) (tokB d)
def tokenQ (find : SrcF) (R : RSt) (t : Int) : (TokD × Int) × RSt := if begE t ≠ 0 then ((zTok, begE t), R) else tokOf (gtQ find R (tokKey t.toNat))
def thereQ (find : SrcF) (R : RSt) (t : Int) : (TokD × Int) × RSt := thereOf (tokenQ find R t)
def runQ (find : SrcF) (R : RSt) (t : Int) : (TokD × Int) × RSt := runOf (thereQ find R t)
def registerQ (find : SrcF) (R : RSt) (t : Int) : Int × RSt :=
 if (tokenQ find R t).1.2 ≠ 0 then ((tokenQ find R t).1.2, (tokenQ find R t).2) else
 if (tokenQ find R t).1.1.there = true then (82, (tokenQ find R t).2) else layTokQ find (tokenQ find R t).2 t.toNat zTok
def pauseQ (find : SrcF) (R : RSt) (t : Int) : Int × RSt :=
 if (runQ find R t).1.2 ≠ 0 then ((runQ find R t).1.2, (runQ find R t).2) else layTokQ find (runQ find R t).2 t.toNat { (runQ find R t).1.1 with paused := true }
def resumeQ (find : SrcF) (R : RSt) (t : Int) : Int × RSt :=
 if (thereQ find R t).1.2 ≠ 0 then ((thereQ find R t).1.2, (thereQ find R t).2) else
 if (thereQ find R t).1.1.paused = false then (84, (thereQ find R t).2) else layTokQ find (thereQ find R t).2 t.toNat { (thereQ find R t).1.1 with paused := false }
def lay2Q (find : SrcF) (R : RSt) (t : Nat) (d : TokD) (key : ByteArray) (a : List Nat) : Int × RSt :=
 if (layTokQ find R t d).1 ≠ 0 then layTokQ find R t d else layQ find (layTokQ find R t d).2 key a
def mintA (find : SrcF) (t : Int) (to a : List Nat) (d : TokD) (y : (List Nat × Int) × RSt) : Int × RSt :=
 if y.1.2 ≠ 0 then (y.1.2, y.2) else
 if m256 ≤ nat4 y.1.1 + nat4 a then (75, y.2) else
 if a = z4 then (0, y.2) else lay2Q find y.2 t.toNat { d with sup := addL d.sup a } (balKey t.toNat to) (addL y.1.1 a)
def mintQ (find : SrcF) (R : RSt) (t : Int) (to a : List Nat) : Int × RSt :=
 if (runQ find R t).1.2 ≠ 0 then ((runQ find R t).1.2, (runQ find R t).2) else
 if m256 ≤ nat4 (runQ find R t).1.1.sup + nat4 a then (87, (runQ find R t).2) else
 mintA find t to a (runQ find R t).1.1 (amtQ find (runQ find R t).2 (balKey t.toNat to))
section
variable (find : SrcF)
theorem amtQ_ok (R : RSt) (key : ByteArray) : wOk (amtQ find R key).1.1 := by
 unfold amtQ amtOf
 show wOk (if _ then _ else _ : List Nat × Int).1
 split
 ·exact zero4_ok
 ·exact amtR_ok _
theorem tokenQ_ok (R : RSt) (t : Int) : wOk (tokenQ find R t).1.1.sup := by
 unfold tokenQ
 split
 ·exact zero4_ok
 ·unfold tokOf
  show wOk (if _ then _ else _ : TokD × Int).1.sup
  split
  ·exact zero4_ok
  ·exact tokR_ok _
theorem thereQ_ok (R : RSt) (t : Int) : wOk (thereQ find R t).1.1.sup := by
 unfold thereQ thereOf
 show wOk (if _ then _ else _ : TokD × Int).1.sup
 split
 ·exact zero4_ok
 ·split
  ·exact zero4_ok
  ·exact tokenQ_ok find R t
theorem runQ_ok (R : RSt) (t : Int) : wOk (runQ find R t).1.1.sup := by
 unfold runQ runOf
 show wOk (if _ then _ else _ : TokD × Int).1.sup
 split
 ·exact zero4_ok
 ·exact thereQ_ok find R t
theorem tokenQ_nat {R : RSt} {t : Int} (h : (tokenQ find R t).1.2 = 0) : ∃ m : Nat, t = m ∧ m < 64 := by
 unfold tokenQ at h
 split at h
 ·rename_i h1; exact absurd h h1
 ·rename_i h1; exact begE_nat (Classical.not_not.1 h1)
theorem thereQ_nat {R : RSt} {t : Int} (h : (thereQ find R t).1.2 = 0) : ∃ m : Nat, t = m ∧ m < 64 := by
 unfold thereQ thereOf at h
 simp only at h
 split at h
 ·rename_i h1; exact absurd h h1
 ·rename_i h1; exact tokenQ_nat find (Classical.not_not.1 h1)
theorem runQ_nat {R : RSt} {t : Int} (h : (runQ find R t).1.2 = 0) : ∃ m : Nat, t = m ∧ m < 64 := by
 unfold runQ runOf at h
 simp only at h
 split at h
 ·cases h
 ·exact thereQ_nat find h
theorem gtQ_steps (R : RSt) (key : ByteArray) : (gtQ find R key).2.steps = R.steps := getQ_bounds.2.1
theorem amtQ_steps (R : RSt) (key : ByteArray) : (amtQ find R key).2.steps = R.steps := gtQ_steps find R key
theorem tokenQ_steps (R : RSt) (t : Int) : (tokenQ find R t).2.steps = R.steps := by
 unfold tokenQ
 split
 ·rfl
 ·exact gtQ_steps find R _
theorem thereQ_steps (R : RSt) (t : Int) : (thereQ find R t).2.steps = R.steps := tokenQ_steps find R t
theorem runQ_steps (R : RSt) (t : Int) : (runQ find R t).2.steps = R.steps := tokenQ_steps find R t
theorem ptQ_steps (R : RSt) (key : ByteArray) (bs : List Nat) : (ptQ find R key bs).2.steps.length ≤ R.steps.length + 1 := putQ_bounds.2.1
end
end Go.Sl
