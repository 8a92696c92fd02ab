import Derived.Test.YtjacolfhlfogkabGreatDoorZQd
import Derived.Test.YtjacolfhlfogkabGreatDoorZLm
namespace Go.Sl
open Go
structure SrcH (P : Program) (F : List HP) (src : Value) (key : ByteArray) (T : List HP) (f : List Nat × Int) (Φ : List HP → Prop) : Prop where
 out : ∃ t u g r, src = .iface t u ∧ (∀ w, (method (P.types.size + Made.depth) t u "Find").run P w = .ok (g, r) w) ∧ callOk P g = true ∧
  ∀ (L : List HP), SpecF P g [r, .string key] (L ++ F) T (fun v L' => ∃ x D T', Φ T' ∧ v = .tuple #[x, .int .i64 f.2] ∧ (f.2 = 0 → RdS (D ++ T') x f.1.length (bvs f.1)) ∧ L' = D ++ T')
theorem SrcG.h {P : Program} {F : List HP} {src : Value} {find : ByteArray → List Nat × Int} (h : SrcG P F src find) (key : ByteArray) : SrcH P F src key [] (find key) (· = []) := by
 obtain ⟨t, u, f, r, h1, h2, h3, h4⟩ := h.out
 refine ⟨t, u, f, r, h1, h2, h3, fun L => (h4 key L).turn fun v L' hv => ?_⟩
 obtain ⟨x, hx, rfl, rfl⟩ := hv
 exact ⟨_, ⟨x, [own 1 x (find key).1.length (bvs (find key).1)], [], rfl, rfl, fun _ => own_rd hx (by rw [bvs_len, Nat.mul_one]), by rw [List.append_nil]⟩, Ent.refl _⟩
def asksQ (R : RSt) (key : ByteArray) : Bool := decide (mayI key 0 = 0) && !(atL R.told key).isSome
def behind (R : RSt) (key : ByteArray) (T : List HP) (Φ : List HP → Prop) (T' : List HP) : Prop := if asksQ R key then Φ T' else T' = T
theorem behind_nil {R : RSt} {key : ByteArray} {T' : List HP} (h : behind R key [] (· = []) T') : T' = [] := by
 unfold behind at h
 split at h <;> exact h
theorem Ent.dropR (D T : List HP) : Ent (D ++ T) T := fun w F hs => by
 rw [List.append_assoc] at hs
 exact hs.right
theorem swapE (A B : List HP) : Ent (A ++ B) (B ++ A) := Ent.perm List.perm_append_comm
end Go.Sl
namespace Go.Sl
open Go
abbrev SrcF := ByteArray → List Nat × Int
def gtQ (find : SrcF) (R : RSt) (key : ByteArray) : (List Nat × Int) × RSt := getQ (find key) R key
def ptQ (find : SrcF) (R : RSt) (key : ByteArray) (bs : List Nat) : Int × RSt := putQ (find key) R key bs
def amtOf (g : (List Nat × Int) × RSt) : (List Nat × Int) × RSt := (if g.1.2 ≠ 0 then (z4, g.1.2) else amtR g.1.1, g.2)
def tokOf (g : (List Nat × Int) × RSt) : (TokD × Int) × RSt := (if g.1.2 ≠ 0 then (zTok, g.1.2) else tokR g.1.1, g.2)
def thereOf (x : (TokD × Int) × RSt) : (TokD × Int) × RSt := (if x.1.2 ≠ 0 then (zTok, x.1.2) else if x.1.1 = zTok then (zTok, 81) else x.1, x.2)
def runOf (x : (TokD × Int) × RSt) : (TokD × Int) × RSt := (if x.1.2 = 0 ∧ x.1.1.paused = true then (zTok, 83) else x.1, x.2)
def amtQ (find : SrcF) (R : RSt) (key : ByteArray) : (List Nat × Int) × RSt := amtOf (gtQ find R key)
def layQ (find : SrcF) (R : RSt) (key : ByteArray) (a : List Nat) : Int × RSt := ptQ find R key (amtB a)
def layTokQ (find : SrcF) (R : RSt) (t : Nat) (d : TokD) : Int × RSt := ptQ find R (tokKey t) (tokB d)
def tokenQ (find : SrcF) (R : RSt) (t : Int) : (TokD × Int) × RSt := if begE t ≠ 0 then ((zTok, begE t), R) else tokOf (gtQ find R (tokKey t.toNat))
def thereQ (find : SrcF) (R : RSt) (t : Int) : (TokD × Int) × RSt := thereOf (tokenQ find R t)
def runQ (find : SrcF) (R : RSt) (t : Int) : (TokD × Int) × RSt := runOf (thereQ find R t)
def registerQ (find : SrcF) (R : RSt) (t : Int) : Int × RSt :=
 if (tokenQ find R t).1.2 ≠ 0 then ((tokenQ find R t).1.2, (tokenQ find R t).2) else
 if (tokenQ find R t).1.1.there = true then (82, (tokenQ find R t).2) else layTokQ find (tokenQ find R t).2 t.toNat zTok
def pauseQ (find : SrcF) (R : RSt) (t : Int) : Int × RSt :=
 if (runQ find R t).1.2 ≠ 0 then ((runQ find R t).1.2, (runQ find R t).2) else layTokQ find (runQ find R t).2 t.toNat { (runQ find R t).1.1 with paused := true }
def resumeQ (find : SrcF) (R : RSt) (t : Int) : Int × RSt :=
 if (thereQ find R t).1.2 ≠ 0 then ((thereQ find R t).1.2, (thereQ find R t).2) else
 if (thereQ find R t).1.1.paused = false then (84, (thereQ find R t).2) else layTokQ find (thereQ find R t).2 t.toNat { (thereQ find R t).1.1 with paused := false }
def balQ (find : SrcF) (R : RSt) (t : Int) (a : List Nat) : (List Nat × Int) × RSt := if begE t ≠ 0 then ((z4, begE t), R) else amtQ find R (balKey t.toNat a)
def allowedQ (find : SrcF) (R : RSt) (t : Int) (o s : List Nat) : (List Nat × Int) × RSt := if begE t ≠ 0 then ((z4, begE t), R) else amtQ find R (allKey t.toNat o s)
def lay2Q (find : SrcF) (R : RSt) (t : Nat) (d : TokD) (key : ByteArray) (a : List Nat) : Int × RSt :=
 if (layTokQ find R t d).1 ≠ 0 then layTokQ find R t d else layQ find (layTokQ find R t d).2 key a
def mintA (find : SrcF) (t : Int) (to a : List Nat) (d : TokD) (y : (List Nat × Int) × RSt) : Int × RSt :=
 if y.1.2 ≠ 0 then (y.1.2, y.2) else
 if m256 ≤ nat4 y.1.1 + nat4 a then (75, y.2) else
 if a = z4 then (0, y.2) else lay2Q find y.2 t.toNat { d with sup := addL d.sup a } (balKey t.toNat to) (addL y.1.1 a)
def mintQ (find : SrcF) (R : RSt) (t : Int) (to a : List Nat) : Int × RSt :=
 if (runQ find R t).1.2 ≠ 0 then ((runQ find R t).1.2, (runQ find R t).2) else
 if m256 ≤ nat4 (runQ find R t).1.1.sup + nat4 a then (87, (runQ find R t).2) else
 mintA find t to a (runQ find R t).1.1 (amtQ find (runQ find R t).2 (balKey t.toNat to))
def burnA (find : SrcF) (t : Int) (fr a : List Nat) (d : TokD) (y : (List Nat × Int) × RSt) : Int × RSt :=
 if y.1.2 ≠ 0 then (y.1.2, y.2) else
 if nat4 y.1.1 < nat4 a then (85, y.2) else
 if nat4 d.sup < nat4 a then (75, y.2) else
 if a = z4 then (0, y.2) else lay2Q find y.2 t.toNat { d with sup := subL d.sup a } (balKey t.toNat fr) (subL y.1.1 a)
def burnQ (find : SrcF) (R : RSt) (t : Int) (fr a : List Nat) : Int × RSt :=
 if (runQ find R t).1.2 ≠ 0 then ((runQ find R t).1.2, (runQ find R t).2) else
 burnA find t fr a (runQ find R t).1.1 (amtQ find (runQ find R t).2 (balKey t.toNat fr))
def fundsB (fr to a less : List Nat) (y : (List Nat × Int) × RSt) : FundR × RSt :=
 if y.1.2 ≠ 0 ∨ fr = to then (⟨less, y.1.1, y.1.2⟩, y.2) else
 if m256 ≤ nat4 y.1.1 + nat4 a then (⟨less, z4, 75⟩, y.2) else (⟨less, addL y.1.1 a, 0⟩, y.2)
def fundsA (find : SrcF) (t : Nat) (fr to a : List Nat) (x : (List Nat × Int) × RSt) : FundR × RSt :=
 if x.1.2 ≠ 0 then (⟨z4, z4, x.1.2⟩, x.2) else
 if nat4 x.1.1 < nat4 a then (⟨z4, z4, 85⟩, x.2) else fundsB fr to a (subL x.1.1 a) (amtQ find x.2 (balKey t to))
def fundsQ (find : SrcF) (R : RSt) (t : Nat) (fr to a : List Nat) : FundR × RSt := fundsA find t fr to a (amtQ find R (balKey t fr))
def turnQ (find : SrcF) (R : RSt) (t : Nat) (fr to a less more : List Nat) : Int × RSt :=
 if fr = to ∨ a = z4 then (0, R) else
 if (layQ find R (balKey t fr) less).1 ≠ 0 then layQ find R (balKey t fr) less else layQ find (layQ find R (balKey t fr) less).2 (balKey t to) more
def moveB (find : SrcF) (t : Nat) (fr to a : List Nat) (f : FundR × RSt) : Int × RSt := if f.1.e ≠ 0 then (f.1.e, f.2) else turnQ find f.2 t fr to a f.1.less f.1.more
def moveQ (find : SrcF) (R : RSt) (t : Int) (fr to a : List Nat) : Int × RSt :=
 if (runQ find R t).1.2 ≠ 0 then ((runQ find R t).1.2, (runQ find R t).2) else moveB find t.toNat fr to a (fundsQ find (runQ find R t).2 t.toNat fr to a)
def allowQ (find : SrcF) (R : RSt) (t : Int) (o s a : List Nat) : Int × RSt :=
 if (thereQ find R t).1.2 ≠ 0 then ((thereQ find R t).1.2, (thereQ find R t).2) else layQ find (thereQ find R t).2 (allKey t.toNat o s) a
def pullB (find : SrcF) (t : Nat) (sp fr to a may : List Nat) (f : FundR × RSt) : Int × RSt :=
 if f.1.e ≠ 0 then (f.1.e, f.2) else
 if a = z4 then turnQ find f.2 t fr to a f.1.less f.1.more else
 if (layQ find f.2 (allKey t fr sp) may).1 ≠ 0 then layQ find f.2 (allKey t fr sp) may else turnQ find (layQ find f.2 (allKey t fr sp) may).2 t fr to a f.1.less f.1.more
def pullA (find : SrcF) (t : Nat) (sp fr to a : List Nat) (y : (List Nat × Int) × RSt) : Int × RSt :=
 if y.1.2 ≠ 0 then (y.1.2, y.2) else
 if nat4 y.1.1 < nat4 a then (86, y.2) else pullB find t sp fr to a (subL y.1.1 a) (fundsQ find y.2 t fr to a)
def pullQ (find : SrcF) (R : RSt) (t : Int) (sp fr to a : List Nat) : Int × RSt :=
 if (runQ find R t).1.2 ≠ 0 then ((runQ find R t).1.2, (runQ find R t).2) else pullA find t.toNat sp fr to a (amtQ find (runQ find R t).2 (allKey t.toNat fr sp))
section
variable (find : SrcF)
theorem amtQ_ok (R : RSt) (key : ByteArray) : wOk (amtQ find R key).1.1 := by
 unfold amtQ amtOf
 show wOk (if _ then _ else _ : List Nat × Int).1
 split
 ·exact zero4_ok
 ·exact amtR_ok _
theorem tokenQ_ok (R : RSt) (t : Int) : wOk (tokenQ find R t).1.1.sup := by
 unfold tokenQ
 split
 ·exact zero4_ok
 ·unfold tokOf
  show wOk (if _ then _ else _ : TokD × Int).1.sup
  split
  ·exact zero4_ok
  ·exact tokR_ok _
theorem thereQ_ok (R : RSt) (t : Int) : wOk (thereQ find R t).1.1.sup := by
 unfold thereQ thereOf
 show wOk (if _ then _ else _ : TokD × Int).1.sup
 split
 ·exact zero4_ok
 ·split
  ·exact zero4_ok
  ·exact tokenQ_ok find R t
theorem runQ_ok (R : RSt) (t : Int) : wOk (runQ find R t).1.1.sup := by
 unfold runQ runOf
 show wOk (if _ then _ else _ : TokD × Int).1.sup
 split
 ·exact zero4_ok
 ·exact thereQ_ok find R t
theorem fundsQ_ok (R : RSt) (t : Nat) (fr to a : List Nat) : wOk (fundsQ find R t fr to a).1.less ∧ wOk (fundsQ find R t fr to a).1.more := by
 unfold fundsQ fundsA fundsB
 (repeat' split) <;> exact ⟨by first | exact zero4_ok | exact w4_ok _, by first | exact zero4_ok | exact w4_ok _ | exact amtQ_ok find _ _⟩
theorem tokenQ_nat {R : RSt} {t : Int} (h : (tokenQ find R t).1.2 = 0) : ∃ m : Nat, t = m ∧ m < 64 := by
 unfold tokenQ at h
 split at h
 ·rename_i h1; exact absurd h h1
 ·rename_i h1; exact begE_nat (Classical.not_not.1 h1)
theorem thereQ_nat {R : RSt} {t : Int} (h : (thereQ find R t).1.2 = 0) : ∃ m : Nat, t = m ∧ m < 64 := by
 unfold thereQ thereOf at h
 simp only at h
 split at h
 ·rename_i h1; exact absurd h h1
 ·rename_i h1; exact tokenQ_nat find (Classical.not_not.1 h1)
theorem runQ_nat {R : RSt} {t : Int} (h : (runQ find R t).1.2 = 0) : ∃ m : Nat, t = m ∧ m < 64 := by
 unfold runQ runOf at h
 simp only at h
 split at h
 ·cases h
 ·exact thereQ_nat find h
theorem gtQ_steps (R : RSt) (key : ByteArray) : (gtQ find R key).2.steps = R.steps := getQ_bounds.2.1
theorem amtQ_steps (R : RSt) (key : ByteArray) : (amtQ find R key).2.steps = R.steps := gtQ_steps find R key
theorem tokenQ_steps (R : RSt) (t : Int) : (tokenQ find R t).2.steps = R.steps := by
 unfold tokenQ
 split
 ·rfl
 ·exact gtQ_steps find R _
theorem thereQ_steps (R : RSt) (t : Int) : (thereQ find R t).2.steps = R.steps := tokenQ_steps find R t
theorem runQ_steps (R : RSt) (t : Int) : (runQ find R t).2.steps = R.steps := tokenQ_steps find R t
theorem fundsQ_steps (R : RSt) (t : Nat) (fr to a : List Nat) : (fundsQ find R t fr to a).2.steps = R.steps := by
 unfold fundsQ fundsA fundsB
 (repeat' split) <;> simp [amtQ_steps]
theorem ptQ_steps (R : RSt) (key : ByteArray) (bs : List Nat) : (ptQ find R key bs).2.steps.length ≤ R.steps.length + 1 := putQ_bounds.2.1
end
end Go.Sl
