import Derived.Test.YtmfonkklmndhjaaGreatDoorZQd
import Derived.Test.YtmfonkklmndhjaaGreatDoorZKc
import Derived.Test.YtmfonkklmndhjaaGreatDoorZKy
import Derived.Test.YtmfonkklmndhjaaGreatDoorZTt
namespace Go.Sl
open Go
structure SrcH (P : Program) (F : List HP) (src : Value) (key : ByteArray) (T : List HP) (f : List Nat × Int) (Φ : List HP → Prop) : Prop where
 out : ∃ t u g r, src = .iface t u ∧ (∀ w, (method (P.types.size + Made.depth) t u "Find").run P w = .ok (g, r) w) ∧ callOk P g = true ∧
  ∀ (L : List HP), SpecF P g [r, .string key] (L ++ F) T (fun v L' => ∃ x D T', Φ T' ∧ v = .tuple #[x, .int .i64 f.2] ∧ (f.2 = 0 → RdS (D ++ T') x f.1.length (bvs f.1)) ∧ L' = D ++ T')
theorem SrcG.h {P : Program} {F : List HP} {src : Value} {find : ByteArray → List Nat × Int} (h : SrcG P F src find) (key : ByteArray) : SrcH P F src key [] (find key) (· = []) := by
 obtain ⟨t, u, f, r, h1, h2, h3, h4⟩ := h.out
 refine ⟨t, u, f, r, h1, h2, h3, fun L => (h4 key L).turn fun v L' hv => ?_⟩
 obtain ⟨x, hx, rfl, rfl⟩ := hv
 exact ⟨_, ⟨x, [own 1 x (find key).1.length (bvs (find key).1)], [], rfl, rfl, fun _ => own_rd hx (by rw [bvs_len, Nat.mul_one]), by rw [List.append_nil]⟩, Ent.refl _⟩
def asksQ (R : RSt) (key : ByteArray) : Bool := decide (mayI key 0 = 0) && !(atL R.told key).isSome
def behind (R : RSt) (key : ByteArray) (T : List HP) (Φ : List HP → Prop) (T' : List HP) : Prop := if asksQ R key then Φ T' else T' = T
theorem behind_nil {R : RSt} {key : ByteArray} {T' : List HP} (h : behind R key [] (· = []) T') : T' = [] := by
 unfold behind at h
 split at h <;> exact h
theorem Ent.dropR (D T : List HP) : Ent (D ++ T) T := fun w F hs => by
 rw [List.append_assoc] at hs
 exact hs.right
theorem swapE (A B : List HP) : Ent (A ++ B) (B ++ A) := Ent.perm List.perm_append_comm
end Go.Sl
namespace Go.Sl
open Go
abbrev SrcF := ByteArray → List Nat × Int
def gtQ (find : SrcF) (R : RSt) (key : ByteArray) : (List Nat × Int) × RSt := getQ (find key) R key
def ptQ (find : SrcF) (R : RSt) (key : ByteArray) (bs : List Nat) : Int × RSt := putQ (find key) R key bs
def amtOf (g : (List Nat × Int) × RSt) : (List Nat × Int) × RSt := (if g.1.2 ≠ 0 then (z4, g.1.2) else amtR g.1.1, g.2)
def tokOf (g : (List Nat × Int) × RSt) : (TokD × Int) × RSt := (if g.1.2 ≠ 0 then (zTok, g.1.2) else tokR g.1.1, g.2)
def thereOf (x : (TokD × Int) × RSt) : (TokD × Int) × RSt := (if x.1.2 ≠ 0 then (zTok, x.1.2) else if x.1.1 = zTok then (zTok, 81) else x.1, x.2)
def amtQ (find : SrcF) (R : RSt) (key : ByteArray) : (List Nat × Int) × RSt := amtOf (gtQ find R key)
def tokenQ (find : SrcF) (R : RSt) (t : Int) : (TokD × Int) × RSt := if begE t ≠ 0 then ((zTok, begE t), R) else tokOf (gtQ find R (tokKey t.toNat))
def thereQ (find : SrcF) (R : RSt) (t : Int) : (TokD × Int) × RSt := thereOf (tokenQ find R t)
section
variable (find : SrcF)
theorem gtQ_steps (R : RSt) (key : ByteArray) : (gtQ find R key).2.steps = R.steps := getQ_bounds.2.1
end
end Go.Sl
namespace Go.Sl
open Go
structure Lim (R : RSt) (k : Nat) : Prop where
 told : R.told.length + k ≤ 3500000000000
 steps : R.steps.length + k ≤ 4000000000000
 tb : ∀ p ∈ R.told, ∀ b ∈ p.2, b < 256
 sb : ∀ p ∈ R.steps, ∀ b ∈ p.2, b < 256
def SrcF.bytes (find : SrcF) : Prop := ∀ k, ∀ b ∈ (find k).1, b < 256
theorem Lim.mono {R : RSt} {k j : Nat} (h : Lim R k) (hj : j ≤ k) : Lim R j := ⟨by have := h.told; omega, by have := h.steps; omega, h.tb, h.sb⟩
theorem Lim.ask {R : RSt} {k : Nat} {f : List Nat × Int} {key : ByteArray} (h : Lim R (k + 1)) (hf : ∀ b ∈ f.1, b < 256) : Lim (askQ f R key) k ∧ (askQ f R key).steps = R.steps := by
 have h1 := getQ_told (R := R) (f := f) (key := key)
 have h2 := (askQ_steps (R := R) (f := f) (key := key)).1
 refine ⟨⟨by have := h.told; omega, by rw [h2]; have := h.steps; omega, ?_, by rw [h2]; exact h.sb⟩, h2⟩
 unfold askQ
 split
 ·exact h.tb
 ·split
  ·intro p hp b hb
   rcases insL_mem hp with e | e
   ·rw [e] at hb; exact hf b hb
   ·exact h.tb p e b hb
  ·exact h.tb
theorem Lim.val {R : RSt} {k : Nat} (h : Lim R k) (key : ByteArray) : ∀ b ∈ R.val key, b < 256 := by
 unfold RSt.val
 cases hs : lastS R.steps key with
 | some v => exact h.sb _ (List.mem_reverse.1 (atL_mem hs))
 | none =>
  cases ht : atL R.told key with
  | some v => exact h.tb _ (atL_mem ht)
  | none => exact fun b hb => absurd hb List.not_mem_nil
theorem Lim.get {find : SrcF} (hb : SrcF.bytes find) {R : RSt} {k : Nat} (h : Lim R (k + 1)) (key : ByteArray) : Lim (gtQ find R key).2 k ∧ ∀ b ∈ (gtQ find R key).1.1, b < 256 := by
 unfold gtQ getQ
 split
 ·exact ⟨h.mono (Nat.le_succ _), fun b hb => absurd hb List.not_mem_nil⟩
 ·have h1 := (h.ask (f := find key) (key := key) (hb key)).1
  refine ⟨h1, ?_⟩
  show ∀ b ∈ (if askI (find key) R key = 0 then _ else _ : List Nat), b < 256
  split
  ·exact h1.val key
  ·exact fun b hb => absurd hb List.not_mem_nil
theorem Lim.put {find : SrcF} (hb : SrcF.bytes find) {R : RSt} {k : Nat} (h : Lim R (k + 1)) (key : ByteArray) {bs : List Nat} (hbs : ∀ b ∈ bs, b < 256) : Lim (ptQ find R key bs).2 k := by
 unfold ptQ putQ
 split
 ·exact h.mono (Nat.le_succ _)
 ·obtain ⟨h1, h2⟩ := h.ask (f := find key) (key := key) (hb key)
  show Lim (if askI (find key) R key = 0 then _ else _) k
  split
  ·refine ⟨h1.told, ?_, h1.tb, ?_⟩
   ·show ((askQ (find key) R key).steps ++ [(key, bs)]).length + k ≤ _
    rw [List.length_append, h2]
    have := h.steps
    show R.steps.length + 1 + k ≤ _
    omega
   ·intro p hp b hb
    rcases List.mem_append.1 hp with e | e
    ·exact h1.sb p e b hb
    ·rw [List.mem_singleton.1 e] at hb; exact hbs b hb
  ·exact h1
theorem Lim.amt {find : SrcF} (hb : SrcF.bytes find) {R : RSt} {k : Nat} (h : Lim R (k + 1)) (key : ByteArray) : Lim (amtQ find R key).2 k := (h.get hb key).1
theorem Lim.token {find : SrcF} (hb : SrcF.bytes find) {R : RSt} {k : Nat} (h : Lim R (k + 1)) (t : Int) : Lim (tokenQ find R t).2 k := by
 unfold tokenQ
 split
 ·exact h.mono (Nat.le_succ _)
 ·exact (h.get hb _).1
theorem Lim.there {find : SrcF} (hb : SrcF.bytes find) {R : RSt} {k : Nat} (h : Lim R (k + 1)) (t : Int) : Lim (thereQ find R t).2 k := h.token hb t
structure Keeps (find : SrcF) (φ : RSt → Prop) : Prop where
 get : ∀ R k, φ R → φ (gtQ find R k).2
 put : ∀ R k bs, φ R → φ (ptQ find R k bs).2
section
variable {find : SrcF} {φ : RSt → Prop} {R : RSt} (hk : Keeps find φ)
include hk
theorem Keeps.token (t : Int) (h : φ R) : φ (tokenQ find R t).2 := by
 unfold tokenQ
 split
 ·exact h
 ·exact hk.get _ _ h
theorem Keeps.amt (k : ByteArray) (h : φ R) : φ (amtQ find R k).2 := hk.get _ _ h
theorem Keeps.there (t : Int) (h : φ R) : φ (thereQ find R t).2 := hk.token t h
end
structure KeepsN (find : SrcF) (φ : Nat → RSt → Prop) : Prop where
 get : ∀ n R k, φ n R → φ (n + 1) (gtQ find R k).2
 put : ∀ n R k bs, (∀ b ∈ bs, b < 256) → φ n R → φ (n + 1) (ptQ find R k bs).2
 mono : ∀ {n m R}, φ n R → n ≤ m → φ m R
section
variable {find : SrcF} {φ : Nat → RSt → Prop} {R : RSt} {n : Nat} (hk : KeepsN find φ)
include hk
theorem KeepsN.token (t : Int) (h : φ n R) : φ (n + 1) (tokenQ find R t).2 := by
 unfold tokenQ
 split
 ·exact hk.mono (h) (by omega)
 ·exact hk.mono (hk.get _ _ _ h) (by omega)
theorem KeepsN.amt (k : ByteArray) (h : φ n R) : φ (n + 1) (amtQ find R k).2 := hk.get _ _ _ h
theorem KeepsN.there (t : Int) (h : φ n R) : φ (n + 1) (thereQ find R t).2 := hk.token t h
end
end Go.Sl
namespace Go.Sl
open Go
/-! Numbers by eight bytes, there and back -/
theorem numStep_nat (a c : Nat) (ha : a < 18014398509481984) (hc : c < 256) : numStep (a : Int) c = ((256 * a + c : Nat) : Int) := by
 have e1 : (a : Int) * 2 ^ (min (8 : Int).toNat 64) = ((256 * a : Nat) : Int) := by
  show (a : Int) * 2 ^ 8 = _
  omega
 have e2 : IntKind.i64.wrap ((256 * a : Nat) : Int) = ((256 * a : Nat) : Int) := i64_wrap (by omega) (by omega)
 have e3 : IntKind.i64.wrap (c : Int) = (c : Int) := i64_wrap (by omega) (by omega)
 unfold numStep
 rw [e1, e2, e3, BitVec.toNat_or, BitVec.ofInt_natCast, BitVec.ofInt_natCast, BitVec.toNat_ofNat, BitVec.toNat_ofNat, Nat.mod_eq_of_lt (by omega), Nat.mod_eq_of_lt (by omega), or_low a c hc]
 exact i64_wrap (by omega) (by omega)
/-! Keys of tickets are no keys of the ledger -/
section
variable {V : View} {k : ByteArray}
end
/-! Supplies -/
section
variable {m : Md} {W : List (List Nat)}
end
/-! Open tickets -/
section
variable {W : List (List Nat)} {V : View} {m : Md} {op : List TicketD} {cl : List Bool} {all : Nat → Nat}
end
end Go.Sl
namespace Go.Sl
open Go
theorem gtQ_val (find : SrcF) (R : RSt) (k : ByteArray) : (gtQ find R k).1.1 = [] ∨ (gtQ find R k).1.1 = (gtQ find R k).2.val k := by
 unfold gtQ
 by_cases hm : mayI k 0 = 0
 ·rw [getQ_may hm]
  show (if _ then _ else _ : List Nat) = [] ∨ _
  split
  ·exact .inr rfl
  ·exact .inl rfl
 ·unfold getQ
  rw [if_pos hm]
  exact .inl rfl
theorem st_val {T s : Nat} {src : Value} {R : RSt} {L : List HP} : Gives (stR T s src R :: L) fun _ => ∀ k, (R.val k).length ≤ 4096 := fun w hs k => by
 obtain ⟨c, hc, _⟩ := Sat.exL.1 hs
 have h := (StC.rd (T := T) (s := s) (src := src) (key := k) hc.wf).2.2
 rw [hc.val] at h
 exact h
theorem st_len {T s : Nat} {src : Value} {g : (List Nat × Int) × RSt} {k : ByteArray} {L : List HP} (h : g.1.1 = [] ∨ g.1.1 = g.2.val k) : Gives (stR T s src g.2 :: L) fun _ => g.1.1.length ≤ 4096 := fun w hs => by
 rcases h with h | h
 ·rw [h]; exact Nat.zero_le _
 ·rw [h]; exact st_val w hs k
structure StepT where
 what : Int
 num : Int
 t : TicketD
structure StepT.wf (x : StepT) : Prop where
 w1 : -9223372036854775808 ≤ x.what
 w2 : x.what ≤ 9223372036854775807
 n1 : -9223372036854775808 ≤ x.num
 n2 : x.num ≤ 9223372036854775807
 t : x.t.wf
 snd : ∀ b ∈ x.t.snd, b < 256
 to : ∀ b ∈ x.t.to, b < 256
 amt : wOk x.t.amt
def StepT.cells (x : StepT) : List Value := .int .i64 x.what :: .int .i64 x.num :: x.t.cells
structure AnsT where
 code : Int
 num : Int
 t : TicketD
def AnsT.cells (x : AnsT) : List Value := .int .i64 x.code :: .int .i64 x.num :: x.t.cells
section
variable {find : SrcF} {R : RSt} {k : Nat}
variable {φ : RSt → Prop}
end
end Go.Sl
namespace Go.Sl
open Go
theorem num_lt {bs : List Nat} (h : ∀ b ∈ bs, b < 256) : ∀ i, i < 7 → i < bs.length → ∃ a : Nat, numF (bs.take (i + 1)) = (a : Int) ∧ a < (bs.getD 0 0 + 1) * 256 ^ i ∧ bs.getD 0 0 * 256 ^ i ≤ a
 | 0, _, h1 => by
  have hb := h _ (List.getElem_mem h1)
  refine ⟨bs.getD 0 0, ?_, by omega, by omega⟩
  rw [numF_take bs 0 h1, List.take_zero]
  have e : bs.getD 0 0 = bs[0] := by simp [List.getD, h1]
  rw [e]
  show numStep ((0 : Nat) : Int) bs[0] = _
  rw [numStep_nat 0 _ (by decide) hb]
  simp
 | i + 1, h7, h1 => by
  obtain ⟨a, ha, hlt, hge⟩ := num_lt h i (by omega) (by omega)
  have hb := h _ (List.getElem_mem h1)
  have h0 : bs.getD 0 0 < 256 := by
   have h2 : 0 < bs.length := by omega
   have e : bs.getD 0 0 = bs[0] := by simp [List.getD, h2]
   rw [e]
   exact h _ (List.getElem_mem h2)
  have hp : 256 ^ i ≤ 256 ^ 5 := Nat.pow_le_pow_right (by decide) (by omega)
  have hA : (bs.getD 0 0 + 1) * 256 ^ i ≤ 256 * 256 ^ 5 := Nat.mul_le_mul (by omega) hp
  have e5 : 256 * 256 ^ 5 = 281474976710656 := by decide
  refine ⟨256 * a + bs[i + 1], ?_, ?_, ?_⟩
  ·rw [numF_take bs (i + 1) h1, ha, numStep_nat a _ (by omega) hb]
  ·rw [Nat.pow_succ, ← Nat.mul_assoc]
   omega
  ·rw [Nat.pow_succ, ← Nat.mul_assoc]
   omega
end Go.Sl
