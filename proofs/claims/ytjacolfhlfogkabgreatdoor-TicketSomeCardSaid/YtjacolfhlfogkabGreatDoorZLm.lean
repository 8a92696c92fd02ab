import Derived.Test.YtjacolfhlfogkabGreatDoorZOl
import Derived.Test.YtjacolfhlfogkabGreatDoorZWd
namespace Go.Sl
open Go
structure TokD where
 there : Bool
 paused : Bool
 sup : List Nat
 deriving DecidableEq
def z4 : List Nat := List.replicate 4 0
def zTok : TokD := ⟨false, false, z4⟩
def TokD.cells (t : TokD) : List Value := .bool t.there :: .bool t.paused :: uvs t.sup
theorem TokD.cells_one (t : TokD) : ∀ u ∈ t.cells, u.oneCell' = true := by
 intro u hu
 simp only [TokD.cells, List.mem_cons] at hu
 rcases hu with rfl | rfl | h
 ·rfl
 ·rfl
 ·exact uvs_one _ u h
theorem TokD.cells_len {t : TokD} (h : t.sup.length = 4) : t.cells.length = 6 := by simp [TokD.cells, uvs_len, h]
def tokK : List LK := .bool :: .bool :: List.replicate 4 (.int .u64)
theorem TokD.wt {t : TokD} (h : t.sup.length = 4) : Go.Sl.wt tokK t.cells := ⟨trivial, trivial, wt_uvs h⟩
theorem TokD.cells_inj {a b : TokD} : a.cells = b.cells ↔ a = b := by
 constructor
 ·intro h
  obtain ⟨a1, a2, a3⟩ := a
  obtain ⟨b1, b2, b3⟩ := b
  simp only [TokD.cells, List.cons.injEq, Value.bool.injEq] at h
  obtain ⟨rfl, rfl, h⟩ := h
  rw [uvs_inj.1 h]
 ·intro h; rw [h]
def tokKey (t : Nat) : ByteArray := strB [116, t]
def balKey (t : Nat) (a : List Nat) : ByteArray := strB (98 :: t :: a)
def allKey (t : Nat) (o s : List Nat) : ByteArray := strB (108 :: t :: (o ++ s))
def amtR (bs : List Nat) : List Nat × Int := if bs = [] then (z4, 0) else if bs.length = 32 ∧ wordsN bs ≠ z4 then (wordsN bs, 0) else (z4, 75)
def tokR : List Nat → TokD × Int
 | [] => (zTok, 0)
 | b :: r => if r.length = 32 ∧ (b = 1 ∨ b = 3) then (⟨true, decide (b = 3), wordsN r⟩, 0) else (zTok, 75)
theorem amtR_ok (bs : List Nat) : wOk (amtR bs).1 := by
 unfold amtR
 split
 ·exact zero4_ok
 ·split
  ·exact wordsN_ok _
  ·exact zero4_ok
theorem tokR_ok (bs : List Nat) : wOk (tokR bs).1.sup := by
 unfold tokR
 split
 ·exact zero4_ok
 ·split
  ·exact wordsN_ok _
  ·exact zero4_ok
def begE (t : Int) : Int := if t < 0 ∨ 64 ≤ t then 80 else 0
theorem begE_nat {t : Int} (h : begE t = 0) : ∃ m : Nat, t = m ∧ m < 64 := by
 unfold begE at h
 split at h
 ·cases h
 ·exact ⟨t.toNat, (Int.toNat_of_nonneg (by omega)).symm, by omega⟩
def tokB (d : TokD) : List Nat := (if d.paused then 3 else 1) :: wideB d.sup
def layTok (V : View) (t : Nat) (d : TokD) : View := upd V (tokKey t) (tokB d)
def amtB (a : List Nat) : List Nat := if a = z4 then [] else wideB a
def tokenL (V : View) (t : Int) : TokD × Int := if begE t ≠ 0 then (zTok, begE t) else tokR (V (tokKey t.toNat))
def addL (a b : List Nat) : List Nat := w4 (nat4 a + nat4 b)
theorem tokB_len (d : TokD) : (tokB d).length = 33 := by simp [tokB, wide_len]
/-! What is laid is read again. -/
theorem amtR_B {a : List Nat} (h : wOk a) : amtR (amtB a) = (a, 0) := by
 unfold amtB
 split
 ·rename_i e; subst e; rfl
 ·rename_i e
  unfold amtR
  rw [if_neg (fun h => by have := congrArg List.length h; rw [wide_len] at this; cases this), if_pos ⟨wide_len a, by rw [words_wide h]; exact e⟩, words_wide h]
theorem tokR_B {d : TokD} (h : wOk d.sup) : tokR (tokB d) = (⟨true, d.paused, d.sup⟩, 0) := by
 unfold tokB tokR
 cases hp : d.paused <;> simp [hp, wide_len, words_wide h]
end Go.Sl
namespace Go.Sl
open Go
structure TokN where
 there : Bool
 paused : Bool
 sup : Nat
def adr (a : List Nat) : Prop := a.length = 20 ∧ ∀ b ∈ a, b < 256
structure Md where
 T : Nat → TokN
 B : Nat → List Nat → Nat
 A : Nat → List Nat → List Nat → Nat
def TokN.val (t : TokN) : List Nat := if t.there = true then tokB ⟨true, t.paused, w4 t.sup⟩ else []
structure Led (V : View) (m : Md) : Prop where
 tok : ∀ t, t < 64 → V (tokKey t) = (m.T t).val
 bal : ∀ t a, t < 64 → adr a → V (balKey t a) = amtB (w4 (m.B t a))
 all : ∀ t o s, t < 64 → adr o → adr s → V (allKey t o s) = amtB (w4 (m.A t o s))
 supLt : ∀ t, t < 64 → (m.T t).sup < m256
 balLt : ∀ t a, t < 64 → adr a → m.B t a < m256
 allLt : ∀ t o s, t < 64 → adr o → adr s → m.A t o s < m256
 non : ∀ t, t < 64 → (m.T t).there = false → m.T t = ⟨false, false, 0⟩
section
variable {V : View} {m : Md} (h : Led V m)
include h
theorem Led.amt {t : Nat} (ht : t < 64) {a : List Nat} (ha : adr a) : amtR (V (balKey t a)) = (w4 (m.B t a), 0) := by rw [h.bal t a ht ha, amtR_B (w4_ok _)]
theorem Led.token {t : Nat} (ht : t < 64) : tokenL V (t : Int) = (⟨(m.T t).there, (m.T t).paused, w4 (m.T t).sup⟩, 0) := by
 have e : begE (t : Int) = 0 := by unfold begE; rw [if_neg (by omega)]
 unfold tokenL
 rw [if_neg (by rw [e]; decide), Int.toNat_natCast, h.tok t ht]
 cases hth : (m.T t).there with
 | false =>
  have := h.non t ht hth
  rw [TokN.val, if_neg (by rw [hth]; decide), this]
  rfl
 | true => rw [TokN.val, if_pos hth, tokR_B (w4_ok _)]
end
def zN : TokN := ⟨false, false, 0⟩
def TokN.d (t : TokN) : TokD := ⟨t.there, t.paused, w4 t.sup⟩
theorem w4z : w4 0 = z4 := w4_zero
section
variable {V : View} {m : Md} (h : Led V m)
include h
end
def m0 : Md := ⟨fun _ => zN, fun _ _ => 0, fun _ _ _ => 0⟩
end Go.Sl
