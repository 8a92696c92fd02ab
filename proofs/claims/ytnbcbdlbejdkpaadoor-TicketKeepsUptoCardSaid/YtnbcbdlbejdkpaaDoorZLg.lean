/-
  The ledger as plain data: what each call answers and lays, over what a state tells of each key. A library of this session's own.
-/
import Derived.Test.YtnbcbdlbejdkpaaDoorZPk
import Derived.Test.YtnbcbdlbejdkpaaDoorZWd
namespace Go.Sl
open Go
structure TokD where
  there : Bool
  paused : Bool
  sup : List Nat
  deriving DecidableEq
def z4 : List Nat := List.replicate 4 0
def zTok : TokD := ⟨false, false, z4⟩
def TokD.cells (t : TokD) : List Value := .bool t.there :: .bool t.paused :: uvs t.sup
theorem TokD.cells_one (t : TokD) : ∀ u ∈ t.cells, u.oneCell' = true := by
  intro u hu
  simp only [TokD.cells, List.mem_cons] at hu
  rcases hu with rfl | rfl | h
  · rfl
  · rfl
  · exact uvs_one _ u h
theorem TokD.cells_len {t : TokD} (h : t.sup.length = 4) : t.cells.length = 6 := by simp [TokD.cells, uvs_len, h]
def tokK : List LK := .bool :: .bool :: List.replicate 4 (.int .u64)
theorem TokD.wt {t : TokD} (h : t.sup.length = 4) : Go.Sl.wt tokK t.cells := ⟨trivial, trivial, wt_uvs h⟩
theorem TokD.cells_inj {a b : TokD} : a.cells = b.cells ↔ a = b := by
  constructor
  · intro h
    obtain ⟨a1, a2, a3⟩ := a
    obtain ⟨b1, b2, b3⟩ := b
    simp only [TokD.cells, List.cons.injEq, Value.bool.injEq] at h
    obtain ⟨rfl, rfl, h⟩ := h
    rw [uvs_inj.1 h]
  · intro h; rw [h]
def tokKey (t : Nat) : ByteArray := strB [116, t]
def balKey (t : Nat) (a : List Nat) : ByteArray := strB (98 :: t :: a)
def allKey (t : Nat) (o s : List Nat) : ByteArray := strB (108 :: t :: (o ++ s))
def amtR (bs : List Nat) : List Nat × Int := if bs = [] then (z4, 0) else if bs.length = 32 ∧ wordsN bs ≠ z4 then (wordsN bs, 0) else (z4, 75)
def tokR : List Nat → TokD × Int
  | [] => (zTok, 0)
  | b :: r => if r.length = 32 ∧ (b = 1 ∨ b = 3) then (⟨true, decide (b = 3), wordsN r⟩, 0) else (zTok, 75)
theorem amtR_ok (bs : List Nat) : wOk (amtR bs).1 := by
  unfold amtR
  split
  · exact zero4_ok
  · split
    · exact wordsN_ok _
    · exact zero4_ok
theorem tokR_ok (bs : List Nat) : wOk (tokR bs).1.sup := by
  unfold tokR
  split
  · exact zero4_ok
  · split
    · exact wordsN_ok _
    · exact zero4_ok
def begE (t : Int) : Int := if t < 0 ∨ 64 ≤ t then 80 else 0
theorem begE_nat {t : Int} (h : begE t = 0) : ∃ m : Nat, t = m ∧ m < 64 := by
  unfold begE at h
  split at h
  · cases h
  · exact ⟨t.toNat, (Int.toNat_of_nonneg (by omega)).symm, by omega⟩
def tokB (d : TokD) : List Nat := (if d.paused then 3 else 1) :: wideB d.sup
def layTok (V : View) (t : Nat) (d : TokD) : View := upd V (tokKey t) (tokB d)
def amtB (a : List Nat) : List Nat := if a = z4 then [] else wideB a
def layA (V : View) (key : ByteArray) (a : List Nat) : View := upd V key (amtB a)
def tokenL (V : View) (t : Int) : TokD × Int := if begE t ≠ 0 then (zTok, begE t) else tokR (V (tokKey t.toNat))
def thereL (V : View) (t : Int) : TokD × Int := if (tokenL V t).2 ≠ 0 then (zTok, (tokenL V t).2) else if (tokenL V t).1 = zTok then (zTok, 81) else tokenL V t
def runL (V : View) (t : Int) : TokD × Int := if (thereL V t).2 = 0 ∧ (thereL V t).1.paused = true then (zTok, 83) else thereL V t
theorem tokenL_ok (V : View) (t : Int) : wOk (tokenL V t).1.sup := by
  unfold tokenL
  split
  · exact zero4_ok
  · exact tokR_ok _
theorem thereL_ok (V : View) (t : Int) : wOk (thereL V t).1.sup := by
  unfold thereL
  split
  · exact zero4_ok
  · split
    · exact zero4_ok
    · exact tokenL_ok V t
theorem runL_ok (V : View) (t : Int) : wOk (runL V t).1.sup := by
  unfold runL
  split
  · exact zero4_ok
  · exact thereL_ok V t
def registerL (V : View) (t : Int) : Int × View := if (tokenL V t).2 ≠ 0 then ((tokenL V t).2, V) else if (tokenL V t).1.there = true then (82, V) else (0, layTok V t.toNat zTok)
def pauseL (V : View) (t : Int) : Int × View := if (runL V t).2 ≠ 0 then ((runL V t).2, V) else (0, layTok V t.toNat { (runL V t).1 with paused := true })
def resumeL (V : View) (t : Int) : Int × View := if (thereL V t).2 ≠ 0 then ((thereL V t).2, V) else if (thereL V t).1.paused = false then (84, V) else (0, layTok V t.toNat { (thereL V t).1 with paused := false })
def balL (V : View) (t : Int) (a : List Nat) : List Nat × Int := if begE t ≠ 0 then (z4, begE t) else amtR (V (balKey t.toNat a))
def allowedL (V : View) (t : Int) (o s : List Nat) : List Nat × Int := if begE t ≠ 0 then (z4, begE t) else amtR (V (allKey t.toNat o s))
def addL (a b : List Nat) : List Nat := w4 (nat4 a + nat4 b)
def subL (a b : List Nat) : List Nat := w4 (nat4 a - nat4 b)
def mintL (V : View) (t : Int) (to a : List Nat) : Int × View :=
  if (runL V t).2 ≠ 0 then ((runL V t).2, V) else
  if m256 ≤ nat4 (runL V t).1.sup + nat4 a then (87, V) else
  if (amtR (V (balKey t.toNat to))).2 ≠ 0 then ((amtR (V (balKey t.toNat to))).2, V) else
  if m256 ≤ nat4 (amtR (V (balKey t.toNat to))).1 + nat4 a then (75, V) else
  if a = z4 then (0, V) else (0, layA (layTok V t.toNat { (runL V t).1 with sup := addL (runL V t).1.sup a }) (balKey t.toNat to) (addL (amtR (V (balKey t.toNat to))).1 a))
def burnL (V : View) (t : Int) (from_ a : List Nat) : Int × View :=
  if (runL V t).2 ≠ 0 then ((runL V t).2, V) else
  if (amtR (V (balKey t.toNat from_))).2 ≠ 0 then ((amtR (V (balKey t.toNat from_))).2, V) else
  if nat4 (amtR (V (balKey t.toNat from_))).1 < nat4 a then (85, V) else
  if nat4 (runL V t).1.sup < nat4 a then (75, V) else
  if a = z4 then (0, V) else (0, layA (layTok V t.toNat { (runL V t).1 with sup := subL (runL V t).1.sup a }) (balKey t.toNat from_) (subL (amtR (V (balKey t.toNat from_))).1 a))
structure FundR where
  less : List Nat
  more : List Nat
  e : Int
def fundsL (V : View) (t : Nat) (from_ to a : List Nat) : FundR :=
  if (amtR (V (balKey t from_))).2 ≠ 0 then ⟨z4, z4, (amtR (V (balKey t from_))).2⟩ else
  if nat4 (amtR (V (balKey t from_))).1 < nat4 a then ⟨z4, z4, 85⟩ else
  if (amtR (V (balKey t to))).2 ≠ 0 ∨ from_ = to then ⟨subL (amtR (V (balKey t from_))).1 a, (amtR (V (balKey t to))).1, (amtR (V (balKey t to))).2⟩ else
  if m256 ≤ nat4 (amtR (V (balKey t to))).1 + nat4 a then ⟨subL (amtR (V (balKey t from_))).1 a, z4, 75⟩ else
  ⟨subL (amtR (V (balKey t from_))).1 a, addL (amtR (V (balKey t to))).1 a, 0⟩
theorem fundsL_ok (V : View) (t : Nat) (from_ to a : List Nat) : wOk (fundsL V t from_ to a).less ∧ wOk (fundsL V t from_ to a).more := by
  unfold fundsL
  (repeat' split) <;> exact ⟨by first | exact zero4_ok | exact w4_ok _, by first | exact zero4_ok | exact w4_ok _ | exact amtR_ok _⟩
def turnL (V : View) (t : Nat) (from_ to a less more : List Nat) : View := if from_ = to ∨ a = z4 then V else layA (layA V (balKey t from_) less) (balKey t to) more
def moveL (V : View) (t : Int) (from_ to a : List Nat) : Int × View :=
  if (runL V t).2 ≠ 0 then ((runL V t).2, V) else
  if (fundsL V t.toNat from_ to a).e ≠ 0 then ((fundsL V t.toNat from_ to a).e, V) else
  (0, turnL V t.toNat from_ to a (fundsL V t.toNat from_ to a).less (fundsL V t.toNat from_ to a).more)
def allowL (V : View) (t : Int) (o s a : List Nat) : Int × View := if (thereL V t).2 ≠ 0 then ((thereL V t).2, V) else (0, layA V (allKey t.toNat o s) a)
def pullL (V : View) (t : Int) (sp from_ to a : List Nat) : Int × View :=
  if (runL V t).2 ≠ 0 then ((runL V t).2, V) else
  if (amtR (V (allKey t.toNat from_ sp))).2 ≠ 0 then ((amtR (V (allKey t.toNat from_ sp))).2, V) else
  if nat4 (amtR (V (allKey t.toNat from_ sp))).1 < nat4 a then (86, V) else
  if (fundsL V t.toNat from_ to a).e ≠ 0 then ((fundsL V t.toNat from_ to a).e, V) else
  (0, turnL (if a = z4 then V else layA V (allKey t.toNat from_ sp) (subL (amtR (V (allKey t.toNat from_ sp))).1 a)) t.toNat from_ to a (fundsL V t.toNat from_ to a).less (fundsL V t.toNat from_ to a).more)
theorem tokenL_nat {V : View} {t : Int} (h : (tokenL V t).2 = 0) : ∃ m : Nat, t = m ∧ m < 64 := by
  unfold tokenL at h
  split at h
  · rename_i h1; exact absurd h h1
  · rename_i h1; exact begE_nat (Classical.not_not.1 h1)
theorem thereL_nat {V : View} {t : Int} (h : (thereL V t).2 = 0) : ∃ m : Nat, t = m ∧ m < 64 := by
  unfold thereL at h
  split at h
  · rename_i h1; exact absurd h h1
  · rename_i h1; exact tokenL_nat (Classical.not_not.1 h1)
theorem runL_nat {V : View} {t : Int} (h : (runL V t).2 = 0) : ∃ m : Nat, t = m ∧ m < 64 := by
  unfold runL at h
  split at h
  · cases h
  · exact thereL_nat h
theorem wide_zero {a : List Nat} (h : a = z4) : amtB a = [] := by rw [amtB, if_pos h]
theorem amtB_len (a : List Nat) : (amtB a).length ≤ 32 := by
  unfold amtB
  split
  · simp
  · rw [wide_len]; exact Nat.le_refl _
theorem tokB_len (d : TokD) : (tokB d).length = 33 := by simp [tokB, wide_len]
/-! What is laid is read again. -/
theorem amtR_B {a : List Nat} (h : wOk a) : amtR (amtB a) = (a, 0) := by
  unfold amtB
  split
  · rename_i e; subst e; rfl
  · rename_i e
    unfold amtR
    rw [if_neg (fun h => by have := congrArg List.length h; rw [wide_len] at this; cases this), if_pos ⟨wide_len a, by rw [words_wide h]; exact e⟩, words_wide h]
theorem tokR_B {d : TokD} (h : wOk d.sup) : tokR (tokB d) = (⟨true, d.paused, d.sup⟩, 0) := by
  unfold tokB tokR
  cases hp : d.paused <;> simp [hp, wide_len, words_wide h]
theorem strB_inj {l m : List Nat} (hl : ∀ b ∈ l, b < 256) (hm : ∀ b ∈ m, b < 256) (h : strB l = strB m) : l = m := by
  have h1 : l.map UInt8.ofNat = m.map UInt8.ofNat := by
    have := congrArg (fun b => b.data.toList) h
    simpa [strB] using this
  have h2 : (l.map UInt8.ofNat).map UInt8.toNat = (m.map UInt8.ofNat).map UInt8.toNat := by rw [h1]
  have h3 : ∀ l : List Nat, (∀ b ∈ l, b < 256) → (l.map UInt8.ofNat).map UInt8.toNat = l := fun l hl => by
    rw [List.map_map]
    have : ∀ b ∈ l, (UInt8.toNat ∘ UInt8.ofNat) b = b := fun b hb => by
      simp only [Function.comp, UInt8.toNat_ofNat']
      exact Nat.mod_eq_of_lt (hl b hb)
    rw [List.map_congr_left this]
    simp
  rw [h3 l hl, h3 m hm] at h2
  exact h2
end Go.Sl
