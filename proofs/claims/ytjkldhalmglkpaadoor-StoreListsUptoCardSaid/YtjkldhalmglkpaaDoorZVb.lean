import Derived.Test.YtjkldhalmglkpaaDoorZCh
import Derived.Test.YtjkldhalmglkpaaDoorZAr
import Derived.Test.YtjkldhalmglkpaaDoorZTc
namespace Go.Sl
open Go
structure StepS where
 kind : Int
 key : ByteArray
 v : Value
 bs : List Nat
 mark : Int
def StepS.cells (x : StepS) : List Value := [.int .i64 x.kind, .string x.key, x.v, .int .i64 x.mark]
theorem chS_rd {l : List ChD} {M : List HP} (hv : ∀ d ∈ l, SlV d.ov d.old.length ∧ SlV d.nv d.new.length) : ∀ d ∈ l, RdS (chS l ++ M) d.ov d.old.length (bvs d.old) ∧ RdS (chS l ++ M) d.nv d.new.length (bvs d.new) := by
 induction l with
 | nil => intro d hd; cases hd
 | cons e l ih =>
  intro d hd
  have h1 := hv e (by simp)
  show RdS (own 1 e.ov e.old.length (bvs e.old) :: own 1 e.nv e.new.length (bvs e.new) :: (chS l ++ M)) _ _ _ ∧ RdS (own 1 e.ov e.old.length (bvs e.old) :: own 1 e.nv e.new.length (bvs e.new) :: (chS l ++ M)) _ _ _
  rcases List.mem_cons.1 hd with rfl | hd
  ·exact ⟨own_rd h1.1 (by rw [bvs_len, Nat.mul_one]), (own_rd h1.2 (by rw [bvs_len, Nat.mul_one])).tl⟩
  ·have h2 := ih (fun d hd => hv d (by simp [hd])) d hd
   exact ⟨h2.1.tl.tl, h2.2.tl.tl⟩
end Go.Sl
namespace Go.Sl
open Go Go.Sort
def OkF (f : ByteArray → List Nat) : Prop := ∀ k, (∀ b ∈ f k, b < 256) ∧ (f k).length ≤ 4096 ∧ (mayI k 0 ≠ 0 → f k = [])
structure OkV (V : View) : Prop where
 now : OkF V.now
 hist : ∀ f ∈ V.hist, OkF f
theorem OkV.first {find : ByteArray → List Nat × Int} {f : ByteArray → List Nat} (hf : ∀ k, (find k).1 = f k) (hO : OkF f) : OkV ⟨fun k => (find k).1, []⟩ := by
 have e : (fun k => (find k).1) = f := funext hf
 rw [e]
 exact ⟨hO, fun g hg => absurd hg List.not_mem_nil⟩
theorem OkV.upd {V : View} {key : ByteArray} {bs : List Nat} (h : OkV V) (hm : mayI key bs.length = 0) (hb : ∀ b ∈ bs, b < 256) : OkV (Go.Sl.upd V key bs) := by
 refine ⟨fun k => ?_, h.hist⟩
 show (∀ b ∈ (if k = key then bs else V k), b < 256) ∧ _ ∧ (_ → (if k = key then bs else V k) = [])
 obtain ⟨h1, h2⟩ := mayI_le hm
 by_cases e : k = key
 ·rw [if_pos e]
  exact ⟨hb, by show (if k = key then bs else V k).length ≤ 4096; rw [if_pos e]; exact h1, fun h3 => absurd (by rw [e]; exact h2) h3⟩
 ·rw [if_neg e]
  exact ⟨(h.now k).1, by show (if k = key then bs else V k).length ≤ 4096; rw [if_neg e]; exact (h.now k).2.1, (h.now k).2.2⟩
theorem OkV.mark {V : View} (h : OkV V) : OkV ⟨V.now, V.hist ++ [V.now]⟩ := ⟨h.now, fun f hf => by
 rcases List.mem_append.1 hf with hf | hf
 ·exact h.hist f hf
 ·rw [List.mem_singleton.1 hf]
  exact h.now⟩
theorem OkV.back {V : View} (h : OkV V) (m : Int) : OkV (backV V m) := by
 unfold backV
 split
 ·exact h
 ·split
  ·rename_i f hf
   exact ⟨h.hist f (List.mem_of_getElem? hf), fun g hg => h.hist g (List.mem_of_mem_take hg)⟩
  ·exact h
theorem backV_len (V : View) (m : Int) : (backV V m).hist.length ≤ V.hist.length := by
 unfold backV
 split
 ·exact Nat.le_refl _
 ·split
  ·exact List.length_take_le' _ _
  ·exact Nat.le_refl _
theorem tabFind_eq {K : List W32} {c : TabD} (hg : GoodT K c) (k : ByteArray) : (tabFind c.vals k).1 = c.cont k := by
 unfold tabFind
 by_cases hk : mayI k 0 = 0
 ·rw [if_neg (by omega)]
  rfl
 ·rw [if_pos hk]
  by_cases h : c.cont k = []
  ·exact h.symm
  ·exact absurd (mayI_le (hg.may h).1).2 hk
theorem GoodT.ok {K : List W32} {c : TabD} (hg : GoodT K c) : OkF c.cont := fun k => by
 by_cases h : c.cont k = []
 ·rw [h]
  exact ⟨by simp, by simp, fun _ => rfl⟩
 ·obtain ⟨h1, h2, h3⟩ := hg.may h
  exact ⟨h3, h2, fun h4 => absurd (mayI_le h1).2 h4⟩
end Go.Sl
