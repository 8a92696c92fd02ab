import Derived.Test.YtjkldhalmglkpaaDoorZLv
namespace Go.Sl
open Go
section
variable {P : Program} {f : FuncId} {args : List Value} {F L M pre : List HP} {R R' : Value → List HP → Prop} {α : Type} {φ : α → Prop} {ls : α → List HP}
def exL (φ : α → Prop) (ls : α → List HP) : HP := fun h => ∃ a, φ a ∧ sepL (ls a) h
theorem Sat.exL {w : World} : Sat w (exL φ ls :: L) ↔ ∃ a, φ a ∧ Sat w (ls a ++ L) := by
 constructor
 ·intro h
  obtain ⟨x, y, hok, ⟨a, ha, hx⟩, hy, hf1, hf2⟩ := Sat.cons.1 h
  exact ⟨a, ha, Sat.append.2 ⟨x, y, hok, hx, hy, hf1, hf2⟩⟩
 ·rintro ⟨a, ha, h⟩
  obtain ⟨x, y, hok, hx, hy, hf1, hf2⟩ := Sat.append.1 h
  exact Sat.cons.2 ⟨x, y, hok, ⟨a, ha, hx⟩, hy, hf1, hf2⟩
theorem Ent.pack {a : α} (ha : φ a) : Ent (ls a ++ L) (exL φ ls :: L) := fun w F h => Sat.exL.2 ⟨a, ha, by simpa [List.append_assoc] using h⟩
theorem Ent.pack0 {a : α} (ha : φ a) : Ent (ls a) [exL φ ls] := fun w F h => Sat.exL.2 ⟨a, ha, h⟩
theorem SpecF.unpack (h : ∀ a, φ a → SpecF P f args F (ls a ++ pre) R) : SpecF P f args F (exL φ ls :: pre) R := fun w hs => by
 obtain ⟨a, ha, hs'⟩ := Sat.exL.1 hs
 exact h a ha w (by simpa [List.append_assoc] using hs')
theorem SpecF.unpack0 (h : ∀ a, φ a → SpecF P f args F (ls a) R) : SpecF P f args F [exL φ ls] R := SpecF.unpack fun a ha => by rw [List.append_nil]; exact h a ha
theorem SpecF.turn (h : SpecF P f args F pre R) (hR : ∀ v L, R v L → ∃ L', R' v L' ∧ Ent L L') : SpecF P f args F pre R' := fun w hs => (h w hs).mono fun e w' ⟨v, L, he, hv, hx, hs'⟩ => by
 obtain ⟨L', h1, h2⟩ := hR v L hv
 exact ⟨v, L', he, h1, hx, h2 w' F hs'⟩
theorem SpecF.from (h : SpecF P f args F M R) (hL : Ent L M) : SpecF P f args F L R := fun w hs => h w (hL w F hs)
end
structure View where
 now : ByteArray → List Nat
 hist : List (ByteArray → List Nat)
instance : CoeFun View fun _ => ByteArray → List Nat := ⟨View.now⟩
def upd (V : View) (key : ByteArray) (bs : List Nat) : View := ⟨fun k => if k = key then bs else V k, V.hist⟩
structure At (find : ByteArray → List Nat × Int) (V : View) (n : Nat) (c : StC) : Prop where
 lv : ∀ k, lv find c k = V k
 wf : c.wf
 steps : c.steps.length ≤ n
 marks : c.marks.length = V.hist.length
 rise : c.marks.Pairwise (· ≤ ·)
 hist : ∀ (j a : Nat) (f : ByteArray → List Nat), c.marks[j]? = some a → V.hist[j]? = some f → a ≤ c.steps.length ∧ ∀ k, rb find c a k = f k
theorem At.same {find : ByteArray → List Nat × Int} {V : View} {n : Nat} {c c' : StC} (h : At find V n c) (hs : Same find c c') : At find V n c' := by
 refine ⟨fun k => (hs.lv k).trans (h.lv k), hs.wf, by rw [hs.steps]; exact h.steps, by rw [hs.marks]; exact h.marks, by rw [hs.marks]; exact h.rise, fun j a f hj hf => ?_⟩
 rw [hs.marks] at hj
 obtain ⟨h1, h2⟩ := h.hist j a f hj hf
 exact ⟨by rw [hs.steps]; exact h1, fun k => (hs.rb a h1 k).trans (h2 k)⟩
theorem At.laid {find : ByteArray → List Nat × Int} {V : View} {n : Nat} {c c' : StC} {key : ByteArray} {bs : List Nat} (h : At find V n c) (hs : Laid find c key bs c') : At find (upd V key bs) (n + 1) c' := by
 refine ⟨fun k => by rw [hs.lv k]; show _ = if k = key then bs else V k; split; rfl; exact h.lv k, hs.wf, by rw [hs.steps]; have := h.steps; omega, by rw [hs.marks]; exact h.marks, by rw [hs.marks]; exact h.rise, fun j a f hj hf => ?_⟩
 rw [hs.marks] at hj
 obtain ⟨h1, h2⟩ := h.hist j a f hj hf
 exact ⟨by rw [hs.steps]; omega, fun k => (hs.rb a h1 k).trans (h2 k)⟩
end Go.Sl
