import Derived.Test.YtmfonkklmndhjaaGreatDoorZKc
import Derived.Test.YtmfonkklmndhjaaGreatDoorZKy
namespace Go.Sl
open Go
def Good (m : Md) (t s : Nat) : Prop := m.T t = ⟨true, false, s⟩
section
variable {m : Md} {t s : Nat} (ht : t < 64) (h : Good m t s)
include ht
include h
omit ht in
end
end Go.Sl
namespace Go.Sl
open Go
section
variable (V : View) (T : List Nat) (W : List (List Nat))
variable {T W}
end
/-! What a step may turn. -/
def grows (k : Nat) (x : StepD) (a : List Nat) : Prop := (k = 3 ∧ x.a = a) ∨ (k = 5 ∧ x.b = a ∧ x.a ≠ a) ∨ (k = 7 ∧ x.c = a ∧ x.b ≠ a)
def shrinks (k : Nat) (x : StepD) (a : List Nat) : Prop := (k = 4 ∧ x.a = a) ∨ (k = 5 ∧ x.a = a ∧ x.b ≠ a) ∨ (k = 7 ∧ x.b = a ∧ x.c ≠ a)
def mayB (k : Nat) (x : StepD) (t : Int) (a : List Nat) (p q : Nat) : Prop := q = p ∨ (x.tok = t ∧ ((grows k x a ∧ q = p + nat4 x.amt) ∨ (shrinks k x a ∧ nat4 x.amt ≤ p ∧ q = p - nat4 x.amt)))
def mayA (k : Nat) (x : StepD) (t : Int) (o s : List Nat) (p q : Nat) : Prop := q = p ∨ (x.tok = t ∧ ((k = 6 ∧ x.a = o ∧ x.b = s ∧ q = nat4 x.amt) ∨ (k = 7 ∧ x.a = s ∧ x.b = o ∧ nat4 x.amt ≤ p ∧ q = p - nat4 x.amt)))
structure StepRel (k : Nat) (x : StepD) (m n : Md) : Prop where
 bal : ∀ (t : Nat) (a : List Nat), t < 64 → mayB k x t a (m.B t a) (n.B t a) ∧ (n.B t a ≠ m.B t a → (m.T t).there = true ∧ (m.T t).paused = false)
 all : ∀ (t : Nat) (o s : List Nat), mayA k x t o s (m.A t o s) (n.A t o s)
section
variable {k : Nat} {x : StepD} {m n : Md}
theorem StepRel.same (hB : n.B = m.B) (hA : n.A = m.A) : StepRel k x m n := ⟨fun t a _ => by rw [hB]; exact ⟨.inl rfl, fun h => absurd rfl h⟩, fun t o s => by rw [hA]; exact .inl rfl⟩
end
section
variable (V : View)
end
/-! Digits less digits. -/
end Go.Sl
