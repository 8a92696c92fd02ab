import Derived.Test.YtjkldhalmglkpaaDoorZLv
namespace Go.Sl
open Go
section
variable {P : Program} {f : FuncId} {args : List Value} {F L M pre : List HP} {R R' : Value → List HP → Prop} {α : Type} {φ : α → Prop} {ls : α → List HP}
theorem SpecF.turn (h : SpecF P f args F pre R) (hR : ∀ v L, R v L → ∃ L', R' v L' ∧ Ent L L') : SpecF P f args F pre R' := fun w hs => (h w hs).mono fun e w' ⟨v, L, he, hv, hx, hs'⟩ => by
 obtain ⟨L', h1, h2⟩ := hR v L hv
 exact ⟨v, L', he, h1, hx, h2 w' F hs'⟩
end
structure View where
 now : ByteArray → List Nat
 hist : List (ByteArray → List Nat)
instance : CoeFun View fun _ => ByteArray → List Nat := ⟨View.now⟩
def upd (V : View) (key : ByteArray) (bs : List Nat) : View := ⟨fun k => if k = key then bs else V k, V.hist⟩
end Go.Sl
