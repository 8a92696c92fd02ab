import Derived.Test.YtjkldhalmglkpaaDoorZCh
import Derived.Test.YtjkldhalmglkpaaDoorZAr
namespace Go.Sl
open Go
structure StepS where
 kind : Int
 key : ByteArray
 v : Value
 bs : List Nat
 mark : Int
def StepS.cells (x : StepS) : List Value := [.int .i64 x.kind, .string x.key, x.v, .int .i64 x.mark]
theorem chS_rd {l : List ChD} {M : List HP} (hv : ∀ d ∈ l, SlV d.ov d.old.length ∧ SlV d.nv d.new.length) : ∀ d ∈ l, RdS (chS l ++ M) d.ov d.old.length (bvs d.old) ∧ RdS (chS l ++ M) d.nv d.new.length (bvs d.new) := by
 induction l with
 | nil => intro d hd; cases hd
 | cons e l ih =>
  intro d hd
  have h1 := hv e (by simp)
  show RdS (own 1 e.ov e.old.length (bvs e.old) :: own 1 e.nv e.new.length (bvs e.new) :: (chS l ++ M)) _ _ _ ∧ RdS (own 1 e.ov e.old.length (bvs e.old) :: own 1 e.nv e.new.length (bvs e.new) :: (chS l ++ M)) _ _ _
  rcases List.mem_cons.1 hd with rfl | hd
  ·exact ⟨own_rd h1.1 (by rw [bvs_len, Nat.mul_one]), (own_rd h1.2 (by rw [bvs_len, Nat.mul_one])).tl⟩
  ·have h2 := ih (fun d hd => hv d (by simp [hd])) d hd
   exact ⟨h2.1.tl.tl, h2.2.tl.tl⟩
end Go.Sl
