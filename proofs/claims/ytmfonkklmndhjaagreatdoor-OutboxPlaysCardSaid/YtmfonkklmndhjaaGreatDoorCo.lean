import Derived.Test.YtmfonkklmndhjaaGreatDoorTe
import Derived.Test.YtmfonkklmndhjaaGreatDoorKn
import Derived.Test.YtmfonkklmndhjaaGreatDoorZKc
namespace Go.Proofs.YtmfonkklmndhjaaGreatDoor
open Go Go.Sl
section
variable (K : List W32) (hk : K.length = 64)
include hk
end
end Go.Proofs.YtmfonkklmndhjaaGreatDoor
namespace Go.Proofs.YtmfonkklmndhjaaGreatDoor
open Go Go.Sl
theorem pick_spec (F : List HP) (c : Int) (n : Nat) (h1 : -9223372036854775808 ≤ c) (h2 : c ≤ 9223372036854775807) (hn : 0 < n) : SpecF Tryz.prog 15 [.int .i64 c, .int .i64 n] F [] (fun v L => v = .int .i64 (pickN c n) ∧ L = []) := by
 have ht := pickN_tmod (c := c) (n := n)
 refine fun15.spec rfl ?_
 conv=>whnf
 refine CondG.dec (fun h => ?_) (fun h => ?_)
 ·conv=>whnf
  refine ArithG.i64 (by omega) ?_
  conv=>whnf
  refine ArithG.i64' (-(c + 1)) (by omega) (by omega) ?_
  conv=>whnf
  refine SideG.of (by omega) ?_
  conv=>whnf
  rw [if_pos h] at ht
  rw [ht]
  exact ret_here ⟨rfl, rfl⟩
 ·conv=>whnf
  refine SideG.of (by omega) ?_
  conv=>whnf
  rw [if_neg h] at ht
  rw [ht]
  exact ret_here ⟨rfl, rfl⟩
end Go.Proofs.YtmfonkklmndhjaaGreatDoor
namespace Go.Proofs.YtmfonkklmndhjaaGreatDoor
open Go Go.Sl
structure DigOk (d : List Nat) : Prop where
 len : d.length = 32
 byte : ∀ b ∈ d, b < 256
section
variable (K : List W32) (hk : K.length = 64)
include hk
def checkD (K : List W32) (root : List Nat) (n i : Nat) (t : List Nat) (p : List (List Nat)) : Prop :=
 p.length ≤ 64 ∧ (shownR K p.reverse n i (leafT K t)).2 = true ∧ (shownR K p.reverse n i (leafT K t)).1 = root
open Classical in
open Classical in
end
end Go.Proofs.YtmfonkklmndhjaaGreatDoor
