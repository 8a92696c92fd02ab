import Derived.Test.YtmfonkklmndhjaaGreatDoorRm
import Derived.Test.YtmfonkklmndhjaaGreatDoorGp
import Derived.Test.YtmfonkklmndhjaaGreatDoorZKc
import Derived.Test.YtmfonkklmndhjaaGreatDoorZTw
namespace Go.Proofs.YtmfonkklmndhjaaGreatDoor
open Go Go.Sl
section
variable {find : ByteArray → List Nat × Int}
theorem get_p (F : List HP) (s : Nat) (src : Value) (R : RSt) (key : ByteArray) (hs : SrcG Tryz.prog F src find) :
 SpecF Tryz.prog 62 [.pointer (some ⟨s, 0, none⟩), .string key] F [stR 70 s src R] (fun r L => ∃ x, SlV x (gtQ find R key).1.1.length ∧ r = .tuple #[x, .int .i64 (gtQ find R key).1.2] ∧ L = [own 1 x (gtQ find R key).1.1.length (bvs (gtQ find R key).1.1), stR 70 s src (gtQ find R key).2]) :=
 (get_h F s src key (T := []) (Φ := (· = [])) (fun _ _ => hs.h key)).turn fun v L h => by
  obtain ⟨x, T', hb, hx, hr, hL⟩ := h
  rw [behind_nil hb] at hL
  exact ⟨L, ⟨x, hx, hr, hL⟩, Ent.refl _⟩
theorem put_p (F : List HP) (s : Nat) (src : Value) (R : RSt) (key : ByteArray) (v : Value) (bs : List Nat) (hs : SrcG Tryz.prog F src find) (hr : RdS F v bs.length (bvs bs)) (hst : R.steps.length ≤ 4398046511104) :
 SpecF Tryz.prog 40 [.pointer (some ⟨s, 0, none⟩), .string key, v] F [stR 70 s src R] (fun r L => r = .int .i64 (ptQ find R key bs).1 ∧ L = [stR 70 s src (ptQ find R key bs).2]) :=
 (put_h F s src key v bs (T := []) (Φ := (· = [])) (fun _ _ => hs.h key) hr hst).turn fun w L h => by
  obtain ⟨T', hb, hr, hL⟩ := h
  have e : T' = [] := by
   split at hb
   ·exact behind_nil hb
   ·exact hb
  rw [e] at hL
  exact ⟨L, ⟨hr, hL⟩, Ent.refl _⟩
end
end Go.Proofs.YtmfonkklmndhjaaGreatDoor
namespace Go.Proofs.YtmfonkklmndhjaaGreatDoor
open Go Go.Sl
section
variable {find : ByteArray → List Nat × Int}
end
end Go.Proofs.YtmfonkklmndhjaaGreatDoor
namespace Go.Proofs.YtmfonkklmndhjaaGreatDoor
open Go Go.Sl
section
variable {find : ByteArray → List Nat × Int}
end
end Go.Proofs.YtmfonkklmndhjaaGreatDoor
