import Derived.Test.YtjacolfhlfogkabGreatDoorRc
import Derived.Test.YtjacolfhlfogkabGreatDoorZWl
import Derived.Test.YtjacolfhlfogkabGreatDoorZCp
import Derived.Test.YtjacolfhlfogkabGreatDoorZLv
namespace Go.Proofs.YtjacolfhlfogkabGreatDoor
open Go Go.Sl
theorem bytesT : ElT Tryz.prog 97 5 1 1 := .of (by kernel_rfl)
theorem clone_spec (F : List HP) (v : Value) (bs : List Nat) (hm : bs.length ≤ 4398046511104) (hv : RdS F v bs.length (bvs bs)) :
 SpecF Tryz.prog 52 [v] F [] (fun r L => SlV r bs.length ∧ L = [own 1 r bs.length (bvs bs)] ∧ (r = .slice none 0 0 ↔ v = .slice none 0 0)) := by
 refine fun52.spec rfl ?_
 conv=>whnf
 refine NilG.rd hv fun b hb => ?_
 conv=>whnf
 refine CondG.split (fun h => ?_) (fun h => ?_)
 ·have e := hb.1 h
  subst e
  have hz : bs = [] := by
   exact List.eq_nil_of_length_eq_zero (hv.nilE rfl).1
  subst hz
  conv=>whnf
  refine ⟨[own 1 (.slice none 0 0) 0 []], fun w G hs => Sat.own_nil hs, ?_⟩
  exact ⟨.inl ⟨rfl, rfl⟩, rfl, by simp [retV]⟩
 ·conv=>whnf
  refine BuildG.of rfl ?_
  conv=>whnf
  intro b1
  conv=>whnf
  refine DoesG.ent (own_of_cel (sz := 1) (n := 0) rfl (by decide)) ?_
  refine app_own bytesT 97 (hv.tl) (by simp [bvs]) (bvs_one _) (by simp only [maxLen]; omega) (by omega) fun r hr hlen hnil => ?_
  conv=>whnf
  refine ret_here ⟨?_, ?_, ?_⟩
  ·simpa [retV] using hr
  ·simp [retV]
  ·have : ¬ v = .slice none 0 0 := fun e => by rw [hb.2 e] at h; cases h
   simp [retV, this, hnil]
theorem isZero_spec (F : List HP) (ws : List Nat) (hw : ws.length = 4) : SpecF Tryz.prog 108 [.agg ⟨uvs ws⟩] F [] (fun r L => r = .bool (decide (ws = List.replicate 4 0)) ∧ L = []) := by
 refine fun108.spec rfl ?_
 conv=>whnf
 intro b
 conv=>whnf
 refine LoadNG.at (vs := uvs ws) (by simp [uvs, hw]) .all ?_
 conv=>whnf
 refine BuildG.of rfl ?_
 conv=>whnf
 refine DoesG.eqv 4 (List.replicate 4 (.int .u64)) (by kernel_rfl) (by decide) (by kernel_rfl) (by kernel_rfl) (wt_uvs hw) (wt_uvs (ws := List.replicate 4 0) rfl) ?_
 conv=>whnf
 exact ⟨[], Ent.nil _, congrArg Value.bool (decide_eq_decide.2 (uvs_inj (m := List.replicate 4 0))), rfl⟩
end Go.Proofs.YtjacolfhlfogkabGreatDoor
namespace Go.Proofs.YtjacolfhlfogkabGreatDoor
open Go Go.Sl
end Go.Proofs.YtjacolfhlfogkabGreatDoor
namespace Go.Proofs.YtjacolfhlfogkabGreatDoor
open Go Go.Sl
end Go.Proofs.YtjacolfhlfogkabGreatDoor
