import Derived.Test.YtmfonkklmndhjaaGreatDoorTx
import Derived.Test.YtmfonkklmndhjaaGreatDoorRw
import Derived.Test.YtmfonkklmndhjaaGreatDoorZKc
namespace Go.Proofs.YtmfonkklmndhjaaGreatDoor
open Go Go.Sl
theorem rmay_spec (F : List HP) (l : LeafD) (hl : l.wf) : SpecF Tryz.prog 42 [.agg ⟨l.cells⟩] F [] (fun v L => v = .bool (decide l.may) ∧ L = []) := by
 refine fun42.spec rfl ?_
 conv=>whnf
 intro b
 conv=>whnf
 refine LoadG.at (v := .int .i64 l.idx) (.here rfl) ?_
 conv=>whnf
 refine CondG.dec (fun h1 => ?_) (fun h1 => ?_)
 rotate_left
 ·(conv=>whnf);repeat((with_reducible first|refine .tt ?_|refine .ff ?_);conv=>whnf)
  exact ⟨[], Ent.nil _, congrArg Value.bool (decide_eq_false fun h => h1 h.1.1).symm, rfl⟩
 (conv=>whnf);refine .tt ?_;(conv=>whnf)
 refine LoadG.at (v := .int .i64 l.idx) (.here rfl) ?_
 (conv=>whnf);refine .tt ?_;(conv=>whnf);refine .tt ?_;(conv=>whnf)
 refine CondG.dec (fun h2 => ?_) (fun h2 => ?_)
 rotate_left
 ·(conv=>whnf);repeat((with_reducible first|refine .tt ?_|refine .ff ?_);conv=>whnf)
  exact ⟨[], Ent.nil _, congrArg Value.bool (decide_eq_false fun h => h2 h.1.2).symm, rfl⟩
 (conv=>whnf);refine .tt ?_;(conv=>whnf)
 refine LoadG.at (v := .int .i64 l.ent) (.here rfl) ?_
 (conv=>whnf);refine .tt ?_;(conv=>whnf);refine .tt ?_;(conv=>whnf)
 refine CondG.dec (fun h3 => ?_) (fun h3 => ?_)
 rotate_left
 ·(conv=>whnf);repeat((with_reducible first|refine .tt ?_|refine .ff ?_);conv=>whnf)
  exact ⟨[], Ent.nil _, congrArg Value.bool (decide_eq_false fun h => h3 h.2.1.1).symm, rfl⟩
 (conv=>whnf);refine .tt ?_;(conv=>whnf)
 refine LoadG.at (v := .int .i64 l.ent) (.here rfl) ?_
 (conv=>whnf);refine .tt ?_;(conv=>whnf);refine .tt ?_;(conv=>whnf)
 refine CondG.dec (fun h4 => ?_) (fun h4 => ?_)
 rotate_left
 ·(conv=>whnf);refine .ff ?_;(conv=>whnf);refine .ff ?_;(conv=>whnf);refine .ff ?_;(conv=>whnf);refine .ff ?_;(conv=>whnf);refine .ff ?_;(conv=>whnf);refine .ff ?_;(conv=>whnf);refine .ff ?_;(conv=>whnf);refine .ff ?_;(conv=>whnf);refine .ff ?_;(conv=>whnf);refine .ff ?_;(conv=>whnf);refine .ff ?_;(conv=>whnf);refine .ff ?_;(conv=>whnf)
  exact ⟨[], Ent.nil _, congrArg Value.bool (decide_eq_false fun h => h4 h.2.1.2).symm, rfl⟩
 (conv=>whnf);refine .tt ?_;(conv=>whnf)
 refine LoadG.at (v := .int .i64 l.tok) (.here rfl) ?_
 (conv=>whnf);refine .tt ?_;(conv=>whnf);refine .tt ?_;(conv=>whnf)
 refine CondG.dec (fun h5 => ?_) (fun h5 => ?_)
 rotate_left
 ·(conv=>whnf);refine .ff ?_;(conv=>whnf);refine .ff ?_;(conv=>whnf);refine .ff ?_;(conv=>whnf);refine .ff ?_;(conv=>whnf);refine .ff ?_;(conv=>whnf);refine .ff ?_;(conv=>whnf);refine .ff ?_;(conv=>whnf);refine .ff ?_;(conv=>whnf)
  exact ⟨[], Ent.nil _, congrArg Value.bool (decide_eq_false fun h => h5 h.2.2.1.1).symm, rfl⟩
 (conv=>whnf);refine .tt ?_;(conv=>whnf)
 refine LoadG.at (v := .int .i64 l.tok) (.here rfl) ?_
 (conv=>whnf);refine .tt ?_;(conv=>whnf);refine .tt ?_;(conv=>whnf)
 refine CondG.dec (fun h6 => ?_) (fun h6 => ?_)
 rotate_left
 ·(conv=>whnf);refine .ff ?_;(conv=>whnf);refine .ff ?_;(conv=>whnf);refine .ff ?_;(conv=>whnf);refine .ff ?_;(conv=>whnf)
  exact ⟨[], Ent.nil _, congrArg Value.bool (decide_eq_false fun h => h6 h.2.2.1.2).symm, rfl⟩
 (conv=>whnf);refine .tt ?_;(conv=>whnf)
 refine LoadNG.at (vs := uvs l.amt) (by rw [uvs_len, hl.amt]) (CelN.here (LeafD.amt_at hl)) ?_
 (conv=>whnf);refine .tt ?_;(conv=>whnf)
 refine BuildG.of rfl ?_
 (conv=>whnf);refine .tt ?_;(conv=>whnf)
 refine DoesG.eqv 8 (List.replicate 4 (.int .u64)) (by kernel_rfl) (by decide) (by kernel_rfl) (by kernel_rfl) (wt_uvs hl.amt) (wt_uvs (ws := List.replicate 4 0) rfl) ?_
 (conv=>whnf);refine .tt ?_;(conv=>whnf)
 refine ⟨[], Ent.nil _, congrArg Value.bool ?_, rfl⟩
 by_cases h7 : l.amt = List.replicate 4 0
 ·rw [decide_eq_false (p := l.may) fun h => h.2.2.2 h7, h7]
  have e : ∀ (d : Decidable (uvs (List.replicate 4 0) = uvs (List.replicate 4 0))), (!@decide _ d) = false := fun d => by rw [decide_eq_true rfl]; rfl
  exact e _
 ·rw [decide_eq_true (p := l.may) ⟨⟨h1, h2⟩, ⟨h3, h4⟩, ⟨h5, h6⟩, h7⟩]
  have e : ∀ (d : Decidable (uvs l.amt = uvs (List.replicate 4 0))), (!@decide _ d) = true := fun d => by rw [decide_eq_false fun h => h7 (uvs_inj.1 h)]; rfl
  exact e _
section
variable (K : List W32) (hk : K.length = 64)
include hk
open Classical in
open Classical in
noncomputable def ochk (K : List W32) (root : List Nat) (n : Int) (l : LeafD) (p : List (List Nat)) : Int :=
 if ¬ l.may then 110 else if n < 0 ∨ 1099511627776 < n then 112 else if n ≤ l.idx then 111 else if checkD K root n.toNat l.idx.toNat l.bytes p then 0 else 113
open Classical in
open Classical in
end
end Go.Proofs.YtmfonkklmndhjaaGreatDoor
