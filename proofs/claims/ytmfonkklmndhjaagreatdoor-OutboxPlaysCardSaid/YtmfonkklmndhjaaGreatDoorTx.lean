import Derived.Test.YtmfonkklmndhjaaGreatDoorRl
import Derived.Test.YtmfonkklmndhjaaGreatDoorCo
namespace Go.Proofs.YtmfonkklmndhjaaGreatDoor
open Go Go.Sl
theorem ltext_spec (F : List HP) (v : Value) (bs : List Nat) (hv : RdS F v bs.length (bvs bs)) (hl : bs.length ≤ 1099511627776) : SpecF Tryz.prog 93 [v] F [] (fun r L => SlV r (0 :: bs).length ∧ L = [own 1 r (0 :: bs).length (bvs (0 :: bs))]) := by
 refine fun93.spec rfl ?_
 conv=>whnf
 refine BuildG.of (cs := bvs [0]) rfl ?_
 conv=>whnf
 intro b4
 conv=>whnf
 refine DoesG.ent (own_of_cel (n := 1) (sz := 1) rfl (by decide)) ?_
 refine app_own bytesT 22 (m := bs.length) (ys := bvs bs) (.tl hv) (by rw [bvs_len, Nat.mul_one]) (bvs_one _) (by simp only [maxLen]; omega) (by omega) fun q hq hql _ => ?_
 have el : 1 + bs.length = (0 :: bs).length := by simp; omega
 rw [el] at hq ⊢
 conv=>whnf
 exact ret_here ⟨hq, rfl⟩
theorem ntext_spec (F : List HP) (a b : List Nat) (ha : a.length = 32) (hb : b.length = 32) : SpecF Tryz.prog 94 [.agg ⟨bvs a⟩, .agg ⟨bvs b⟩] F [] (fun r L => SlV r (1 :: (a ++ b)).length ∧ L = [own 1 r (1 :: (a ++ b)).length (bvs (1 :: (a ++ b)))]) := by
 refine fun94.spec rfl ?_
 conv=>whnf
 intro b2
 conv=>whnf
 intro b3
 conv=>whnf
 refine BuildG.of (cs := bvs [1]) rfl ?_
 conv=>whnf
 intro b6
 conv=>whnf
 refine SideG.of (by decide) ?_
 conv=>whnf
 refine SliceG.zero ?_
 conv=>whnf
 refine DoesG.ent (own_of_cel (n := 1) (sz := 1) rfl (by decide)) ?_
 refine app_own bytesT 22 (m := 32) (ys := bvs a) (.mk _ _ _ _ _ (by decide) (.tl (.tl .all))) (by rw [bvs_len, ha]) (bvs_one _) (by simp only [maxLen]; omega) (by omega) fun q hq hql _ => ?_
 conv=>whnf
 refine SideG.of (by decide) ?_
 conv=>whnf
 refine SliceG.zero ?_
 conv=>whnf
 refine app_own bytesT 22 (m := 32) (ys := bvs b) (.mk _ _ _ _ _ (by decide) (.tl .all)) (by rw [bvs_len, hb]) (bvs_one _) (by simp only [maxLen]; omega) (by omega) fun q2 hq2 hql2 _ => ?_
 conv=>whnf
 have el : 1 + 32 + 32 = (1 :: (a ++ b)).length := by simp [ha, hb]
 have ec : bvs [1] ++ bvs a ++ bvs b = bvs (1 :: (a ++ b)) := by simp [bvs]
 rw [el] at hq2 ⊢
 rw [ec]
 exact ⟨_, Ent.sel (T := []) (A := [_, _, _]) [0] rfl, hq2, rfl⟩
structure TxOk (ts : List (Value × List Nat)) (lv : Value) (l : List (List Nat)) : Prop where
 txt : ts.map (·.2) = l
 lv : SlV lv ts.length
 each : ∀ t ∈ ts, SlV t.1 t.2.length
theorem TxOk.len {ts : List (Value × List Nat)} {lv : Value} {l : List (List Nat)} (h : TxOk ts lv l) : ts.length = l.length := by rw [← h.txt, List.length_map]
section
variable (K : List W32) (hk : K.length = 64)
include hk
end
end Go.Proofs.YtmfonkklmndhjaaGreatDoor
