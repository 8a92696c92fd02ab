import Derived.Test.YtmfonkklmndhjaaGreatDoorOb
namespace Go.Proofs.YtmfonkklmndhjaaGreatDoor
open Go Go.Sl
def l0 : LeafD := ⟨0, 5, 3, List.replicate 20 0, [256, 0, 0, 0]⟩
theorem l0_wf : l0.wf := ⟨rfl, rfl⟩
theorem l0_may : l0.may := by decide
theorem l0_bytes : l0.bytes = [76, 0, 1, 5, 1, 3, 0, 0, 0, 0, 0, 0, 0, 0, 0, 0, 0, 0, 0, 0, 0, 0, 0, 0, 0, 0, 2, 1, 0] := by decide
theorem known_spec (F : List HP) : SpecF Tryz.prog 4 [] F [] (fun v _ => v = .bool true) := by
 refine fun4.spec rfl ?_
 conv=>whnf
 refine CallG.pure (new_spec _) ?_
 rintro _ _ ⟨b, rfl, rfl⟩
 (conv=>whnf);refine .ff ?_;(conv=>whnf)
 refine BuildG.of rfl ?_
 conv=>whnf
 refine BuildG.of (cs := l0.cells) rfl ?_
 conv=>whnf
 intro b2
 conv=>whnf
 refine StoreG.at rfl (Upd.whole rfl (LeafD.cells_one l0)) ?_
 conv=>whnf
 refine LoadNG.at (vs := l0.cells) rfl .all ?_
 conv=>whnf
 refine CallG.pure (bytes_spec _ l0 l0_wf) ?_
 rintro _ _ (⟨_, r, hr, rfl, rfl⟩ | ⟨h, _⟩)
 rotate_left
 ·exact absurd l0_may h
 rw [l0_bytes] at hr ⊢
 conv=>whnf
 refine LoadNG.at (vs := l0.cells) rfl (.tl .all) ?_
 conv=>whnf
 refine CallG.of (pre := bookL 63 b (.slice none 0 0) (.slice none 0 0) [] []) (rest := [own 1 r 29 (bvs [76, 0, 1, 5, 1, 3, 0, 0, 0, 0, 0, 0, 0, 0, 0, 0, 0, 0, 0, 0, 0, 0, 0, 0, 0, 0, 2, 1, 0]), cel b2 45 l0.cells]) (put_spec _ b _ _ l0 l0_wf [] [] (by simp) (by simp)) (Ent.perm ?_) ?_
 ·exact List.perm_append_comm (l₁ := [own 1 r 29 (bvs [76, 0, 1, 5, 1, 3, 0, 0, 0, 0, 0, 0, 0, 0, 0, 0, 0, 0, 0, 0, 0, 0, 0, 0, 0, 0, 2, 1, 0]), cel b2 45 l0.cells])
 rintro _ _ (⟨h, _⟩ | ⟨_, h, _⟩ | ⟨_, _, rfl, lv, tv, r2, hlv, htv, hr2, rfl⟩)
 ·exact absurd l0_may h
 ·exact absurd rfl h
 conv=>whnf
 refine CallG.pure (bleaf_spec _ b lv 0 [l0] (by simpa using l0_wf) (.left (.left (.tl (.tl (.here rfl))) _) _) ((own_rd (sz := 27) hlv rfl).left _ |>.left _) hlv) ?_
 rintro _ _ ⟨rfl, (⟨hi, rfl⟩ | ⟨h, _⟩)⟩
 rotate_left
 ·exact absurd (by decide) h
 conv=>whnf
 intro b6
 conv=>whnf
 refine StoreG.at rfl (Upd.whole rfl (LeafD.cells_one l0)) ?_
 conv=>whnf
 refine CondG.tt ?_
 (conv=>whnf);refine .tt ?_;(conv=>whnf)
 refine LenG.sl hr ?_
 (conv=>whnf);refine .tt ?_;(conv=>whnf);refine .tt ?_;(conv=>whnf)
 refine CondG.tt ?_
 (conv=>whnf);refine .tt ?_;(conv=>whnf)
 have hrd : RdS (cel b6 45 l0.cells :: ([] ++ (bookL 63 b lv tv ([] ++ [l0]) ([] ++ [(r2, l0.bytes)]) ++ [own 1 r 29 (bvs [76, 0, 1, 5, 1, 3, 0, 0, 0, 0, 0, 0, 0, 0, 0, 0, 0, 0, 0, 0, 0, 0, 0, 0, 0, 0, 2, 1, 0]), cel b2 45 l0.cells]))) r 29 _ := RdS.tl (RdS.tl (RdS.tl (RdS.tl (RdS.tl (own_rd (L := [cel b2 45 l0.cells]) hr rfl)))))
 refine IdxG.rd hrd (by decide) fun c o hc => ?_
 (conv=>whnf);refine .tt ?_;(conv=>whnf)
 refine LoadG.at (v := bv 76) (hc.one (i := 0) rfl) ?_
 (conv=>whnf);refine .tt ?_;(conv=>whnf);refine .tt ?_;(conv=>whnf)
 refine CondG.tt ?_
 (conv=>whnf);refine .tt ?_;(conv=>whnf)
 refine IdxG.rd hrd (by decide) fun c o hc => ?_
 (conv=>whnf);refine .tt ?_;(conv=>whnf)
 refine LoadG.at (v := bv 0) (hc.one (i := 1) rfl) ?_
 (conv=>whnf);refine .tt ?_;(conv=>whnf);refine .tt ?_;(conv=>whnf)
 refine CondG.tt ?_
 (conv=>whnf);refine .tt ?_;(conv=>whnf)
 refine IdxG.rd hrd (by decide) fun c o hc => ?_
 (conv=>whnf);refine .tt ?_;(conv=>whnf)
 refine LoadG.at (v := bv 1) (hc.one (i := 2) rfl) ?_
 (conv=>whnf);refine .tt ?_;(conv=>whnf);refine .tt ?_;(conv=>whnf)
 refine CondG.tt ?_
 (conv=>whnf);refine .tt ?_;(conv=>whnf)
 refine IdxG.rd hrd (by decide) fun c o hc => ?_
 (conv=>whnf);refine .tt ?_;(conv=>whnf)
 refine LoadG.at (v := bv 5) (hc.one (i := 3) rfl) ?_
 (conv=>whnf);refine .tt ?_;(conv=>whnf);refine .tt ?_;(conv=>whnf)
 refine CondG.tt ?_
 (conv=>whnf);refine .tt ?_;(conv=>whnf);refine .tt ?_;(conv=>whnf)
 refine CondG.tt ?_
 (conv=>whnf);refine .tt ?_;(conv=>whnf);refine .tt ?_;(conv=>whnf)
 refine CondG.tt ?_
 conv=>whnf
 refine LoadNG.at (vs := l0.cells) rfl .all ?_
 (conv=>whnf);refine .tt ?_;(conv=>whnf)
 refine LoadNG.at (vs := l0.cells) rfl (.tl (.tl (.tl (.tl (.tl (.tl .all)))))) ?_
 (conv=>whnf);refine .tt ?_;(conv=>whnf)
 refine DoesG.eqv 8 leafK (by kernel_rfl) (by decide) (by kernel_rfl) (by kernel_rfl) (LeafD.wt l0_wf) (LeafD.wt l0_wf) ?_
 (conv=>whnf);refine .tt ?_;(conv=>whnf)
 refine CondG.split (fun _ => ?_) (fun h => absurd h (by simp))
 (conv=>whnf);refine .tt ?_;(conv=>whnf);refine .tt ?_;(conv=>whnf);refine .tt ?_;(conv=>whnf)
 refine CallG.pure (len_spec _ b lv 1 (.left (.tl (.tl (.tl (.here rfl)))) _) hlv) ?_
 rintro _ _ ⟨rfl, rfl⟩
 (conv=>whnf);refine .tt ?_;(conv=>whnf);refine .tt ?_;(conv=>whnf)
 exact ret_here rfl
end Go.Proofs.YtmfonkklmndhjaaGreatDoor
