import Derived.Test.YtjacolfhlfogkabGreatDoorMz
import Derived.Test.YtjacolfhlfogkabGreatDoorWa
namespace Go.Proofs.YtjacolfhlfogkabGreatDoor
open Go Go.Sl
theorem rover_nil (F : List HP) : SpecF Tryz.prog 22 [.slice none 0 0] F [] (fun r L => ∃ s t vb q ob, r = .pointer (some ⟨s, 0, none⟩) ∧ L = stR 75 s (.iface 105 (.pointer (some ⟨t, 0, none⟩))) ⟨[], [], [], 0⟩ :: emptyL 147 171 t vb q ob) := by
 refine fun22.spec rfl ?_
 conv=>whnf
 refine CallG.pure (newTable_spec _) ?_
 rintro _ _ ⟨t, rfl, vb, q, ob, rfl⟩
 (conv=>whnf);refine .ff ?_;(conv=>whnf)
 refine LoopG.mk (fun m ev L => ev = [(0, .slice none 0 0), (3, .pointer (some ⟨t, 0, none⟩)), (4, .int .i64 0)] ∧ L = emptyL 147 171 t vb q ob ++ []) 0 [(0, .slice none 0 0), (3, .pointer (some ⟨t, 0, none⟩)), (4, .int .i64 0)] _ ⟨rfl, rfl, rfl, trivial⟩ (Ent.refl _) ⟨rfl, rfl⟩ ?_
 rintro m ev L ⟨rfl, rfl⟩
 conv=>whnf
 refine LenG.lit ?_
 conv=>whnf
 refine CondG.ff ?_
 conv=>whnf
 refine CallG.pure (over_h _ _ _) ?_
 rintro _ _ ⟨s, rfl, rfl⟩
 conv=>whnf
 refine CondG.ff ?_
 conv=>whnf
 refine ⟨stR 75 s (.iface 105 (.pointer (some ⟨t, 0, none⟩))) ⟨[], [], [], 0⟩ :: emptyL 147 171 t vb q ob, ?_, s, t, vb, q, ob, rfl, rfl⟩
 exact Ent.perm (by classical exact List.perm_iff_count.2 fun x => by simp only [List.append_eq, List.count_append, List.count_cons, List.count_nil]; omega)
theorem rknown_spec (F : List HP) : SpecF Tryz.prog 20 [] F [] (fun v L => v = .bool true ∧ L = []) := by
 refine fun20.spec rfl ?_
 conv=>whnf
 refine CallG.pure (rover_nil _) ?_
 rintro _ _ ⟨s, t, vb, q, ob, rfl, rfl⟩
 (conv=>whnf);refine .ff ?_;(conv=>whnf)
 refine BuildG.of (cs := bvs kA) rfl ?_
 conv=>whnf
 intro b2
 conv=>whnf
 refine StoreG.at rfl (Upd.whole rfl (bvs_one kA)) ?_
 conv=>whnf
 refine BuildG.of (cs := bvs kB) rfl ?_
 conv=>whnf
 intro b3
 conv=>whnf
 refine StoreG.at rfl (Upd.whole rfl (bvs_one kB)) ?_
 conv=>whnf
 have hsrc := (empty_src F t vb q ob).left [cel b3 35 (bvs kB), cel b2 35 (bvs kA)]
 refine CallG.of (pre := [stR 75 s _ ⟨[], [], [], 0⟩]) (rest := cel b3 35 (bvs kB) :: cel b2 35 (bvs kA) :: emptyL 147 171 t vb q ob) (register_q _ s _ ⟨[], [], [], 0⟩ 5 hsrc (by decide)) (Ent.sel (T := emptyL 147 171 t vb q ob) (A := [_, _, _]) [2, 0, 1] rfl) ?_
 rintro _ _ ⟨rfl, rfl⟩
 have r1 : (registerQ (tabFind []) ⟨[], [], [], 0⟩ 5).1 = 0 := by decide +kernel
 obtain ⟨V1, hV1⟩ : ∃ V : RSt, V = (registerQ (tabFind []) ⟨[], [], [], 0⟩ 5).2 := ⟨_, rfl⟩
 rw [r1, ← hV1]
 conv=>whnf
 refine LoadNG.at (vs := bvs kA) rfl (.tl (.tl .all)) ?_
 conv=>whnf
 refine BuildG.of (cs := uvs [10, 0, 0, 0]) rfl ?_
 conv=>whnf
 refine CallG.of (pre := [stR 75 s _ V1]) (rest := cel b3 35 (bvs kB) :: cel b2 35 (bvs kA) :: emptyL 147 171 t vb q ob) (mint_q _ s _ V1 5 kA [10, 0, 0, 0] rfl (kw 10 (by decide)) hsrc (by rw [hV1]; decide +kernel)) (Ent.refl _) ?_
 rintro _ _ ⟨rfl, rfl⟩
 have r2 : (mintQ (tabFind []) V1 5 kA [10, 0, 0, 0]).1 = 0 := by rw [hV1]; decide +kernel
 obtain ⟨V2, hV2⟩ : ∃ V : RSt, V = (mintQ (tabFind []) V1 5 kA [10, 0, 0, 0]).2 := ⟨_, rfl⟩
 rw [r2, ← hV2]
 conv=>whnf
 refine LoadNG.at (vs := bvs kA) rfl (.tl (.tl .all)) ?_
 conv=>whnf
 refine LoadNG.at (vs := bvs kB) rfl (.tl .all) ?_
 conv=>whnf
 refine BuildG.of (cs := uvs [4, 0, 0, 0]) rfl ?_
 conv=>whnf
 refine CallG.of (pre := [stR 75 s _ V2]) (rest := cel b3 35 (bvs kB) :: cel b2 35 (bvs kA) :: emptyL 147 171 t vb q ob) (move_q _ s _ V2 5 kA kB [4, 0, 0, 0] rfl rfl (kw 4 (by decide)) hsrc (by rw [hV2, hV1]; decide +kernel)) (Ent.refl _) ?_
 rintro _ _ ⟨rfl, rfl⟩
 have r3 : (moveQ (tabFind []) V2 5 kA kB [4, 0, 0, 0]).1 = 0 := by rw [hV2, hV1]; decide +kernel
 obtain ⟨V3, hV3⟩ : ∃ V : RSt, V = (moveQ (tabFind []) V2 5 kA kB [4, 0, 0, 0]).2 := ⟨_, rfl⟩
 rw [r3, ← hV3]
 conv=>whnf
 refine LoadNG.at (vs := bvs kA) rfl (.tl (.tl .all)) ?_
 conv=>whnf
 refine LoadNG.at (vs := bvs kB) rfl (.tl .all) ?_
 conv=>whnf
 refine BuildG.of (cs := uvs [7, 0, 0, 0]) rfl ?_
 conv=>whnf
 refine CallG.of (pre := [stR 75 s _ V3]) (rest := cel b3 35 (bvs kB) :: cel b2 35 (bvs kA) :: emptyL 147 171 t vb q ob) (move_q _ s _ V3 5 kA kB [7, 0, 0, 0] rfl rfl (kw 7 (by decide)) hsrc (by rw [hV3, hV2, hV1]; decide +kernel)) (Ent.refl _) ?_
 rintro _ _ ⟨rfl, rfl⟩
 have r4 : (moveQ (tabFind []) V3 5 kA kB [7, 0, 0, 0]).1 = 85 := by rw [hV3, hV2, hV1]; decide +kernel
 obtain ⟨V4, hV4⟩ : ∃ V : RSt, V = (moveQ (tabFind []) V3 5 kA kB [7, 0, 0, 0]).2 := ⟨_, rfl⟩
 have e5 : (balQ (tabFind []) V4 5 kA).1 = ([6, 0, 0, 0], 0) := by rw [hV4, hV3, hV2, hV1]; decide +kernel
 obtain ⟨V5, hV5⟩ : ∃ V : RSt, V = (balQ (tabFind []) V4 5 kA).2 := ⟨_, rfl⟩
 have e6 : (balQ (tabFind []) V5 5 kB).1 = ([4, 0, 0, 0], 0) := by rw [hV5, hV4, hV3, hV2, hV1]; decide +kernel
 obtain ⟨V6, hV6⟩ : ∃ V : RSt, V = (balQ (tabFind []) V5 5 kB).2 := ⟨_, rfl⟩
 have e7 : (tokenQ (tabFind []) V6 5).1 = (⟨true, false, [10, 0, 0, 0]⟩, 0) := by rw [hV6, hV5, hV4, hV3, hV2, hV1]; decide +kernel
 rw [← hV4]
 rw [r4]
 conv=>whnf
 refine LoadNG.at (vs := bvs kA) rfl (.tl (.tl .all)) ?_
 conv=>whnf
 refine CallG.of (pre := [stR 75 s _ V4]) (rest := cel b3 35 (bvs kB) :: cel b2 35 (bvs kA) :: emptyL 147 171 t vb q ob) (balance_q _ s _ V4 5 kA rfl hsrc) (Ent.refl _) ?_
 rintro _ _ ⟨rfl, rfl⟩
 rw [e5, ← hV5]
 conv=>whnf
 intro b8
 conv=>whnf
 refine StoreG.at rfl (Upd.whole rfl (uvs_one [6, 0, 0, 0])) ?_
 conv=>whnf
 refine LoadNG.at (vs := bvs kB) rfl (.tl (.tl .all)) ?_
 conv=>whnf
 refine CallG.of (pre := [stR 75 s _ V5]) (rest := cel b8 38 (uvs [6, 0, 0, 0]) :: cel b3 35 (bvs kB) :: cel b2 35 (bvs kA) :: emptyL 147 171 t vb q ob) (balance_q _ s _ V5 5 kB rfl (hsrc.left [cel b8 38 (uvs [6, 0, 0, 0])]) ) (Ent.perm (List.Perm.swap _ _ _)) ?_
 rintro _ _ ⟨rfl, rfl⟩
 rw [e6, ← hV6]
 conv=>whnf
 intro b10
 conv=>whnf
 refine StoreG.at rfl (Upd.whole rfl (uvs_one [4, 0, 0, 0])) ?_
 conv=>whnf
 refine CallG.of (pre := [stR 75 s _ V6]) (rest := cel b10 38 (uvs [4, 0, 0, 0]) :: cel b8 38 (uvs [6, 0, 0, 0]) :: cel b3 35 (bvs kB) :: cel b2 35 (bvs kA) :: emptyL 147 171 t vb q ob) (token_q _ s _ V6 5 (hsrc.left [cel b10 38 (uvs [4, 0, 0, 0]), cel b8 38 (uvs [6, 0, 0, 0])]) ) (Ent.perm (List.Perm.swap _ _ _)) ?_
 rintro _ _ ⟨rfl, rfl⟩
 rw [e7]
 conv=>whnf
 intro b12
 conv=>whnf
 refine StoreG.at rfl (Upd.whole rfl (TokD.cells_one ⟨true, false, [10, 0, 0, 0]⟩)) ?_
 conv=>whnf
 refine CondG.tt ?_
 (conv=>whnf);refine .tt ?_;(conv=>whnf);refine .tt ?_;(conv=>whnf)
 refine CondG.tt ?_
 (conv=>whnf);refine .tt ?_;(conv=>whnf);refine .tt ?_;(conv=>whnf)
 refine CondG.tt ?_
 (conv=>whnf);refine .tt ?_;(conv=>whnf);refine .tt ?_;(conv=>whnf)
 refine CondG.tt ?_
 (conv=>whnf);refine .tt ?_;(conv=>whnf);refine .tt ?_;(conv=>whnf)
 refine CondG.tt ?_
 (conv=>whnf);refine .tt ?_;(conv=>whnf);refine .tt ?_;(conv=>whnf)
 refine CondG.tt ?_
 (conv=>whnf);refine .tt ?_;(conv=>whnf);refine .tt ?_;(conv=>whnf)
 refine CondG.tt ?_
 conv=>whnf
 refine LoadNG.at (vs := uvs [6, 0, 0, 0]) rfl (.tl (.tl (.tl .all))) ?_
 (conv=>whnf);refine .tt ?_;(conv=>whnf)
 refine BuildG.of (cs := uvs [6, 0, 0, 0]) rfl ?_
 (conv=>whnf);refine .tt ?_;(conv=>whnf)
 refine DoesG.eqv 8 (List.replicate 4 (.int .u64)) (by kernel_rfl) (by decide) (by kernel_rfl) (by kernel_rfl) (wt_uvs (ws := [6, 0, 0, 0]) rfl) (wt_uvs (ws := [6, 0, 0, 0]) rfl) ?_
 (conv=>whnf);refine .tt ?_;(conv=>whnf)
 refine CondG.split (fun _ => ?_) (fun h => absurd h (by simp))
 conv=>whnf
 refine LoadNG.at (vs := uvs [4, 0, 0, 0]) rfl (.tl (.tl .all)) ?_
 (conv=>whnf);refine .tt ?_;(conv=>whnf)
 refine BuildG.of (cs := uvs [4, 0, 0, 0]) rfl ?_
 (conv=>whnf);refine .tt ?_;(conv=>whnf)
 refine DoesG.eqv 8 (List.replicate 4 (.int .u64)) (by kernel_rfl) (by decide) (by kernel_rfl) (by kernel_rfl) (wt_uvs (ws := [4, 0, 0, 0]) rfl) (wt_uvs (ws := [4, 0, 0, 0]) rfl) ?_
 (conv=>whnf);refine .tt ?_;(conv=>whnf)
 refine CondG.split (fun _ => ?_) (fun h => absurd h (by simp))
 (conv=>whnf);refine .tt ?_;(conv=>whnf)
 refine LoadG.at (v := .bool true) (.here rfl) ?_
 (conv=>whnf);refine .tt ?_;(conv=>whnf);refine .tt ?_;(conv=>whnf);refine .tt ?_;(conv=>whnf)
 refine LoadNG.at (vs := uvs [10, 0, 0, 0]) rfl (.here rfl) ?_
 (conv=>whnf);refine .tt ?_;(conv=>whnf)
 refine BuildG.of (cs := uvs [10, 0, 0, 0]) rfl ?_
 (conv=>whnf);refine .tt ?_;(conv=>whnf)
 refine DoesG.eqv 8 (List.replicate 4 (.int .u64)) (by kernel_rfl) (by decide) (by kernel_rfl) (by kernel_rfl) (wt_uvs (ws := [10, 0, 0, 0]) rfl) (wt_uvs (ws := [10, 0, 0, 0]) rfl) ?_
 (conv=>whnf);refine .tt ?_;(conv=>whnf)
 exact ⟨[], Ent.nil _, by simp [retV], rfl⟩
end Go.Proofs.YtjacolfhlfogkabGreatDoor
