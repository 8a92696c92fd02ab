import Derived.Test.YtnbcbdlbejdkpaaDoorLz
import Derived.Test.YtnbcbdlbejdkpaaDoorZLp
namespace Go.Proofs.YtnbcbdlbejdkpaaDoor
open Go Go.Sl
theorem lpick_spec (F : List HP) (c : Int) (n : Nat) (h1 : -9223372036854775808 ≤ c) (h2 : c ≤ 9223372036854775807) (hn : 0 < n) : SpecF Tryd.prog 11 [.int .i64 c, .int .i64 n] F [] (fun v L => v = .int .i64 (pickN c n) ∧ L = []) := by
  have ht := pickN_tmod (c := c) (n := n)
  refine fun11.spec rfl ?_
  conv=>whnf
  refine CondG.dec (fun h => ?_) (fun h => ?_)
  · conv=>whnf
    refine ArithG.i64 (by omega) ?_
    conv=>whnf
    refine ArithG.i64' (-(c + 1)) (by omega) (by omega) ?_
    conv=>whnf
    refine SideG.of (by omega) ?_
    conv=>whnf
    rw [if_pos h] at ht
    rw [ht]
    exact ret_here ⟨rfl, rfl⟩
  · conv=>whnf
    refine SideG.of (by omega) ?_
    conv=>whnf
    rw [if_neg h] at ht
    rw [ht]
    exact ret_here ⟨rfl, rfl⟩
def V0 : View := ⟨fun _ => [], []⟩
theorem tabOk : SrcOk (tabFind []) where
  ok k h := by unfold tabFind; rw [if_neg (by omega)]
  len k := tabFind_len (by simp) k
theorem lv_nil (hb nb : Nat) (a b : Value) (k : ByteArray) : lv (tabFind []) (StC.mk [] [] [] [] hb nb a b) k = [] := by
  show (tabFind [] k).1 = []
  unfold tabFind
  split <;> rfl
theorem over_nil (F : List HP) : SpecF Tryd.prog 10 [.slice none 0 0] F [] (fun r L => ∃ s t vb q ob, r = .pointer (some ⟨s, 0, none⟩) ∧ L = stP 127 s (.iface 87 (.pointer (some ⟨t, 0, none⟩))) (tabFind []) V0 0 :: emptyL 154 177 t vb q ob) := by
  refine fun10.spec rfl ?_
  conv=>whnf
  refine CallG.pure (newTable_spec _) ?_
  rintro _ _ ⟨t, rfl, vb, q, ob, rfl⟩
  (conv=>whnf); repeat ((with_reducible first | refine .tt ?_ | refine .ff ?_); conv=>whnf)
  refine LoopG.mk (fun m ev L => ev = [(0, .slice none 0 0), (3, .pointer (some ⟨t, 0, none⟩)), (4, .int .i64 0)] ∧ L = emptyL 154 177 t vb q ob ++ []) 0 [(0, .slice none 0 0), (3, .pointer (some ⟨t, 0, none⟩)), (4, .int .i64 0)] _ ⟨rfl, rfl, rfl, trivial⟩ (Ent.refl _) ⟨rfl, rfl⟩ ?_
  rintro m ev L ⟨rfl, rfl⟩
  conv=>whnf
  refine LenG.lit ?_
  conv=>whnf
  refine CondG.ff ?_
  conv=>whnf
  refine CallG.pure (over_spec _ _ _) ?_
  rintro _ _ ⟨s, rfl, hb, nb, rfl⟩
  conv=>whnf
  refine CondG.ff ?_
  conv=>whnf
  refine ⟨stP 127 s (.iface 87 (.pointer (some ⟨t, 0, none⟩))) (tabFind []) V0 0 :: emptyL 154 177 t vb q ob, ?_, s, t, vb, q, ob, rfl, rfl⟩
  exact Ent.pack (L := emptyL 154 177 t vb q ob) (φ := At (tabFind []) V0 0) (ls := fun c => StC.pieces 127 s (.iface 87 (.pointer (some ⟨t, 0, none⟩))) c) ⟨lv_nil hb nb _ _, ⟨by simp, by simp, by simp⟩, Nat.le_refl 0, rfl, List.Pairwise.nil, fun j a f h => by simp at h⟩
theorem empty_src (F : List HP) (t vb q ob : Nat) : SrcG Tryd.prog (emptyL 154 177 t vb q ob ++ F) (.iface 87 (.pointer (some ⟨t, 0, none⟩))) (tabFind []) :=
  tab_src _ t vb [] (.left (.here rfl) F) (.left (.tl .here) F) (by simp)
def kA : List Nat := 1 :: List.replicate 19 0
def kB : List Nat := 2 :: List.replicate 19 0
theorem kw (n : Nat) (h : n < m64) : wOk [n, 0, 0, 0] := ⟨rfl, fun x hx => by
  simp only [List.mem_cons, List.not_mem_nil, or_false] at hx
  rcases hx with rfl | rfl | rfl | rfl
  · exact h
  all_goals decide⟩
theorem lknown_spec (F : List HP) : SpecF Tryd.prog 9 [] F [] (fun v L => v = .bool true ∧ L = []) := by
  refine fun9.spec rfl ?_
  conv=>whnf
  refine CallG.pure (over_nil _) ?_
  rintro _ _ ⟨s, t, vb, q, ob, rfl, rfl⟩
  (conv=>whnf); repeat ((with_reducible first | refine .tt ?_ | refine .ff ?_); conv=>whnf)
  refine BuildG.of (cs := bvs kA) rfl ?_
  conv=>whnf
  intro b2
  conv=>whnf
  refine StoreG.at rfl (Upd.whole rfl (bvs_one kA)) ?_
  conv=>whnf
  refine BuildG.of (cs := bvs kB) rfl ?_
  conv=>whnf
  intro b3
  conv=>whnf
  refine StoreG.at rfl (Upd.whole rfl (bvs_one kB)) ?_
  conv=>whnf
  have hsrc := (empty_src F t vb q ob).left [cel b3 33 (bvs kB), cel b2 33 (bvs kA)]
  refine CallG.of (pre := [stP 127 s _ (tabFind []) V0 0]) (rest := cel b3 33 (bvs kB) :: cel b2 33 (bvs kA) :: emptyL 154 177 t vb q ob) (register_at _ s _ V0 0 5 hsrc tabOk (by decide)) (Ent.sel (T := emptyL 154 177 t vb q ob) (A := [_, _, _]) [2, 0, 1] rfl) ?_
  rintro _ _ ⟨rfl, rfl⟩
  have r1 : (registerL V0 5).1 = 0 := by decide +kernel
  obtain ⟨V1, hV1⟩ : ∃ V, V = (registerL V0 5).2 := ⟨_, rfl⟩
  rw [r1, ← hV1]
  conv=>whnf
  refine LoadNG.at (vs := bvs kA) rfl (.tl (.tl .all)) ?_
  conv=>whnf
  refine BuildG.of (cs := uvs [10, 0, 0, 0]) rfl ?_
  conv=>whnf
  refine CallG.of (pre := [stP 127 s _ (tabFind []) V1 2]) (rest := cel b3 33 (bvs kB) :: cel b2 33 (bvs kA) :: emptyL 154 177 t vb q ob) (mint_at _ s _ V1 2 5 kA [10, 0, 0, 0] rfl (kw 10 (by decide)) hsrc tabOk (by decide)) (Ent.refl _) ?_
  rintro _ _ ⟨rfl, rfl⟩
  have r2 : (mintL V1 5 kA [10, 0, 0, 0]).1 = 0 := by rw [hV1]; decide +kernel
  obtain ⟨V2, hV2⟩ : ∃ V, V = (mintL V1 5 kA [10, 0, 0, 0]).2 := ⟨_, rfl⟩
  rw [r2, ← hV2]
  conv=>whnf
  refine LoadNG.at (vs := bvs kA) rfl (.tl (.tl .all)) ?_
  conv=>whnf
  refine LoadNG.at (vs := bvs kB) rfl (.tl .all) ?_
  conv=>whnf
  refine BuildG.of (cs := uvs [4, 0, 0, 0]) rfl ?_
  conv=>whnf
  refine CallG.of (pre := [stP 127 s _ (tabFind []) V2 4]) (rest := cel b3 33 (bvs kB) :: cel b2 33 (bvs kA) :: emptyL 154 177 t vb q ob) (move_at _ s _ V2 4 5 kA kB [4, 0, 0, 0] rfl rfl (kw 4 (by decide)) hsrc tabOk (by decide)) (Ent.refl _) ?_
  rintro _ _ ⟨rfl, rfl⟩
  have r3 : (moveL V2 5 kA kB [4, 0, 0, 0]).1 = 0 := by rw [hV2, hV1]; decide +kernel
  obtain ⟨V3, hV3⟩ : ∃ V, V = (moveL V2 5 kA kB [4, 0, 0, 0]).2 := ⟨_, rfl⟩
  rw [r3, ← hV3]
  conv=>whnf
  refine LoadNG.at (vs := bvs kA) rfl (.tl (.tl .all)) ?_
  conv=>whnf
  refine LoadNG.at (vs := bvs kB) rfl (.tl .all) ?_
  conv=>whnf
  refine BuildG.of (cs := uvs [7, 0, 0, 0]) rfl ?_
  conv=>whnf
  refine CallG.of (pre := [stP 127 s _ (tabFind []) V3 6]) (rest := cel b3 33 (bvs kB) :: cel b2 33 (bvs kA) :: emptyL 154 177 t vb q ob) (move_at _ s _ V3 6 5 kA kB [7, 0, 0, 0] rfl rfl (kw 7 (by decide)) hsrc tabOk (by decide)) (Ent.refl _) ?_
  rintro _ _ ⟨rfl, rfl⟩
  have r4 : (moveL V3 5 kA kB [7, 0, 0, 0]).1 = 85 := by rw [hV3, hV2, hV1]; decide +kernel
  have e5 : balL (moveL V3 5 kA kB [7, 0, 0, 0]).2 5 kA = ([6, 0, 0, 0], 0) := by rw [hV3, hV2, hV1]; decide +kernel
  have e6 : balL (moveL V3 5 kA kB [7, 0, 0, 0]).2 5 kB = ([4, 0, 0, 0], 0) := by rw [hV3, hV2, hV1]; decide +kernel
  have e7 : tokenL (moveL V3 5 kA kB [7, 0, 0, 0]).2 5 = (⟨true, false, [10, 0, 0, 0]⟩, 0) := by rw [hV3, hV2, hV1]; decide +kernel
  generalize (moveL V3 5 kA kB [7, 0, 0, 0]).2 = V4 at *
  rw [r4]
  conv=>whnf
  refine LoadNG.at (vs := bvs kA) rfl (.tl (.tl .all)) ?_
  conv=>whnf
  refine CallG.of (pre := [stP 127 s _ (tabFind []) V4 8]) (rest := cel b3 33 (bvs kB) :: cel b2 33 (bvs kA) :: emptyL 154 177 t vb q ob) (balance_at _ s _ V4 8 5 kA rfl hsrc tabOk) (Ent.refl _) ?_
  rintro _ _ ⟨rfl, rfl⟩
  rw [e5]
  conv=>whnf
  intro b8
  conv=>whnf
  refine StoreG.at rfl (Upd.whole rfl (uvs_one [6, 0, 0, 0])) ?_
  conv=>whnf
  refine LoadNG.at (vs := bvs kB) rfl (.tl (.tl .all)) ?_
  conv=>whnf
  refine CallG.of (pre := [stP 127 s _ (tabFind []) V4 8]) (rest := cel b8 25 (uvs [6, 0, 0, 0]) :: cel b3 33 (bvs kB) :: cel b2 33 (bvs kA) :: emptyL 154 177 t vb q ob) (balance_at _ s _ V4 8 5 kB rfl (hsrc.left [cel b8 25 (uvs [6, 0, 0, 0])]) tabOk) (Ent.perm (List.Perm.swap _ _ _)) ?_
  rintro _ _ ⟨rfl, rfl⟩
  rw [e6]
  conv=>whnf
  intro b10
  conv=>whnf
  refine StoreG.at rfl (Upd.whole rfl (uvs_one [4, 0, 0, 0])) ?_
  conv=>whnf
  refine CallG.of (pre := [stP 127 s _ (tabFind []) V4 8]) (rest := cel b10 25 (uvs [4, 0, 0, 0]) :: cel b8 25 (uvs [6, 0, 0, 0]) :: cel b3 33 (bvs kB) :: cel b2 33 (bvs kA) :: emptyL 154 177 t vb q ob) (token_at _ s _ V4 8 5 (hsrc.left [cel b10 25 (uvs [4, 0, 0, 0]), cel b8 25 (uvs [6, 0, 0, 0])]) tabOk) (Ent.perm (List.Perm.swap _ _ _)) ?_
  rintro _ _ ⟨rfl, rfl⟩
  rw [e7]
  conv=>whnf
  intro b12
  conv=>whnf
  refine StoreG.at rfl (Upd.whole rfl (TokD.cells_one ⟨true, false, [10, 0, 0, 0]⟩)) ?_
  conv=>whnf
  refine CondG.tt ?_
  (conv=>whnf); repeat ((with_reducible first | refine .tt ?_ | refine .ff ?_); conv=>whnf)
  refine CondG.tt ?_
  (conv=>whnf); repeat ((with_reducible first | refine .tt ?_ | refine .ff ?_); conv=>whnf)
  refine CondG.tt ?_
  (conv=>whnf); repeat ((with_reducible first | refine .tt ?_ | refine .ff ?_); conv=>whnf)
  refine CondG.tt ?_
  (conv=>whnf); repeat ((with_reducible first | refine .tt ?_ | refine .ff ?_); conv=>whnf)
  refine CondG.tt ?_
  (conv=>whnf); repeat ((with_reducible first | refine .tt ?_ | refine .ff ?_); conv=>whnf)
  refine CondG.tt ?_
  (conv=>whnf); repeat ((with_reducible first | refine .tt ?_ | refine .ff ?_); conv=>whnf)
  refine CondG.tt ?_
  conv=>whnf
  refine LoadNG.at (vs := uvs [6, 0, 0, 0]) rfl (.tl (.tl (.tl .all))) ?_
  (conv=>whnf); repeat ((with_reducible first | refine .tt ?_ | refine .ff ?_); conv=>whnf)
  refine BuildG.of (cs := uvs [6, 0, 0, 0]) rfl ?_
  (conv=>whnf); repeat ((with_reducible first | refine .tt ?_ | refine .ff ?_); conv=>whnf)
  refine DoesG.eqv 8 (List.replicate 4 (.int .u64)) (by kernel_rfl) (by decide) (by kernel_rfl) (by kernel_rfl) (wt_uvs (ws := [6, 0, 0, 0]) rfl) (wt_uvs (ws := [6, 0, 0, 0]) rfl) ?_
  (conv=>whnf); repeat ((with_reducible first | refine .tt ?_ | refine .ff ?_); conv=>whnf)
  refine CondG.split (fun _ => ?_) (fun h => absurd h (by simp))
  conv=>whnf
  refine LoadNG.at (vs := uvs [4, 0, 0, 0]) rfl (.tl (.tl .all)) ?_
  (conv=>whnf); repeat ((with_reducible first | refine .tt ?_ | refine .ff ?_); conv=>whnf)
  refine BuildG.of (cs := uvs [4, 0, 0, 0]) rfl ?_
  (conv=>whnf); repeat ((with_reducible first | refine .tt ?_ | refine .ff ?_); conv=>whnf)
  refine DoesG.eqv 8 (List.replicate 4 (.int .u64)) (by kernel_rfl) (by decide) (by kernel_rfl) (by kernel_rfl) (wt_uvs (ws := [4, 0, 0, 0]) rfl) (wt_uvs (ws := [4, 0, 0, 0]) rfl) ?_
  (conv=>whnf); repeat ((with_reducible first | refine .tt ?_ | refine .ff ?_); conv=>whnf)
  refine CondG.split (fun _ => ?_) (fun h => absurd h (by simp))
  (conv=>whnf); repeat ((with_reducible first | refine .tt ?_ | refine .ff ?_); conv=>whnf)
  refine LoadG.at (v := .bool true) (.here rfl) ?_
  (conv=>whnf); repeat ((with_reducible first | refine .tt ?_ | refine .ff ?_); conv=>whnf)
  refine LoadNG.at (vs := uvs [10, 0, 0, 0]) rfl (.here rfl) ?_
  (conv=>whnf); repeat ((with_reducible first | refine .tt ?_ | refine .ff ?_); conv=>whnf)
  refine BuildG.of (cs := uvs [10, 0, 0, 0]) rfl ?_
  (conv=>whnf); repeat ((with_reducible first | refine .tt ?_ | refine .ff ?_); conv=>whnf)
  refine DoesG.eqv 8 (List.replicate 4 (.int .u64)) (by kernel_rfl) (by decide) (by kernel_rfl) (by kernel_rfl) (wt_uvs (ws := [10, 0, 0, 0]) rfl) (wt_uvs (ws := [10, 0, 0, 0]) rfl) ?_
  (conv=>whnf); repeat ((with_reducible first | refine .tt ?_ | refine .ff ?_); conv=>whnf)
  exact ⟨[], Ent.nil _, by simp [retV], rfl⟩
end Go.Proofs.YtnbcbdlbejdkpaaDoor
