/-
  A ticket out of bytes: a contract out of the resolved text.
-/
import Derived.Test.YthdpknlnpeaiiaaDoorTk
namespace Go.Proofs.YthdpknlnpeaiiaaDoor
open Go Go.Sl
theorem ticketOf_spec (F : List HP) (n : Int) (v : Value) (bs : List Nat) (hb : bs.length ≤ 1152921504606846976) (hv : RdS F v bs.length (bvs bs)) : SpecF Tryd.prog 89 [.int .i64 n, v] F [] (fun r L => L = [] ∧
      ((bs.length ≠ 81 ∧ r = .tuple #[.agg ⟨zeroT'.cells⟩, .bool false]) ∨ (bs.length = 81 ∧ r = .tuple #[.agg ⟨(tkOf n bs).cells⟩, .bool (decide (tkOf n bs).may)]))) := by
  obtain ⟨va, vc, hve⟩ := hv.len
  subst hve
  refine fun89.spec rfl ?_
  (conv => whnf); repeat ((first | with_reducible refine CondG.tt ?_ | with_reducible refine CondG.ff ?_); conv => whnf)
  intro b3
  (conv => whnf); repeat ((first | with_reducible refine CondG.tt ?_ | with_reducible refine CondG.ff ?_); conv => whnf)
  intro b4
  (conv => whnf); repeat ((first | with_reducible refine CondG.tt ?_ | with_reducible refine CondG.ff ?_); conv => whnf)
  refine LoadG.at (.tl (.here rfl)) ?_
  (conv => whnf); repeat ((first | with_reducible refine CondG.tt ?_ | with_reducible refine CondG.ff ?_); conv => whnf)
  refine LenG.lit ?_
  (conv => whnf); repeat ((first | with_reducible refine CondG.tt ?_ | with_reducible refine CondG.ff ?_); conv => whnf)
  refine CondG.ndec (fun h1 => ?_) (fun h1 => ?_)
  · (conv => whnf); repeat ((first | with_reducible refine CondG.tt ?_ | with_reducible refine CondG.ff ?_); conv => whnf)
    refine BuildG.of rfl ?_
    (conv => whnf); repeat ((first | with_reducible refine CondG.tt ?_ | with_reducible refine CondG.ff ?_); conv => whnf)
    refine StoreG.at rfl (Upd.whole rfl (TicketD.cells_one zeroT')) ?_
    (conv => whnf); repeat ((first | with_reducible refine CondG.tt ?_ | with_reducible refine CondG.ff ?_); conv => whnf)
    refine LoadNG.at (vs := zeroT'.cells) rfl .all ?_
    (conv => whnf); repeat ((first | with_reducible refine CondG.tt ?_ | with_reducible refine CondG.ff ?_); conv => whnf)
    exact ⟨[], Ent.nil _, rfl, .inl ⟨by omega, rfl⟩⟩
  have h81 : bs.length = 81 := by omega
  rw [h81] at hv
  (conv => whnf); repeat ((first | with_reducible refine CondG.tt ?_ | with_reducible refine CondG.ff ?_); conv => whnf)
  refine SideG.of (by kernel_rfl) ?_
  refine CallG.of (pre := [cel b3 79 [.slice va bs.length vc]]) (rest := [cel b4 96 zeroT'.cells]) (cut_spec _ F b3 8 81 _ bs (by decide) h81 (by rw [h81]; exact hv) (by decide)) (Ent.perm (List.Perm.swap _ _ _)) ?_
  rintro r1 _ ⟨hr1, v1, hv1, rfl⟩
  (conv => whnf); repeat ((first | with_reducible refine CondG.tt ?_ | with_reducible refine CondG.ff ?_); conv => whnf)
  refine CallG.pure (number_spec_t _ r1 (bs.take 8) (by simp; omega) (by rw [List.length_take, h81]; exact hr1.right _)) ?_
  rintro _ _ ⟨rfl, rfl⟩
  (conv => whnf); repeat ((first | with_reducible refine CondG.tt ?_ | with_reducible refine CondG.ff ?_); conv => whnf)
  refine BuildG.of (cs := (TicketD.mk n (numF (bs.take 8)) (List.replicate 20 0) 0 (List.replicate 20 0) (List.replicate 4 0)).cells) rfl ?_
  (conv => whnf); repeat ((first | with_reducible refine CondG.tt ?_ | with_reducible refine CondG.ff ?_); conv => whnf)
  intro b7
  (conv => whnf); repeat ((first | with_reducible refine CondG.tt ?_ | with_reducible refine CondG.ff ?_); conv => whnf)
  refine StoreG.at rfl (Upd.whole rfl (TicketD.cells_one _)) ?_
  (conv => whnf); repeat ((first | with_reducible refine CondG.tt ?_ | with_reducible refine CondG.ff ?_); conv => whnf)
  -- the sender
  refine SideG.of (by kernel_rfl) ?_
  refine CallG.of (pre := [cel b3 79 [v1]]) (rest := [cel b7 96 _, cel b4 96 zeroT'.cells]) (cut_spec _ F b3 20 73 _ (bs.drop 8) (by decide) (by simp [h81]) hv1 (by decide)) (Ent.perm (List.Perm.swap _ _ _)) ?_
  rintro r2 _ ⟨hr2, v2, hv2, rfl⟩
  (conv => whnf); repeat ((first | with_reducible refine CondG.tt ?_ | with_reducible refine CondG.ff ?_); conv => whnf)
  refine DoesG.arr (e := 5) (len := 20) (by kernel_rfl) (hr2.right _) (by decide) (by decide) fun c2 o2 hc2 => ?_
  (conv => whnf); repeat ((first | with_reducible refine CondG.tt ?_ | with_reducible refine CondG.ff ?_); conv => whnf)
  refine LoadNG.atG (vs := bvs ((bs.drop 8).take 20)) (by simp [bvs, h81]) hc2 ?_
  (conv => whnf); repeat ((first | with_reducible refine CondG.tt ?_ | with_reducible refine CondG.ff ?_); conv => whnf)
  have hl2 : ((bs.drop 8).take 20).length = 20 := by simp [h81]
  refine StoreG.at (by rw [bvs_len, hl2]) (Upd.tl (Upd.hereN (by rw [bvs_len, hl2, TicketD.cells_len ⟨rfl, rfl, rfl⟩]; decide) (bvs_one _) (TicketD.set_snd (t := TicketD.mk n (numF (bs.take 8)) (List.replicate 20 0) 0 (List.replicate 20 0) (List.replicate 4 0)) ⟨rfl, rfl, rfl⟩ hl2))) ?_
  (conv => whnf); repeat ((first | with_reducible refine CondG.tt ?_ | with_reducible refine CondG.ff ?_); conv => whnf)
  -- the token
  refine SideG.of (by kernel_rfl) ?_
  refine CallG.of (pre := [cel b3 79 [v2]]) (rest := [cel b7 96 _, cel b4 96 zeroT'.cells]) (cut_spec _ F b3 1 53 _ (List.drop 20 (bs.drop 8)) (by decide) (by simp [h81]) hv2 (by decide)) (Ent.refl _) ?_
  rintro r3 _ ⟨hr3, v3, hv3, rfl⟩
  (conv => whnf); repeat ((first | with_reducible refine CondG.tt ?_ | with_reducible refine CondG.ff ?_); conv => whnf)
  refine CallG.pure (number_spec_t _ r3 ((List.drop 20 (bs.drop 8)).take 1) (by simp; omega) (by rw [List.length_take, List.length_drop, List.length_drop, h81]; exact hr3.right _)) ?_
  rintro _ _ ⟨rfl, rfl⟩
  (conv => whnf); repeat ((first | with_reducible refine CondG.tt ?_ | with_reducible refine CondG.ff ?_); conv => whnf)
  have w1 : (TicketD.mk n (numF (bs.take 8)) ((bs.drop 8).take 20) 0 (List.replicate 20 0) (List.replicate 4 0)).wf := ⟨hl2, rfl, rfl⟩
  refine StoreG.at rfl (Upd.tl (Upd.here (by rw [TicketD.cells_len w1]; decide) rfl)) ?_
  rw [show 0 + 22 = 22 from rfl, TicketD.set_tok w1]
  (conv => whnf); repeat ((first | with_reducible refine CondG.tt ?_ | with_reducible refine CondG.ff ?_); conv => whnf)
  -- to whom
  refine SideG.of (by kernel_rfl) ?_
  refine CallG.of (pre := [cel b3 79 [v3]]) (rest := [cel b7 96 _, cel b4 96 zeroT'.cells]) (cut_spec _ F b3 20 52 _ (List.drop 1 (List.drop 20 (bs.drop 8))) (by decide) (by simp [h81]) hv3 (by decide)) (Ent.refl _) ?_
  rintro r4 _ ⟨hr4, v4, hv4, rfl⟩
  (conv => whnf); repeat ((first | with_reducible refine CondG.tt ?_ | with_reducible refine CondG.ff ?_); conv => whnf)
  refine DoesG.arr (e := 5) (len := 20) (by kernel_rfl) (hr4.right _) (by decide) (by decide) fun c4 o4 hc4 => ?_
  (conv => whnf); repeat ((first | with_reducible refine CondG.tt ?_ | with_reducible refine CondG.ff ?_); conv => whnf)
  have hl4 : ((List.drop 1 (List.drop 20 (bs.drop 8))).take 20).length = 20 := by simp [h81]
  refine LoadNG.atG (vs := bvs ((List.drop 1 (List.drop 20 (bs.drop 8))).take 20)) (by rw [bvs_len, hl4]) hc4 ?_
  (conv => whnf); repeat ((first | with_reducible refine CondG.tt ?_ | with_reducible refine CondG.ff ?_); conv => whnf)
  have w2 : (TicketD.mk n (numF (bs.take 8)) ((bs.drop 8).take 20) (numF ((List.drop 20 (bs.drop 8)).take 1)) (List.replicate 20 0) (List.replicate 4 0)).wf := ⟨hl2, rfl, rfl⟩
  refine StoreG.at (by rw [bvs_len, hl4]) (Upd.tl (Upd.hereN (by rw [bvs_len, hl4, TicketD.cells_len w2]; decide) (bvs_one _) (TicketD.set_to w2 hl4))) ?_
  (conv => whnf); repeat ((first | with_reducible refine CondG.tt ?_ | with_reducible refine CondG.ff ?_); conv => whnf)
  -- the amount
  refine SideG.of (by kernel_rfl) ?_
  refine CallG.of (pre := [cel b3 79 [v4]]) (rest := [cel b7 96 _, cel b4 96 zeroT'.cells]) (cut_spec _ F b3 32 32 _ (List.drop 20 (List.drop 1 (List.drop 20 (bs.drop 8)))) (by decide) (by simp [h81]) hv4 (by decide)) (Ent.refl _) ?_
  rintro r5 _ ⟨hr5, v5, hv5, rfl⟩
  (conv => whnf); repeat ((first | with_reducible refine CondG.tt ?_ | with_reducible refine CondG.ff ?_); conv => whnf)
  have hl5 : ((List.drop 20 (List.drop 1 (List.drop 20 (bs.drop 8)))).take 32).length = 32 := by simp [h81]
  refine CallG.pure (wread_spec _ r5 _ hl5 (hr5.right _)) ?_
  rintro _ _ ⟨rfl, rfl⟩
  rw [ivs_words]
  (conv => whnf); repeat ((first | with_reducible refine CondG.tt ?_ | with_reducible refine CondG.ff ?_); conv => whnf)
  intro b8
  (conv => whnf); repeat ((first | with_reducible refine CondG.tt ?_ | with_reducible refine CondG.ff ?_); conv => whnf)
  refine StoreG.at (by rw [uvs_len, wordsN_len]) (Upd.whole (by rw [uvs_len, wordsN_len]; rfl) (uvs_one _)) ?_
  (conv => whnf); repeat ((first | with_reducible refine CondG.tt ?_ | with_reducible refine CondG.ff ?_); conv => whnf)
  refine LoadNG.at (vs := uvs (wordsN ((List.drop 20 (List.drop 1 (List.drop 20 (bs.drop 8)))).take 32))) (by rw [uvs_len, wordsN_len]) .all ?_
  (conv => whnf); repeat ((first | with_reducible refine CondG.tt ?_ | with_reducible refine CondG.ff ?_); conv => whnf)
  have w3 : (TicketD.mk n (numF (bs.take 8)) ((bs.drop 8).take 20) (numF ((List.drop 20 (bs.drop 8)).take 1)) ((List.drop 1 (List.drop 20 (bs.drop 8))).take 20) (List.replicate 4 0)).wf := ⟨hl2, hl4, rfl⟩
  refine StoreG.at (by rw [uvs_len, wordsN_len]) (Upd.tl (Upd.tl (Upd.hereN (by rw [uvs_len, wordsN_len, TicketD.cells_len w3]; decide) (uvs_one _) (TicketD.set_amt w3 (wordsN_len _))))) ?_
  have et : (TicketD.mk n (numF (bs.take 8)) ((bs.drop 8).take 20) (numF ((List.drop 20 (bs.drop 8)).take 1)) ((List.drop 1 (List.drop 20 (bs.drop 8))).take 20) (wordsN ((List.drop 20 (List.drop 1 (List.drop 20 (bs.drop 8)))).take 32))) = tkOf n bs := by simp [tkOf, List.drop_drop]
  rw [et]
  have wt := tkOf_wf (n := n) h81
  (conv => whnf); repeat ((first | with_reducible refine CondG.tt ?_ | with_reducible refine CondG.ff ?_); conv => whnf)
  refine DrawG.mk 9 [cel b8 30 (uvs (wordsN ((List.drop 20 (List.drop 1 (List.drop 20 (bs.drop 8)))).take 32))), cel b3 79 [v5], cel b7 96 (tkOf n bs).cells] [cel b4 96 zeroT'.cells] (Ent.perm (List.perm_append_comm (l₁ := [_, _, _]) (l₂ := [cel b4 96 zeroT'.cells]))) ?_
  (conv => whnf); repeat ((first | with_reducible refine CondG.tt ?_ | with_reducible refine CondG.ff ?_); conv => whnf)
  refine .take 0 ?_
  (conv => whnf); repeat ((first | with_reducible refine CondG.tt ?_ | with_reducible refine CondG.ff ?_); conv => whnf)
  refine ⟨rfl, ?_⟩
  (conv => whnf); repeat ((first | with_reducible refine CondG.tt ?_ | with_reducible refine CondG.ff ?_); conv => whnf)
  refine LoadNG.at (vs := (tkOf n bs).cells) (TicketD.cells_len wt) (.tl (.tl .all)) ?_
  (conv => whnf); repeat ((first | with_reducible refine CondG.tt ?_ | with_reducible refine CondG.ff ?_); conv => whnf)
  refine .take 1 ?_
  (conv => whnf); repeat ((first | with_reducible refine CondG.tt ?_ | with_reducible refine CondG.ff ?_); conv => whnf)
  refine ⟨rfl, ?_⟩
  (conv => whnf); repeat ((first | with_reducible refine CondG.tt ?_ | with_reducible refine CondG.ff ?_); conv => whnf)
  refine .take 2 ?_
  (conv => whnf); repeat ((first | with_reducible refine CondG.tt ?_ | with_reducible refine CondG.ff ?_); conv => whnf)
  refine ⟨rfl, ?_⟩
  (conv => whnf); repeat ((first | with_reducible refine CondG.tt ?_ | with_reducible refine CondG.ff ?_); conv => whnf)
  refine .take 3 ?_
  (conv => whnf); repeat ((first | with_reducible refine CondG.tt ?_ | with_reducible refine CondG.ff ?_); conv => whnf)
  refine ⟨rfl, ?_⟩
  (conv => whnf); repeat ((first | with_reducible refine CondG.tt ?_ | with_reducible refine CondG.ff ?_); conv => whnf)
  refine .take 4 ?_
  (conv => whnf); repeat ((first | with_reducible refine CondG.tt ?_ | with_reducible refine CondG.ff ?_); conv => whnf)
  refine ⟨rfl, ?_⟩
  (conv => whnf); repeat ((first | with_reducible refine CondG.tt ?_ | with_reducible refine CondG.ff ?_); conv => whnf)
  refine CondG.tt ?_
  (conv => whnf); repeat ((first | with_reducible refine CondG.tt ?_ | with_reducible refine CondG.ff ?_); conv => whnf)
  refine LoadNG.at (vs := (tkOf n bs).cells) (TicketD.cells_len wt) (.tl (.tl .all)) ?_
  (conv => whnf); repeat ((first | with_reducible refine CondG.tt ?_ | with_reducible refine CondG.ff ?_); conv => whnf)
  refine .all ?_
  (conv => whnf); repeat ((first | with_reducible refine CondG.tt ?_ | with_reducible refine CondG.ff ?_); conv => whnf)
  refine ⟨by decide, ?_⟩
  (conv => whnf); repeat ((first | with_reducible refine CondG.tt ?_ | with_reducible refine CondG.ff ?_); conv => whnf)
  refine CallG.pure (tmay_spec _ _ wt) ?_
  rintro _ _ ⟨rfl, rfl⟩
  (conv => whnf); repeat ((first | with_reducible refine CondG.tt ?_ | with_reducible refine CondG.ff ?_); conv => whnf)
  refine .take 6 ?_
  (conv => whnf); repeat ((first | with_reducible refine CondG.tt ?_ | with_reducible refine CondG.ff ?_); conv => whnf)
  refine ⟨rfl, ?_⟩
  (conv => whnf); repeat ((first | with_reducible refine CondG.tt ?_ | with_reducible refine CondG.ff ?_); conv => whnf)
  refine .all ?_
  (conv => whnf); repeat ((first | with_reducible refine CondG.tt ?_ | with_reducible refine CondG.ff ?_); conv => whnf)
  refine ⟨by decide, ?_⟩
  (conv => whnf); repeat ((first | with_reducible refine CondG.tt ?_ | with_reducible refine CondG.ff ?_); conv => whnf)
  refine StoreG.at (TicketD.cells_len wt) (Upd.whole (by rw [TicketD.cells_len wt]; rfl) (TicketD.cells_one _)) ?_
  (conv => whnf); repeat ((first | with_reducible refine CondG.tt ?_ | with_reducible refine CondG.ff ?_); conv => whnf)
  refine .take 8 ?_
  (conv => whnf); repeat ((first | with_reducible refine CondG.tt ?_ | with_reducible refine CondG.ff ?_); conv => whnf)
  refine ⟨rfl, ?_⟩
  (conv => whnf); repeat ((first | with_reducible refine CondG.tt ?_ | with_reducible refine CondG.ff ?_); conv => whnf)
  refine ⟨rfl, ?_⟩
  (conv => whnf); repeat ((first | with_reducible refine CondG.tt ?_ | with_reducible refine CondG.ff ?_); conv => whnf)
  refine LoadNG.at (vs := (tkOf n bs).cells) (TicketD.cells_len wt) .all ?_
  (conv => whnf); repeat ((first | with_reducible refine CondG.tt ?_ | with_reducible refine CondG.ff ?_); conv => whnf)
  exact ⟨[], Ent.nil _, rfl, .inr ⟨h81, rfl⟩⟩
end Go.Proofs.YthdpknlnpeaiiaaDoor
