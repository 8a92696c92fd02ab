import Derived.Test.YtjacolfhlfogkabGreatDoorGp
import Derived.Test.YtjacolfhlfogkabGreatDoorMz
import Derived.Test.YtjacolfhlfogkabGreatDoorZTq
namespace Go.Proofs.YtjacolfhlfogkabGreatDoor
open Go Go.Sl
theorem ticketOf_spec (F : List HP) (n : Int) (v : Value) (bs : List Nat) (hb : bs.length ≤ 1152921504606846976) (hv : RdS F v bs.length (bvs bs)) : SpecF Tryz.prog 82 [.int .i64 n, v] F [] (fun r L => L = [] ∧
 ((bs.length ≠ 81 ∧ r = .tuple #[.agg ⟨zeroT'.cells⟩, .bool false]) ∨ (bs.length = 81 ∧ r = .tuple #[.agg ⟨(tkOf n bs).cells⟩, .bool (decide (tkOf n bs).may)]))) := by
 obtain ⟨va, vc, hve⟩ := hv.len
 subst hve
 refine fun82.spec rfl ?_
 conv=>whnf
 intro b3
 conv=>whnf
 intro b4
 conv=>whnf
 refine LoadG.at (.tl (.here rfl)) ?_
 conv=>whnf
 refine LenG.lit ?_
 conv=>whnf
 refine CondG.ndec (fun h1 => ?_) (fun h1 => ?_)
 ·conv=>whnf
  refine BuildG.of rfl ?_
  conv=>whnf
  refine StoreG.at rfl (Upd.whole rfl (TicketD.cells_one zeroT')) ?_
  conv=>whnf
  refine LoadNG.at (vs := zeroT'.cells) rfl .all ?_
  conv=>whnf
  exact ⟨[], Ent.nil _, rfl, .inl ⟨by omega, rfl⟩⟩
 have h81 : bs.length = 81 := by omega
 rw [h81] at hv
 conv=>whnf
 refine SideG.of (by kernel_rfl) ?_
 refine CallG.of (pre := [cel b3 97 [.slice va bs.length vc]]) (rest := [cel b4 40 zeroT'.cells]) (cut_spec _ F b3 8 81 _ bs (by decide) h81 (by rw [h81]; exact hv) (by decide)) (Ent.perm (List.Perm.swap _ _ _)) ?_
 rintro r1 _ ⟨hr1, v1, hv1, rfl⟩
 conv=>whnf
 refine CallG.pure (number_spec_t _ r1 (bs.take 8) (by simp; omega) (by rw [List.length_take, h81]; exact hr1.right _)) ?_
 rintro _ _ ⟨rfl, rfl⟩
 conv=>whnf
 refine BuildG.of (cs := (TicketD.mk n (numF (bs.take 8)) (List.replicate 20 0) 0 (List.replicate 20 0) (List.replicate 4 0)).cells) rfl ?_
 conv=>whnf
 intro b7
 conv=>whnf
 refine StoreG.at rfl (Upd.whole rfl (TicketD.cells_one _)) ?_
 conv=>whnf
 -- the sender
 refine SideG.of (by kernel_rfl) ?_
 refine CallG.of (pre := [cel b3 97 [v1]]) (rest := [cel b7 40 _, cel b4 40 zeroT'.cells]) (cut_spec _ F b3 20 73 _ (bs.drop 8) (by decide) (by simp [h81]) hv1 (by decide)) (Ent.perm (List.Perm.swap _ _ _)) ?_
 rintro r2 _ ⟨hr2, v2, hv2, rfl⟩
 conv=>whnf
 refine DoesG.arr (e := 5) (len := 20) (by kernel_rfl) (hr2.right _) (by decide) (by decide) fun c2 o2 hc2 => ?_
 conv=>whnf
 refine LoadNG.atG (vs := bvs ((bs.drop 8).take 20)) (by simp [bvs, h81]) hc2 ?_
 conv=>whnf
 have hl2 : ((bs.drop 8).take 20).length = 20 := by simp [h81]
 refine StoreG.at (by rw [bvs_len, hl2]) (Upd.tl (Upd.hereN (by rw [bvs_len, hl2, TicketD.cells_len ⟨rfl, rfl, rfl⟩]; decide) (bvs_one _) (TicketD.set_snd (t := TicketD.mk n (numF (bs.take 8)) (List.replicate 20 0) 0 (List.replicate 20 0) (List.replicate 4 0)) ⟨rfl, rfl, rfl⟩ hl2))) ?_
 conv=>whnf
 -- the token
 refine SideG.of (by kernel_rfl) ?_
 refine CallG.of (pre := [cel b3 97 [v2]]) (rest := [cel b7 40 _, cel b4 40 zeroT'.cells]) (cut_spec _ F b3 1 53 _ (List.drop 20 (bs.drop 8)) (by decide) (by simp [h81]) hv2 (by decide)) (Ent.refl _) ?_
 rintro r3 _ ⟨hr3, v3, hv3, rfl⟩
 conv=>whnf
 refine CallG.pure (number_spec_t _ r3 ((List.drop 20 (bs.drop 8)).take 1) (by simp; omega) (by rw [List.length_take, List.length_drop, List.length_drop, h81]; exact hr3.right _)) ?_
 rintro _ _ ⟨rfl, rfl⟩
 conv=>whnf
 have w1 : (TicketD.mk n (numF (bs.take 8)) ((bs.drop 8).take 20) 0 (List.replicate 20 0) (List.replicate 4 0)).wf := ⟨hl2, rfl, rfl⟩
 refine StoreG.at rfl (Upd.tl (Upd.here (by rw [TicketD.cells_len w1]; decide) rfl)) ?_
 rw [show 0 + 22 = 22 from rfl, TicketD.set_tok w1]
 conv=>whnf
 -- to whom
 refine SideG.of (by kernel_rfl) ?_
 refine CallG.of (pre := [cel b3 97 [v3]]) (rest := [cel b7 40 _, cel b4 40 zeroT'.cells]) (cut_spec _ F b3 20 52 _ (List.drop 1 (List.drop 20 (bs.drop 8))) (by decide) (by simp [h81]) hv3 (by decide)) (Ent.refl _) ?_
 rintro r4 _ ⟨hr4, v4, hv4, rfl⟩
 conv=>whnf
 refine DoesG.arr (e := 5) (len := 20) (by kernel_rfl) (hr4.right _) (by decide) (by decide) fun c4 o4 hc4 => ?_
 conv=>whnf
 have hl4 : ((List.drop 1 (List.drop 20 (bs.drop 8))).take 20).length = 20 := by simp [h81]
 refine LoadNG.atG (vs := bvs ((List.drop 1 (List.drop 20 (bs.drop 8))).take 20)) (by rw [bvs_len, hl4]) hc4 ?_
 conv=>whnf
 have w2 : (TicketD.mk n (numF (bs.take 8)) ((bs.drop 8).take 20) (numF ((List.drop 20 (bs.drop 8)).take 1)) (List.replicate 20 0) (List.replicate 4 0)).wf := ⟨hl2, rfl, rfl⟩
 refine StoreG.at (by rw [bvs_len, hl4]) (Upd.tl (Upd.hereN (by rw [bvs_len, hl4, TicketD.cells_len w2]; decide) (bvs_one _) (TicketD.set_to w2 hl4))) ?_
 conv=>whnf
 -- the amount
 refine SideG.of (by kernel_rfl) ?_
 refine CallG.of (pre := [cel b3 97 [v4]]) (rest := [cel b7 40 _, cel b4 40 zeroT'.cells]) (cut_spec _ F b3 32 32 _ (List.drop 20 (List.drop 1 (List.drop 20 (bs.drop 8)))) (by decide) (by simp [h81]) hv4 (by decide)) (Ent.refl _) ?_
 rintro r5 _ ⟨hr5, v5, hv5, rfl⟩
 conv=>whnf
 have hl5 : ((List.drop 20 (List.drop 1 (List.drop 20 (bs.drop 8)))).take 32).length = 32 := by simp [h81]
 refine CallG.pure (wread_spec _ r5 _ hl5 (hr5.right _)) ?_
 rintro _ _ ⟨rfl, rfl⟩
 rw [ivs_words]
 conv=>whnf
 intro b8
 conv=>whnf
 refine StoreG.at (by rw [uvs_len, wordsN_len]) (Upd.whole (by rw [uvs_len, wordsN_len]; rfl) (uvs_one _)) ?_
 conv=>whnf
 refine LoadNG.at (vs := uvs (wordsN ((List.drop 20 (List.drop 1 (List.drop 20 (bs.drop 8)))).take 32))) (by rw [uvs_len, wordsN_len]) .all ?_
 conv=>whnf
 have w3 : (TicketD.mk n (numF (bs.take 8)) ((bs.drop 8).take 20) (numF ((List.drop 20 (bs.drop 8)).take 1)) ((List.drop 1 (List.drop 20 (bs.drop 8))).take 20) (List.replicate 4 0)).wf := ⟨hl2, hl4, rfl⟩
 refine StoreG.at (by rw [uvs_len, wordsN_len]) (Upd.tl (Upd.tl (Upd.hereN (by rw [uvs_len, wordsN_len, TicketD.cells_len w3]; decide) (uvs_one _) (TicketD.set_amt w3 (wordsN_len _))))) ?_
 have et : (TicketD.mk n (numF (bs.take 8)) ((bs.drop 8).take 20) (numF ((List.drop 20 (bs.drop 8)).take 1)) ((List.drop 1 (List.drop 20 (bs.drop 8))).take 20) (wordsN ((List.drop 20 (List.drop 1 (List.drop 20 (bs.drop 8)))).take 32))) = tkOf n bs := by simp [tkOf, List.drop_drop]
 rw [et]
 have wt := tkOf_wf (n := n) h81
 conv=>whnf
 refine DrawG.mk 9 [cel b8 38 (uvs (wordsN ((List.drop 20 (List.drop 1 (List.drop 20 (bs.drop 8)))).take 32))), cel b3 97 [v5], cel b7 40 (tkOf n bs).cells] [cel b4 40 zeroT'.cells] (Ent.perm (List.perm_append_comm (l₁ := [_, _, _]) (l₂ := [cel b4 40 zeroT'.cells]))) ?_
 conv=>whnf
 refine .take 0 ?_
 conv=>whnf
 refine ⟨rfl, ?_⟩
 conv=>whnf
 refine LoadNG.at (vs := (tkOf n bs).cells) (TicketD.cells_len wt) (.tl (.tl .all)) ?_
 conv=>whnf
 refine .take 1 ?_
 conv=>whnf
 refine ⟨rfl, ?_⟩
 conv=>whnf
 refine .take 2 ?_
 conv=>whnf
 refine ⟨rfl, ?_⟩
 conv=>whnf
 refine .take 3 ?_
 conv=>whnf
 refine ⟨rfl, ?_⟩
 conv=>whnf
 refine .take 4 ?_
 conv=>whnf
 refine ⟨rfl, ?_⟩
 conv=>whnf
 refine CondG.tt ?_
 conv=>whnf
 refine LoadNG.at (vs := (tkOf n bs).cells) (TicketD.cells_len wt) (.tl (.tl .all)) ?_
 conv=>whnf
 refine .all ?_
 conv=>whnf
 refine ⟨by decide, ?_⟩
 (conv=>whnf);refine .tt ?_;(conv=>whnf)
 refine CallG.pure (tmay_spec _ _ wt) ?_
 rintro _ _ ⟨rfl, rfl⟩
 conv=>whnf
 refine .take 6 ?_
 conv=>whnf
 refine ⟨rfl, ?_⟩
 (conv=>whnf);refine .tt ?_;(conv=>whnf)
 refine .all ?_
 conv=>whnf
 refine ⟨by decide, ?_⟩
 conv=>whnf
 refine StoreG.at (TicketD.cells_len wt) (Upd.whole (by rw [TicketD.cells_len wt]; rfl) (TicketD.cells_one _)) ?_
 conv=>whnf
 refine .take 8 ?_
 conv=>whnf
 refine ⟨rfl, ?_⟩
 conv=>whnf
 refine ⟨rfl, ?_⟩
 conv=>whnf
 refine LoadNG.at (vs := (tkOf n bs).cells) (TicketD.cells_len wt) .all ?_
 conv=>whnf
 exact ⟨[], Ent.nil _, rfl, .inr ⟨h81, rfl⟩⟩
end Go.Proofs.YtjacolfhlfogkabGreatDoor
namespace Go.Proofs.YtjacolfhlfogkabGreatDoor
open Go Go.Sl
section
variable {find : SrcF}
theorem made_q (F : List HP) (s : Nat) (src : Value) (R : RSt) (hs : SrcG Tryz.prog F src find) :
 SpecF Tryz.prog 31 [.pointer (some ⟨s, 0, none⟩)] F [stR 75 s src R] (fun r L => r = .tuple #[.int .i64 (madeQ find R).1.1, .int .i64 (madeQ find R).1.2] ∧ L = [stR 75 s src (madeQ find R).2]) := by
 refine fun31.spec rfl ?_
 (conv=>whnf);refine .ff ?_;(conv=>whnf)
 refine CallG.of (pre := [stR 75 s src R]) (rest := []) (get_p _ s src R ntK (hs.left [])) (Ent.refl _) ?_
 rintro _ _ ⟨x, hx, rfl, rfl⟩
 obtain ⟨g, hg⟩ : ∃ g, g = gtQ find R ntK := ⟨_, rfl⟩
 have ha : madeQ find R = madeOf g := by rw [hg]; rfl
 have hgv : g.1.1 = [] ∨ g.1.1 = g.2.val ntK := by rw [hg]; exact gtQ_val find R ntK
 rw [ha]
 rw [← hg] at hx ⊢
 conv=>whnf
 refine CondG.ndec (fun he => ?_) (fun he => ?_)
 ·(conv=>whnf);refine .tt ?_;(conv=>whnf);refine .tt ?_;(conv=>whnf);refine .tt ?_;(conv=>whnf);refine .tt ?_;(conv=>whnf)
  refine ⟨_, Ent.sel (T := []) (A := [_, _]) [1] rfl, ?_, rfl⟩
  unfold madeOf
  rw [if_pos he]
  rfl
 have hao : madeOf g = (madeR g.1.1, g.2) := by unfold madeOf; rw [if_neg (fun h => h he)]
 rw [hao]
 (conv=>whnf);refine .ff ?_;(conv=>whnf)
 refine LenG.sl hx ?_
 (conv=>whnf);refine .ff ?_;(conv=>whnf);refine .ff ?_;(conv=>whnf)
 refine CondG.dec (fun h1 => ?_) (fun h1 => ?_)
 ·have e : g.1.1 = [] := List.eq_nil_of_length_eq_zero (by omega)
  conv=>whnf
  refine ⟨_, Ent.sel (T := []) (A := [_, _]) [1] rfl, ?_, rfl⟩
  rw [e, he]
  rfl
 conv=>whnf
 have hne : g.1.1 ≠ [] := fun e => h1 (by rw [e]; rfl)
 have hrd : RdS ([own 1 x g.1.1.length (bvs g.1.1), stR 75 s src g.2] ++ []) x g.1.1.length (bvs g.1.1) := .left (own_rd hx (by rw [bvs_len, Nat.mul_one])) _
 refine CallG.pure (SpecF.fact _ (Gives.cons _ (st_len hgv)) fun hgl => number_spec_t _ x g.1.1 (by omega) (hrd.left F)) ?_
 rintro _ _ ⟨rfl, rfl⟩
 conv=>whnf
 refine LenG.sl hx ?_
 conv=>whnf
 refine CondG.ndec (fun h2 => ?_) (fun h2 => ?_)
 ·(conv=>whnf);refine .tt ?_;(conv=>whnf);refine .tt ?_;(conv=>whnf);refine .tt ?_;(conv=>whnf);refine .tt ?_;(conv=>whnf);refine .tt ?_;(conv=>whnf);refine .tt ?_;(conv=>whnf)
  refine ⟨_, Ent.sel (T := []) (A := [_, _]) [1] rfl, ?_, rfl⟩
  unfold madeR
  rw [if_neg hne, if_pos (.inl (by omega))]
  rfl
 (conv=>whnf);refine .ff ?_;(conv=>whnf);refine .ff ?_;(conv=>whnf)
 refine CondG.dec (fun h3 => ?_) (fun h3 => ?_)
 ·(conv=>whnf);refine .tt ?_;(conv=>whnf);refine .tt ?_;(conv=>whnf);refine .tt ?_;(conv=>whnf)
  refine ⟨_, Ent.sel (T := []) (A := [_, _]) [1] rfl, ?_, rfl⟩
  unfold madeR
  rw [if_neg hne, if_pos (.inr (.inl h3))]
  rfl
 (conv=>whnf);refine .ff ?_;(conv=>whnf);refine .ff ?_;(conv=>whnf)
 refine CondG.dec (fun h4 => ?_) (fun h4 => ?_)
 ·conv=>whnf
  refine ⟨_, Ent.sel (T := []) (A := [_, _]) [1] rfl, ?_, rfl⟩
  unfold madeR
  rw [if_neg hne, if_pos (.inr (.inr h4))]
  rfl
 conv=>whnf
 refine ⟨_, Ent.sel (T := []) (A := [_, _]) [1] rfl, ?_, rfl⟩
 unfold madeR
 rw [if_neg hne, if_neg (by omega)]
 rfl
theorem tfind_q (F : List HP) (s : Nat) (src : Value) (R : RSt) (n : Int) (hs : SrcG Tryz.prog F src find) :
 SpecF Tryz.prog 29 [.pointer (some ⟨s, 0, none⟩), .int .i64 n] F [stR 75 s src R] (fun r L => r = .tuple #[.agg ⟨(tfindQ find R n).1.1.cells⟩, .int .i64 (tfindQ find R n).1.2] ∧ L = [stR 75 s src (tfindQ find R n).2]) := by
 refine fun29.spec rfl ?_
 conv=>whnf
 intro b4
 (conv=>whnf);refine .ff ?_;(conv=>whnf)
 refine CondG.dec (fun h1 => ?_) (fun h1 => ?_)
 ·(conv=>whnf);refine .tt ?_;(conv=>whnf);refine .tt ?_;(conv=>whnf);refine .tt ?_;(conv=>whnf)
  refine BuildG.of rfl ?_
  conv=>whnf
  refine StoreG.at rfl (Upd.whole rfl (TicketD.cells_one zeroT')) ?_
  conv=>whnf
  refine LoadNG.at (vs := zeroT'.cells) rfl .all ?_
  conv=>whnf
  rw [tfindQ, if_pos (.inl h1)]
  exact ⟨_, Ent.drop _, rfl, rfl⟩
 (conv=>whnf);refine .ff ?_;(conv=>whnf);refine .ff ?_;(conv=>whnf)
 refine CondG.dec (fun h2 => ?_) (fun h2 => ?_)
 ·conv=>whnf
  refine BuildG.of rfl ?_
  conv=>whnf
  refine StoreG.at rfl (Upd.whole rfl (TicketD.cells_one zeroT')) ?_
  conv=>whnf
  refine LoadNG.at (vs := zeroT'.cells) rfl .all ?_
  conv=>whnf
  rw [tfindQ, if_pos (.inr h2)]
  exact ⟨_, Ent.drop _, rfl, rfl⟩
 obtain ⟨m, rfl⟩ : ∃ m : Nat, n = m := ⟨n.toNat, (Int.toNat_of_nonneg (by omega)).symm⟩
 conv=>whnf
 refine CallG.pure (key_spec _ m (by omega)) ?_
 rintro _ _ ⟨rfl, rfl⟩
 conv=>whnf
 refine CallG.of (pre := [stR 75 s src R]) (rest := [cel b4 40 zeroT'.cells]) (get_p _ s src R (tkey m) (hs.left _)) (Ent.perm (List.Perm.swap _ _ _)) ?_
 rintro _ _ ⟨x, hx, rfl, rfl⟩
 obtain ⟨g, hg⟩ : ∃ g, g = gtQ find R (tkey m) := ⟨_, rfl⟩
 have ha : tfindQ find R m = findOf m g := by rw [tfindQ, if_neg (by omega), Int.toNat_natCast, hg]
 have hgv : g.1.1 = [] ∨ g.1.1 = g.2.val (tkey m) := by rw [hg]; exact gtQ_val find R (tkey m)
 rw [ha]
 rw [← hg] at hx ⊢
 conv=>whnf
 refine CondG.ndec (fun he => ?_) (fun he => ?_)
 ·conv=>whnf
  refine BuildG.of rfl ?_
  conv=>whnf
  refine StoreG.at rfl (Upd.tl (Upd.tl (Upd.whole rfl (TicketD.cells_one zeroT')))) ?_
  conv=>whnf
  refine LoadNG.at (vs := zeroT'.cells) rfl (.tl (.tl .all)) ?_
  conv=>whnf
  refine ⟨_, Ent.sel (T := []) (A := [_, _, _]) [1] rfl, ?_⟩
  unfold findOf
  rw [if_pos he]
  exact ⟨rfl, rfl⟩
 have hao : findOf m g = (findR m g.1.1, g.2) := by unfold findOf; rw [if_neg (fun h => h he)]
 rw [hao]
 conv=>whnf
 refine LenG.sl hx ?_
 conv=>whnf
 refine CondG.dec (fun h3 => ?_) (fun h3 => ?_)
 ·have e : g.1.1 = [] := List.eq_nil_of_length_eq_zero (by omega)
  conv=>whnf
  refine BuildG.of rfl ?_
  conv=>whnf
  refine StoreG.at rfl (Upd.tl (Upd.tl (Upd.whole rfl (TicketD.cells_one zeroT')))) ?_
  conv=>whnf
  refine LoadNG.at (vs := zeroT'.cells) rfl (.tl (.tl .all)) ?_
  conv=>whnf
  refine ⟨_, Ent.sel (T := []) (A := [_, _, _]) [1] rfl, ?_, rfl⟩
  rw [e]
  rfl
 have hne : g.1.1 ≠ [] := fun e => h3 (by rw [e]; rfl)
 conv=>whnf
 refine CallG.pure (SpecF.fact _ (Gives.cons _ (st_len hgv)) fun hgl => ticketOf_spec _ m x g.1.1 (by omega) (.left (.left (own_rd hx (by rw [bvs_len, Nat.mul_one])) _) F)) ?_
 rintro _ _ ⟨rfl, (⟨h81, rfl⟩ | ⟨h81, rfl⟩)⟩
 ·have e : findR m g.1.1 = (zeroT', 75) := by unfold findR; rw [if_neg hne, if_neg (fun h => h81 h.1)]
  conv=>whnf
  intro b8
  conv=>whnf
  refine StoreG.at rfl (Upd.whole rfl (TicketD.cells_one zeroT')) ?_
  (conv=>whnf);refine .ntt ?_;(conv=>whnf)
  refine BuildG.of rfl ?_
  conv=>whnf
  refine StoreG.at rfl (Upd.tl (Upd.tl (Upd.tl (Upd.whole rfl (TicketD.cells_one zeroT'))))) ?_
  conv=>whnf
  refine LoadNG.at (vs := zeroT'.cells) rfl (.tl (.tl (.tl .all))) ?_
  conv=>whnf
  refine ⟨_, Ent.sel (T := []) (A := [_, _, _, _]) [2] rfl, ?_, rfl⟩
  rw [e]
  rfl
 have wt := tkOf_wf (n := m) h81
 conv=>whnf
 intro b8
 conv=>whnf
 refine StoreG.at (TicketD.cells_len wt) (Upd.whole (by rw [TicketD.cells_len wt]; rfl) (TicketD.cells_one _)) ?_
 conv=>whnf
 refine CondG.ndec (fun h4 => ?_) (fun h4 => ?_)
 ·have e : findR m g.1.1 = (zeroT', 75) := by unfold findR; rw [if_neg hne, if_neg (fun h => h4 h.2)]
  conv=>whnf
  refine BuildG.of rfl ?_
  conv=>whnf
  refine StoreG.at rfl (Upd.tl (Upd.tl (Upd.tl (Upd.whole rfl (TicketD.cells_one zeroT'))))) ?_
  conv=>whnf
  refine LoadNG.at (vs := zeroT'.cells) rfl (.tl (.tl (.tl .all))) ?_
  conv=>whnf
  refine ⟨_, Ent.sel (T := []) (A := [_, _, _, _]) [2] rfl, ?_, rfl⟩
  rw [e]
  rfl
 have e : findR m g.1.1 = (tkOf m g.1.1, 0) := by unfold findR; rw [if_neg hne, if_pos ⟨h81, h4⟩]
 conv=>whnf
 refine LoadNG.at (vs := (tkOf m g.1.1).cells) (TicketD.cells_len wt) .all ?_
 conv=>whnf
 refine StoreG.at (TicketD.cells_len wt) (Upd.tl (Upd.tl (Upd.tl (Upd.whole (by rw [TicketD.cells_len wt]; rfl) (TicketD.cells_one _))))) ?_
 conv=>whnf
 refine LoadNG.at (vs := (tkOf m g.1.1).cells) (TicketD.cells_len wt) (.tl (.tl (.tl .all))) ?_
 conv=>whnf
 refine ⟨_, Ent.sel (T := []) (A := [_, _, _, _]) [2] rfl, ?_, rfl⟩
 rw [e]
 rfl
theorem open_q (F : List HP) (s : Nat) (src : Value) (R : RSt) (t : TicketD) (ht : t.wf) (hs : SrcG Tryz.prog F src find) (hst : R.steps.length + 1 ≤ 4398046511104) :
 SpecF Tryz.prog 28 [.pointer (some ⟨s, 0, none⟩), .agg ⟨t.cells⟩] F [stR 75 s src R] (fun r L => r = .tuple #[.int .i64 (openQ find R t).1.1, .int .i64 (openQ find R t).1.2] ∧ L = [stR 75 s src (openQ find R t).2]) := by
 refine fun28.spec rfl ?_
 conv=>whnf
 intro b3
 (conv=>whnf);refine .ff ?_;(conv=>whnf)
 refine LoadG.at (v := .int .i64 t.num) (.here rfl) ?_
 conv=>whnf
 refine CondG.ndec (fun h1 => ?_) (fun h1 => ?_)
 ·(conv=>whnf);refine .tt ?_;(conv=>whnf);refine .tt ?_;(conv=>whnf);refine .tt ?_;(conv=>whnf);refine .tt ?_;(conv=>whnf)
  rw [openQ, if_pos (.inl h1)]
  exact ⟨_, Ent.drop _, rfl, rfl⟩
 conv=>whnf
 refine LoadNG.at (vs := t.cells) (TicketD.cells_len ht) .all ?_
 (conv=>whnf);refine .ff ?_;(conv=>whnf)
 refine CallG.pure (tmay_spec _ t ht) ?_
 rintro _ _ ⟨rfl, rfl⟩
 (conv=>whnf);refine .ff ?_;(conv=>whnf);refine .ff ?_;(conv=>whnf)
 refine CondG.ndec (fun h2 => ?_) (fun h2 => ?_)
 ·conv=>whnf
  rw [openQ, if_pos (.inr h2)]
  exact ⟨_, Ent.drop _, rfl, rfl⟩
 have eo : openQ find R t = openA find t (madeQ find R) := by
  rw [openQ, if_neg]
  rintro (h | h)
  ·exact h h1
  ·exact h h2
 rw [eo]
 have hsec := fun h => open_second (find := find) (R := R) h
 have hnat := fun h => madeQ_nat (find := find) (R := R) h
 have hstp := congrArg List.length (madeQ_steps find R)
 conv=>whnf
 refine CallG.of (pre := [stR 75 s src R]) (rest := [cel b3 40 t.cells]) (made_q _ s src R (hs.left _)) (Ent.perm (List.Perm.swap _ _ _)) ?_
 rintro _ _ ⟨rfl, rfl⟩
 generalize madeQ find R = g at *
 conv=>whnf
 refine CondG.ndec (fun h3 => ?_) (fun h3 => ?_)
 ·conv=>whnf
  rw [openA, if_pos h3]
  exact ⟨_, Ent.sel (T := []) (A := [_, _]) [0] rfl, rfl, rfl⟩
 conv=>whnf
 refine CondG.dec (fun h4 => ?_) (fun h4 => ?_)
 ·conv=>whnf
  rw [openA, if_neg (fun h => h h3), if_pos h4]
  exact ⟨_, Ent.sel (T := []) (A := [_, _]) [0] rfl, rfl, rfl⟩
 have h0 := (hnat h3).1
 replace hsec := hsec h3
 rw [openA, if_neg (fun h => h h3), if_neg h4]
 obtain ⟨⟨gn, ge⟩, R1⟩ := g
 obtain ⟨m, rfl⟩ : ∃ m : Nat, gn = m := ⟨gn.toNat, (Int.toNat_of_nonneg h0).symm⟩
 simp only [Int.toNat_natCast] at h3 h4 h0 hsec hstp ⊢
 have em2 : ((m : Int) + 1) = ((m + 1 : Nat) : Int) := rfl
 conv=>whnf
 refine ArithG.i64 (by omega) ?_
 rw [em2]
 conv=>whnf
 refine DrawG.mk 7 [cel b3 40 t.cells] [stR 75 s src R1] (Ent.refl _) ?_
 conv=>whnf
 refine .take 0 ?_
 conv=>whnf
 refine ⟨rfl, ?_⟩
 conv=>whnf
 refine .take 1 ?_
 conv=>whnf
 refine ⟨rfl, ?_⟩
 conv=>whnf
 refine .take 3 ?_
 conv=>whnf
 refine ⟨rfl, ?_⟩
 conv=>whnf
 refine LoadNG.at (vs := t.cells) (TicketD.cells_len ht) .all ?_
 conv=>whnf
 refine .all ?_
 conv=>whnf
 refine ⟨by decide, ?_⟩
 conv=>whnf
 refine CallG.pure (key_spec _ (m + 1) (by omega)) ?_
 rintro _ _ ⟨rfl, rfl⟩
 conv=>whnf
 refine .all ?_
 conv=>whnf
 refine ⟨by decide, ?_⟩
 conv=>whnf
 have hen := h2.1
 have htk := h2.2.1
 refine CallG.pure (tvalue_spec _ t ht (by omega) (by omega)) ?_
 rintro r1 _ ⟨hr1, rfl⟩
 conv=>whnf
 refine .all ?_
 conv=>whnf
 refine ⟨by decide, ?_⟩
 conv=>whnf
 have hvl := TicketD.value_len ht
 refine CallG.of (pre := [stR 75 s src R1]) (rest := [own 1 r1 t.value.length (bvs t.value)]) (put_p _ s src R1 (tkey (m + 1)) r1 t.value (SrcG.left (SrcG.left hs _) _) (.left (own_rd hr1 (by rw [bvs_len, Nat.mul_one])) _) (by omega)) (Ent.perm (List.Perm.swap _ _ _)) ?_
 rintro _ _ ⟨rfl, rfl⟩
 replace hsec := hsec (tkey (m + 1)) t.value (m + 1)
 have hps := ptQ_steps find R1 (tkey (m + 1)) t.value
 rw [openB]
 generalize ptQ find R1 (tkey (m + 1)) t.value = p at *
 conv=>whnf
 refine .take 6 ?_
 conv=>whnf
 refine ⟨rfl, ?_⟩
 conv=>whnf
 refine ⟨rfl, ?_⟩
 conv=>whnf
 refine CondG.ndec (fun h5 => ?_) (fun h5 => ?_)
 ·conv=>whnf
  rw [if_pos h5]
  exact ⟨_, Ent.sel (T := []) (A := [_, _, _]) [0] rfl, rfl, rfl⟩
 rw [if_neg (fun h => h h5)]
 conv=>whnf
 refine CallG.pure (eight_spec _ (m + 1) (by omega)) ?_
 rintro r2 _ ⟨hr2, _, rfl⟩
 conv=>whnf
 refine CallG.of (pre := [stR 75 s src p.2]) (rest := [own 1 r2 8 (bvs (be (m + 1) 8)), own 1 r1 t.value.length (bvs t.value), cel b3 40 t.cells]) (put_p _ s src p.2 ntK r2 (be (m + 1) 8) (hs.left _) (by rw [be_len]; exact .left (own_rd hr2 (by rw [bvs_len, be_len])) _) (by omega)) (Ent.perm (by classical exact List.perm_iff_count.2 fun x => by simp only [List.append_eq, List.count_append, List.count_cons, List.count_nil]; omega)) ?_
 rintro _ _ ⟨rfl, rfl⟩
 rw [hsec]
 conv=>whnf
 exact ⟨_, Ent.sel (T := []) (A := [_, _, _, _]) [0] rfl, rfl, rfl⟩
theorem cancel_q (F : List HP) (s : Nat) (src : Value) (R : RSt) (n : Int) (a : List Nat) (ha : a.length = 20) (hs : SrcG Tryz.prog F src find) (hst : R.steps.length ≤ 4398046511104) :
 SpecF Tryz.prog 30 [.pointer (some ⟨s, 0, none⟩), .int .i64 n, .agg ⟨bvs a⟩] F [stR 75 s src R] (fun r L => r = .tuple #[.agg ⟨(cancelQ find R n a).1.1.cells⟩, .int .i64 (cancelQ find R n a).1.2] ∧ L = [stR 75 s src (cancelQ find R n a).2]) := by
 refine fun30.spec rfl ?_
 have wt := tfindQ_wf find R n
 have hnum := fun h => tfindQ_num (find := find) (R := R) (n := n) h
 have hstp := congrArg List.length (tfindQ_steps find R n)
 rw [cancelQ]
 conv=>whnf
 intro b5
 conv=>whnf
 intro b6
 conv=>whnf
 refine CallG.of (pre := [stR 75 s src R]) (rest := [cel b6 40 zeroT'.cells, cel b5 35 (bvs a)]) (tfind_q _ s src R n (hs.left _)) (Ent.sel (T := []) (A := [_, _, _]) [2, 0, 1] rfl) ?_
 rintro _ _ ⟨rfl, rfl⟩
 generalize tfindQ find R n = g at *
 obtain ⟨⟨t, e⟩, R1⟩ := g
 simp only at wt hnum hstp ⊢
 conv=>whnf
 intro b8
 conv=>whnf
 refine StoreG.at (TicketD.cells_len wt) (Upd.whole (by rw [TicketD.cells_len wt]; rfl) (TicketD.cells_one _)) ?_
 conv=>whnf
 refine CondG.ndec (fun h1 => ?_) (fun h1 => ?_)
 ·conv=>whnf
  refine BuildG.of rfl ?_
  conv=>whnf
  refine StoreG.at rfl (Upd.tl (Upd.tl (Upd.whole rfl (TicketD.cells_one zeroT')))) ?_
  conv=>whnf
  refine LoadNG.at (vs := zeroT'.cells) rfl (.tl (.tl .all)) ?_
  conv=>whnf
  rw [cancelA, if_pos h1]
  exact ⟨_, Ent.sel (T := []) (A := [_, _, _, _]) [1] rfl, rfl, rfl⟩
 rw [cancelA, if_neg (fun h => h h1)]
 conv=>whnf
 have hl2 : t.snd.length = 20 := wt.snd
 refine LoadNG.at (vs := bvs t.snd) (by rw [bvs_len, hl2]) (CelN.here (TicketD.snd_at _)) ?_
 conv=>whnf
 refine LoadNG.at (vs := bvs a) (by rw [bvs_len, ha]) (.tl (.tl (.tl .all))) ?_
 conv=>whnf
 refine DoesG.eqv 8 (List.replicate 20 (.int .u8)) (by kernel_rfl) (by decide) (by kernel_rfl) (by kernel_rfl) (wt_bvs hl2) (wt_bvs ha) ?_
 conv=>whnf
 refine CondG.split (fun h2 => ?_) (fun h2 => ?_)
 ·have h2' : t.snd ≠ a := fun e => by rw [e] at h2; simp at h2
  conv=>whnf
  refine BuildG.of rfl ?_
  conv=>whnf
  refine StoreG.at rfl (Upd.tl (Upd.tl (Upd.whole rfl (TicketD.cells_one zeroT')))) ?_
  conv=>whnf
  refine LoadNG.at (vs := zeroT'.cells) rfl (.tl (.tl .all)) ?_
  conv=>whnf
  rw [if_pos h2']
  exact ⟨_, Ent.sel (T := []) (A := [_, _, _, _]) [1] rfl, rfl, rfl⟩
 have h2' : t.snd = a := bvs_inj.1 (by simpa using h2)
 have hn1 := hnum h1
 rw [if_neg (fun h => h h2')]
 obtain ⟨m, rfl⟩ : ∃ m : Nat, n = m := ⟨n.toNat, (Int.toNat_of_nonneg (by omega)).symm⟩
 rw [Int.toNat_natCast]
 conv=>whnf
 refine CallG.pure (key_spec _ m (by omega)) ?_
 rintro _ _ ⟨rfl, rfl⟩
 conv=>whnf
 refine CallG.of (pre := [stR 75 s src R1]) (rest := [cel b8 40 t.cells, cel b6 40 zeroT'.cells, cel b5 35 (bvs a)]) (put_p _ s src R1 (tkey m) (.slice none 0 0) [] (hs.left _) .nil (by omega)) (Ent.sel (T := []) (A := [_, _, _, _]) [1, 0, 2, 3] rfl) ?_
 rintro _ _ ⟨rfl, rfl⟩
 generalize ptQ find R1 (tkey m) [] = p at *
 conv=>whnf
 refine CondG.ndec (fun h5 => ?_) (fun h5 => ?_)
 ·conv=>whnf
  refine BuildG.of rfl ?_
  conv=>whnf
  refine StoreG.at rfl (Upd.tl (Upd.tl (Upd.whole rfl (TicketD.cells_one zeroT')))) ?_
  conv=>whnf
  refine LoadNG.at (vs := zeroT'.cells) rfl (.tl (.tl .all)) ?_
  conv=>whnf
  rw [cancelB, if_pos h5]
  exact ⟨_, Ent.sel (T := []) (A := [_, _, _, _]) [0] rfl, rfl, rfl⟩
 rw [cancelB, if_neg (fun h => h h5)]
 conv=>whnf
 refine LoadNG.at (vs := t.cells) (TicketD.cells_len wt) (.tl .all) ?_
 conv=>whnf
 refine StoreG.at (TicketD.cells_len wt) (Upd.tl (Upd.tl (Upd.whole (by rw [TicketD.cells_len wt]; rfl) (TicketD.cells_one _)))) ?_
 conv=>whnf
 refine LoadNG.at (vs := t.cells) (TicketD.cells_len wt) (.tl (.tl .all)) ?_
 conv=>whnf
 exact ⟨_, Ent.sel (T := []) (A := [_, _, _, _]) [0] rfl, rfl, rfl⟩
theorem retry_q (F : List HP) (s : Nat) (src : Value) (R : RSt) (n : Int) (hs : SrcG Tryz.prog F src find) (hst : R.steps.length + 2 ≤ 4398046511104) :
 SpecF Tryz.prog 32 [.pointer (some ⟨s, 0, none⟩), .int .i64 n] F [stR 75 s src R] (fun r L => r = .int .i64 (retryQ find R n).1 ∧ L = [stR 75 s src (retryQ find R n).2]) := by
 refine fun32.spec rfl ?_
 have hw := tfindQ_wf find R n
 have hamt := tfindQ_amt find R n
 have hnum := fun h => tfindQ_num (find := find) (R := R) (n := n) h
 have hstp := congrArg List.length (tfindQ_steps find R n)
 rw [retryQ]
 conv=>whnf
 refine CallG.of (pre := [stR 75 s src R]) (rest := []) (tfind_q _ s src R n (hs.left _)) (Ent.refl _) ?_
 rintro _ _ ⟨rfl, rfl⟩
 generalize tfindQ find R n = g at *
 obtain ⟨⟨t, e⟩, R1⟩ := g
 simp only at hw hamt hnum hstp ⊢
 have h47 : t.cells.length = 47 := TicketD.cells_len hw
 have h20 : (bvs t.to).length = 20 := by rw [bvs_len, hw.to]
 have h4 : (uvs t.amt).length = 4 := by rw [uvs_len, hw.amt]
 conv=>whnf
 intro b5
 conv=>whnf
 refine StoreG.at h47 (Upd.whole (by rw [h47]; rfl) (TicketD.cells_one _)) ?_
 conv=>whnf
 refine CondG.ndec (fun hc => ?_) (fun hc => ?_)
 ·conv=>whnf
  rw [retryA, if_pos hc]
  exact ⟨_, Ent.sel (T := []) (A := [_, _]) [1] rfl, rfl, rfl⟩
 have hkr := hnum hc
 rw [retryA, if_neg (fun h => h hc)]
 obtain ⟨kn, rfl⟩ : ∃ m : Nat, n = m := ⟨n.toNat, by omega⟩
 conv=>whnf
 refine LoadG.at (v := .int .i64 t.tok) (.here (TicketD.tok_at hw)) ?_
 conv=>whnf
 refine LoadNG.at (vs := bvs t.to) h20 (.here (TicketD.to_at hw)) ?_
 conv=>whnf
 refine LoadNG.at (vs := uvs t.amt) h4 (.here (TicketD.amt_at hw)) ?_
 conv=>whnf
 refine CallG.of (pre := [stR 75 s src R1]) (rest := [cel b5 40 t.cells]) (mint_q _ s src R1 t.tok t.to t.amt hw.to hamt (hs.left [_]) (by omega)) (Ent.front 1 rfl) ?_
 rintro _ _ ⟨rfl, rfl⟩
 have hms := mintQ_steps find R1 t.tok t.to t.amt
 generalize mintQ find R1 t.tok t.to t.amt = y at *
 conv=>whnf
 refine CondG.ndec (fun hc2 => ?_) (fun hc2 => ?_)
 ·conv=>whnf
  rw [retryB, if_pos hc2]
  exact ⟨_, Ent.sel (T := []) (A := [_, _]) [0] rfl, rfl, rfl⟩
 rw [retryB, if_neg (fun h => h hc2), Int.toNat_natCast]
 conv=>whnf
 refine CallG.pure (key_spec _ kn (by omega)) ?_
 rintro _ _ ⟨rfl, rfl⟩
 conv=>whnf
 refine CallG.of (pre := [stR 75 s src y.2]) (rest := [cel b5 40 t.cells]) (put_p _ s src y.2 (tkey kn) (.slice none 0 0) [] (hs.left [_]) .nil (by omega)) (Ent.refl _) ?_
 rintro _ _ ⟨rfl, rfl⟩
 conv=>whnf
 exact ⟨_, Ent.sel (T := []) (A := [_, _]) [0] rfl, rfl, rfl⟩
end
end Go.Proofs.YtjacolfhlfogkabGreatDoor
