import Derived.Test.YtmfonkklmndhjaaGreatDoorVc
import Derived.Test.YtmfonkklmndhjaaGreatDoorMu
import Derived.Test.YtmfonkklmndhjaaGreatDoorGp
import Derived.Test.YtmfonkklmndhjaaGreatDoorZKc
namespace Go.Proofs.YtmfonkklmndhjaaGreatDoor
open Go Go.Sl
theorem flat_take9 {fs : List (List Nat)} {k : Nat} (hk : k < fs.length) : (fs.take (k + 1)).flatten = (fs.take k).flatten ++ fs.getD k [] := by
 rw [List.take_succ_eq_append_getElem hk, List.flatten_append, List.getD_eq_getElem?_getD, List.getElem?_eq_getElem hk]
 simp
theorem put_all {d : List Nat} (h : d.length = 32) : (bvs (List.replicate 32 0)).take 0 ++ (bvs d).take (min 32 32) ++ (bvs (List.replicate 32 0)).drop (0 + min 32 32) = bvs d := by
 rw [List.take_zero, List.nil_append, List.take_of_length_le (by rw [bvs_len, h]; decide), List.drop_of_length_le (by rw [bvs_len, List.length_replicate]; decide), List.append_nil]
theorem two_one {z : Int} {v : Value} (h : v.oneCell' = true) : ∀ u ∈ [Value.int .i64 z, v], u.oneCell' = true := by
 intro u hu
 rcases List.mem_cons.1 hu with rfl | hu
 ·rfl
 ·rw [List.mem_singleton.1 hu]; exact h
section
variable {find : SrcF} {hv nv : Value} {part : Bool}
theorem asked_q (F : List HP) (s : Nat) (R : RSt) (hd : DocF F hv nv part find) (hl : Lim R 1) :
 SpecF Tryz.prog 43 [.pointer (some ⟨s, 0, none⟩)] F [refR 73 s hv part nv R] (fun r L => ((logQ find R).1.2 ≠ 0 ∧ r = .tuple #[.agg ⟨[.int .i64 0, .slice none 0 0]⟩, .int .i64 (logQ find R).1.2] ∧ L = [refR 73 s hv part nv (logQ find R).2]) ∨
  ((logQ find R).1.2 = 0 ∧ ∃ fv, SlV fv (logQ find R).1.1.fs.length ∧ r = .tuple #[.agg ⟨[.int .i64 (logQ find R).1.1.n, fv]⟩, .int .i64 0] ∧ L = [own 32 fv (logQ find R).1.1.fs.length (digsC (logQ find R).1.1.fs), refR 73 s hv part nv (logQ find R).2])) := by
 have hb := (hl.get hd.1 oK).2
 refine fun43.spec rfl ?_
 conv=>whnf
 intro b2
 conv=>whnf
 refine BuildG.of rfl ?_
 conv=>whnf
 intro b4
 conv=>whnf
 refine StoreG.at rfl (Upd.whole rfl (by simp [Value.oneCell'])) ?_
 (conv=>whnf);refine .ff ?_;(conv=>whnf)
 refine CallG.of (pre := [refR 73 s hv part nv R]) (rest := [cel b4 111 [.int .i64 0, .slice none 0 0], cel b2 111 [.int .i64 0, .slice none 0 0]]) ((get7_p _ s R oK (hd.left _) hl).also (φ := (gtQ find R oK).1.1.length ≤ 4096) fun v L h => by
  obtain ⟨x, _, _, rfl⟩ := h
  exact Gives.cons _ (ref_len (gtQ_val find R oK))) (Ent.sel (T := []) (A := [_, _, _]) [2, 0, 1] rfl) ?_
 rintro _ _ ⟨⟨x, hx, rfl, rfl⟩, hlen⟩
 obtain ⟨g, hg⟩ : ∃ g, g = gtQ find R oK := ⟨_, rfl⟩
 have ha : logQ find R = logOf g := by rw [hg]; rfl
 rw [ha]
 rw [← hg] at hx hb hlen ⊢
 conv=>whnf
 refine CondG.ndec (fun he => ?_) (fun he => ?_)
 ·have e1 : logOf g = ((log0, g.1.2), g.2) := by unfold logOf; rw [if_pos he]
  rw [e1]
  (conv=>whnf);refine .tt ?_;(conv=>whnf);refine .tt ?_;(conv=>whnf);refine .tt ?_;(conv=>whnf);refine .tt ?_;(conv=>whnf)
  refine LoadNG.at (vs := [.int .i64 0, .slice none 0 0]) rfl (.tl (.tl .all)) ?_
  conv=>whnf
  refine StoreG.at rfl (.tl (.tl (.tl (Upd.whole rfl (by simp [Value.oneCell']))))) ?_
  conv=>whnf
  refine LoadNG.at (vs := [.int .i64 0, .slice none 0 0]) rfl (.tl (.tl (.tl .all))) ?_
  conv=>whnf
  exact ⟨_, Ent.sel (T := []) (A := [_, _, _, _]) [1] rfl, .inl ⟨he, rfl, rfl⟩⟩
 have e1 : logOf g = (askR g.1.1, g.2) := by unfold logOf; rw [if_neg (fun h => h he)]
 rw [e1]
 obtain ⟨⟨bs, ge⟩, R1⟩ := g
 simp only at hx hb hlen he e1 ⊢
 subst he
 (conv=>whnf);refine .ff ?_;(conv=>whnf)
 refine LenG.sl hx ?_
 (conv=>whnf);refine .ff ?_;(conv=>whnf);refine .ff ?_;(conv=>whnf)
 refine CondG.dec (fun h1 => ?_) (fun h1 => ?_)
 ·obtain rfl : bs = [] := List.eq_nil_of_length_eq_zero (by omega)
  have e2 : askR [] = (log0, 0) := rfl
  rw [e2]
  conv=>whnf
  refine LoadNG.at (vs := [.int .i64 0, .slice none 0 0]) rfl (.tl (.tl .all)) ?_
  conv=>whnf
  refine StoreG.at rfl (.tl (.tl (.tl (Upd.whole rfl (by simp [Value.oneCell']))))) ?_
  conv=>whnf
  refine LoadNG.at (vs := [.int .i64 0, .slice none 0 0]) rfl (.tl (.tl (.tl .all))) ?_
  conv=>whnf
  exact ⟨_, Ent.trans (Ent.sel (T := []) (A := [_, _, _, _]) [1] rfl) (fun w G hs => Sat.own_nil (sz := 32) hs), .inr ⟨rfl, .slice none 0 0, .inl ⟨rfl, rfl⟩, rfl, rfl⟩⟩
 have hrd : RdS (own 1 x bs.length (bvs bs) :: refR 73 s hv part nv R1 :: [cel b4 111 [.int .i64 0, .slice none 0 0], cel b2 111 [.int .i64 0, .slice none 0 0]]) x bs.length (bvs bs) := own_rd hx (by rw [bvs_len, Nat.mul_one])
 have hne : bs ≠ [] := fun e => h1 (by rw [e]; rfl)
 have hbad : (bs.length % 32 ≠ 8 ∨ bs.getD 0 0 ≠ 0 ∨ bs.getD 1 0 ≠ 0) → askR bs = (log0, 75) := fun h => by unfold askR; rw [if_neg hne, if_pos h]
 conv=>whnf
 refine LenG.sl hx ?_
 conv=>whnf
 refine CondG.dec (fun h2 => ?_) (fun h2 => ?_)
 ·rw [hbad (.inl (by omega))]
  (conv=>whnf);repeat((with_reducible first|refine .tt ?_|refine .ff ?_|refine .ntt ?_|refine .nff ?_);conv=>whnf)
  refine LoadNG.at (vs := [.int .i64 0, .slice none 0 0]) rfl (.tl (.tl .all)) ?_
  conv=>whnf
  refine StoreG.at rfl (.tl (.tl (.tl (Upd.whole rfl (by simp [Value.oneCell']))))) ?_
  conv=>whnf
  refine LoadNG.at (vs := [.int .i64 0, .slice none 0 0]) rfl (.tl (.tl (.tl .all))) ?_
  conv=>whnf
  exact ⟨_, Ent.sel (T := []) (A := [_, _, _, _]) [1] rfl, .inl ⟨by decide, rfl, rfl⟩⟩
 (conv=>whnf);refine .ff ?_;(conv=>whnf)
 refine LenG.sl hx ?_
 (conv=>whnf);refine .ff ?_;(conv=>whnf)
 refine SideG.of (by decide) ?_
 rw [show ((bs.length : Nat) : Int).tmod 32 = ((bs.length % 32 : Nat) : Int) from rfl]
 (conv=>whnf);refine .ff ?_;(conv=>whnf);refine .ff ?_;(conv=>whnf)
 refine CondG.ndec (fun h2 => ?_) (fun h2 => ?_)
 ·rw [hbad (.inl (by omega))]
  (conv=>whnf);refine .tt ?_;(conv=>whnf);refine .tt ?_;(conv=>whnf);refine .tt ?_;(conv=>whnf);refine .tt ?_;(conv=>whnf);refine .tt ?_;(conv=>whnf);refine .tt ?_;(conv=>whnf);refine .tt ?_;(conv=>whnf);refine .tt ?_;(conv=>whnf);refine .tt ?_;(conv=>whnf);refine .tt ?_;(conv=>whnf)
  refine LoadNG.at (vs := [.int .i64 0, .slice none 0 0]) rfl (.tl (.tl .all)) ?_
  conv=>whnf
  refine StoreG.at rfl (.tl (.tl (.tl (Upd.whole rfl (by simp [Value.oneCell']))))) ?_
  conv=>whnf
  refine LoadNG.at (vs := [.int .i64 0, .slice none 0 0]) rfl (.tl (.tl (.tl .all))) ?_
  conv=>whnf
  exact ⟨_, Ent.sel (T := []) (A := [_, _, _, _]) [1] rfl, .inl ⟨by decide, rfl, rfl⟩⟩
 have hl8 : 8 ≤ bs.length := by omega
 (conv=>whnf);refine .ff ?_;(conv=>whnf)
 refine IdxG.rd hrd (by omega) fun c0 o0 hc0 => ?_
 (conv=>whnf);refine .ff ?_;(conv=>whnf)
 refine LoadG.at (v := bv bs[0]) (hc0.one (i := 0) (bvs_get (by omega))) ?_
 (conv=>whnf);refine .ff ?_;(conv=>whnf);refine .ff ?_;(conv=>whnf)
 refine CondG.ndec (fun h3 => ?_) (fun h3 => ?_)
 ·rw [hbad (.inr (.inl (by rw [getD_get (by omega)]; omega)))]
  (conv=>whnf);refine .tt ?_;(conv=>whnf);refine .tt ?_;(conv=>whnf);refine .tt ?_;(conv=>whnf);refine .tt ?_;(conv=>whnf);refine .tt ?_;(conv=>whnf)
  refine LoadNG.at (vs := [.int .i64 0, .slice none 0 0]) rfl (.tl (.tl .all)) ?_
  conv=>whnf
  refine StoreG.at rfl (.tl (.tl (.tl (Upd.whole rfl (by simp [Value.oneCell']))))) ?_
  conv=>whnf
  refine LoadNG.at (vs := [.int .i64 0, .slice none 0 0]) rfl (.tl (.tl (.tl .all))) ?_
  conv=>whnf
  exact ⟨_, Ent.sel (T := []) (A := [_, _, _, _]) [1] rfl, .inl ⟨by decide, rfl, rfl⟩⟩
 (conv=>whnf);refine .ff ?_;(conv=>whnf)
 refine IdxG.rd hrd (by omega) fun c1 o1 hc1 => ?_
 (conv=>whnf);refine .ff ?_;(conv=>whnf)
 refine LoadG.at (v := bv bs[1]) (hc1.one (i := 1) (bvs_get (by omega))) ?_
 (conv=>whnf);refine .ff ?_;(conv=>whnf);refine .ff ?_;(conv=>whnf)
 refine CondG.ndec (fun h4 => ?_) (fun h4 => ?_)
 ·rw [hbad (.inr (.inr (by rw [getD_get (by omega)]; omega)))]
  conv=>whnf
  refine LoadNG.at (vs := [.int .i64 0, .slice none 0 0]) rfl (.tl (.tl .all)) ?_
  conv=>whnf
  refine StoreG.at rfl (.tl (.tl (.tl (Upd.whole rfl (by simp [Value.oneCell']))))) ?_
  conv=>whnf
  refine LoadNG.at (vs := [.int .i64 0, .slice none 0 0]) rfl (.tl (.tl (.tl .all))) ?_
  conv=>whnf
  exact ⟨_, Ent.sel (T := []) (A := [_, _, _, _]) [1] rfl, .inl ⟨by decide, rfl, rfl⟩⟩
 have hz0 : bs.getD 0 0 = 0 := by rw [getD_get (by omega)]; omega
 have hz1 : bs.getD 1 0 = 0 := by rw [getD_get (by omega)]; omega
 conv=>whnf
 refine LoopG.mk (fun mm e L => ∃ i, i ≤ 8 ∧ mm = 8 - i ∧ e = [(2, .pointer (some ⟨b2, 0, none⟩)), (4, .pointer (some ⟨b4, 0, none⟩)), (5, x), (7, .int .i64 (numF (bs.take i))), (8, .int .i64 (i : Nat))] ∧ L = own 1 x bs.length (bvs bs) :: refR 73 s hv part nv R1 :: [cel b4 111 [.int .i64 0, .slice none 0 0], cel b2 111 [.int .i64 0, .slice none 0 0]]) 8
  [(2, .pointer (some ⟨b2, 0, none⟩)), (4, .pointer (some ⟨b4, 0, none⟩)), (5, x), (7, .int .i64 0), (8, .int .i64 0)] _ ⟨rfl, rfl, rfl, rfl, rfl, trivial⟩ (Ent.refl _) ⟨0, by omega, rfl, rfl, rfl⟩ ?_
 rintro mm e L ⟨i, hi, rfl, rfl, rfl⟩
 conv=>whnf
 refine CondG.dec (fun h5 => ?_) (fun h5 => ?_)
 ·have hlt : i < bs.length := by omega
  obtain ⟨a, ha, hal⟩ := num7 hb hl8 hz0 (i := i) (by omega)
  obtain ⟨a2, ha2, hal2⟩ := num8 hb hl8 hz0 (i := i + 1) (by omega)
  have hbb := hb _ (List.getElem_mem hlt)
  have hst : numF (bs.take (i + 1)) = ((256 * a + bs[i] : Nat) : Int) := by rw [numF_take bs i hlt, ha, numStep_nat a _ (by omega) hbb]
  rw [ha]
  conv=>whnf
  refine ArithG.i64' ((256 * a : Nat) : Int) (by omega) (by omega) ?_
  conv=>whnf
  refine IdxG.rd hrd (by omega) fun b o hc => ?_
  conv=>whnf
  refine LoadG.at (v := bv bs[i]) (hc.one (i := (i : Int).toNat * 1) (by simpa using bvs_get hlt)) ?_
  conv=>whnf
  refine ArithG.i64 (by omega) ?_
  conv=>whnf
  refine ArithG.i64' ((256 * a + bs[i] : Nat) : Int) (by omega) (by omega) ?_
  conv=>whnf
  refine ArithG.i64' ((i + 1 : Nat) : Int) (by omega) (by omega) ?_
  conv=>whnf
  exact ⟨8 - (i + 1), [(2, .pointer (some ⟨b2, 0, none⟩)), (4, .pointer (some ⟨b4, 0, none⟩)), (5, x), (7, .int .i64 ((256 * a + bs[i] : Nat) : Int)), (8, .int .i64 ((i + 1 : Nat) : Int))], _, by omega, ⟨rfl, rfl, rfl, rfl, rfl, trivial⟩, Ent.refl _, i + 1, by omega, rfl, by rw [hst], rfl⟩
 obtain rfl : i = 8 := by omega
 obtain ⟨m, hm, hm56⟩ := num8 hb hl8 hz0 (i := 8) (by omega)
 have hmL : numL bs = m := by unfold numL; rw [hm]; rfl
 rw [hm]
 have hK : bs.length - 8 = 32 * ((bs.length - 8) / 32) := by omega
 generalize hKK : (bs.length - 8) / 32 = KK at hK
 conv=>whnf
 refine LoopG.mk (fun mm e L => ∃ k fv, k ≤ KK ∧ mm = KK - k ∧ e = [(2, .pointer (some ⟨b2, 0, none⟩)), (4, .pointer (some ⟨b4, 0, none⟩)), (5, x), (7, .int .i64 (m : Nat)), (9, fv), (10, .int .i64 ((8 + 32 * k : Nat) : Int))] ∧ SlV fv k ∧
  L = own 32 fv k (digsC (chunkF k (bs.drop 8))) :: own 1 x bs.length (bvs bs) :: refR 73 s hv part nv R1 :: [cel b4 111 [.int .i64 0, .slice none 0 0], cel b2 111 [.int .i64 0, .slice none 0 0]]) KK
  [(2, .pointer (some ⟨b2, 0, none⟩)), (4, .pointer (some ⟨b4, 0, none⟩)), (5, x), (7, .int .i64 (m : Nat)), (9, .slice none 0 0), (10, .int .i64 8)] _ ⟨rfl, rfl, rfl, rfl, rfl, rfl, trivial⟩ (fun w G hs => Sat.own_nil (sz := 32) hs) ⟨0, _, by omega, rfl, rfl, .inl ⟨rfl, rfl⟩, rfl⟩ ?_
 rintro mm e L ⟨k, fv, hkK, rfl, rfl, hfv, rfl⟩
 conv=>whnf
 refine LenG.sl hx ?_
 conv=>whnf
 refine CondG.dec (fun h6 => ?_) (fun h6 => ?_)
 ·have hd32 : ((bs.drop (8 + 32 * k)).take 32).length = 32 := by rw [List.length_take, List.length_drop]; omega
  conv=>whnf
  intro b11
  conv=>whnf
  refine DrawG.mk 7 (own 32 fv k (digsC (chunkF k (bs.drop 8))) :: own 1 x bs.length (bvs bs) :: refR 73 s hv part nv R1 :: [cel b4 111 [.int .i64 0, .slice none 0 0], cel b2 111 [.int .i64 0, .slice none 0 0]]) [cel b11 81 (bvs (List.replicate 32 0))] (Ent.refl _) ?_
  conv=>whnf
  refine .take 0 ?_
  conv=>whnf
  refine ⟨rfl, ?_⟩
  conv=>whnf
  refine SideG.of (by decide) ?_
  conv=>whnf
  refine SliceG.zero ?_
  conv=>whnf
  refine .take 1 ?_
  conv=>whnf
  refine ⟨rfl, ?_⟩
  conv=>whnf
  refine .take 2 ?_
  conv=>whnf
  refine ⟨rfl, ?_⟩
  conv=>whnf
  refine .take 3 ?_
  conv=>whnf
  refine ⟨rfl, ?_⟩
  conv=>whnf
  refine .take 4 ?_
  conv=>whnf
  refine ⟨rfl, ?_⟩
  conv=>whnf
  refine ArithG.i64' ((8 + 32 * k + 32 : Nat) : Int) (by omega) (by omega) ?_
  conv=>whnf
  refine .take 5 ?_
  conv=>whnf
  refine ⟨rfl, ?_⟩
  conv=>whnf
  refine SlcG.sl hx fun a cap hva hcap => ?_
  subst hva
  conv=>whnf
  refine SideG.of (by omega) ?_
  conv=>whnf
  refine SliceG.rd hrd (by omega) (by omega) (by omega) (by omega) fun w1 hw1 _ => ?_
  replace hw1 : RdS (own 1 (.slice a bs.length cap) bs.length (bvs bs) :: refR 73 s hv part nv R1 :: [cel b4 111 [.int .i64 0, .slice none 0 0], cel b2 111 [.int .i64 0, .slice none 0 0]]) w1 32 (bvs ((bs.drop (8 + 32 * k)).take 32)) := by
   have e : ((bvs bs).drop (((8 + 32 * k : Nat) : Int).toNat * 1)).take ((((8 + 32 * k + 32 : Nat) : Int).toNat - ((8 + 32 * k : Nat) : Int).toNat) * 1) = bvs ((bs.drop (8 + 32 * k)).take 32) := by
    rw [Int.toNat_natCast, Int.toNat_natCast, Nat.mul_one, Nat.mul_one, show 8 + 32 * k + 32 - (8 + 32 * k) = 32 by omega]
    simp [bvs, List.map_take, List.map_drop]
   have e' : ((8 + 32 * k + 32 : Nat) : Int).toNat - ((8 + 32 * k : Nat) : Int).toNat = 32 := by rw [Int.toNat_natCast, Int.toNat_natCast]; omega
   rw [e, e'] at hw1
   exact hw1
  conv=>whnf
  refine .all ?_
  conv=>whnf
  refine ⟨by decide, ?_⟩
  conv=>whnf
  refine DoesG.copy1 (elem := 5) (n := 32) (o := 0) (dLen := 32) (cur := bvs (List.replicate 32 0)) (cs := bvs ((bs.drop (8 + 32 * k)).take 32)) (by kernel_rfl) (by kernel_rfl) (by exact RdS.tl (RdS.left (.tl hw1) F)) (by rw [bvs_len, hd32]) (by rw [bvs_len, List.length_replicate]; decide) (bvs_one _) ?_
  rw [put_all hd32]
  conv=>whnf
  refine ⟨rfl, ?_⟩
  conv=>whnf
  refine LoadNG.at (vs := bvs ((bs.drop (8 + 32 * k)).take 32)) (by rw [bvs_len, hd32]) .all ?_
  conv=>whnf
  refine BuildG.of (cs := bvs ((bs.drop (8 + 32 * k)).take 32)) (by simp [fillL, Value.cells, bvs_len, hd32]) ?_
  conv=>whnf
  intro b80
  conv=>whnf
  refine DoesG.ent (Ent.front 2 rfl) ?_
  refine app_own digsT 109 (m := 1) (ys := bvs ((bs.drop (8 + 32 * k)).take 32)) (.mk _ _ _ _ _ (by decide) (.tl (.left .all _))) (by rw [bvs_len, hd32]) (bvs_one _) (by simp only [maxLen]; omega) (by omega) fun fv' hfv' _ _ => ?_
  conv=>whnf
  refine ArithG.i64' ((8 + 32 * (k + 1) : Nat) : Int) (by omega) (by omega) ?_
  conv=>whnf
  have ec : digsC (chunkF k (bs.drop 8)) ++ bvs ((bs.drop (8 + 32 * k)).take 32) = digsC (chunkF (k + 1) (bs.drop 8)) := by
   rw [chunkF_snoc, List.drop_drop]
   simp [digsC]
  rw [ec]
  exact ⟨KK - (k + 1), [(2, .pointer (some ⟨b2, 0, none⟩)), (4, .pointer (some ⟨b4, 0, none⟩)), (5, .slice a bs.length cap), (7, .int .i64 (m : Nat)), (9, fv'), (10, .int .i64 ((8 + 32 * (k + 1) : Nat) : Int))], _, by omega, ⟨rfl, rfl, rfl, rfl, rfl, rfl, trivial⟩, Ent.sel (T := []) (A := [_, _, _, _, _, _, _]) [0, 3, 4, 5, 6] rfl, k + 1, fv', by omega, rfl, rfl, hfv', rfl⟩
 obtain rfl : k = KK := by omega
 have hcl := chunkF_len k (bs.drop 8)
 have hck : ∀ d ∈ chunkF k (bs.drop 8), Dg9 d := chunkF_ok k _ (by rw [List.length_drop]; omega) fun b h => hb b (List.mem_of_mem_drop h)
 have hrf : RdS (own 32 fv k (digsC (chunkF k (bs.drop 8))) :: own 1 x bs.length (bvs bs) :: refR 73 s hv part nv R1 :: [cel b4 111 [.int .i64 0, .slice none 0 0], cel b2 111 [.int .i64 0, .slice none 0 0]]) fv (chunkF k (bs.drop 8)).length (digsC (chunkF k (bs.drop 8))) := by
  rw [hcl]
  exact own_rd hfv (by rw [digs_len9 hck, hcl])
 have hR : askR bs = if 1099511627776 < m ∨ k ≠ ones m ∨ m = 0 then (log0, 75) else (⟨m, chunkF k (bs.drop 8)⟩, 0) := by
  unfold askR
  rw [if_neg hne, if_neg (by rw [hz0, hz1]; omega), hmL, hKK]
 rw [hR]
 generalize chunkF k (bs.drop 8) = cs at hcl hck hrf ⊢
 conv=>whnf
 refine CallG.pure (rresume_spec _ m hm56 fv cs hck (.left hrf F)) ?_
 rintro _ _ (⟨h7, rfl, rfl⟩ | ⟨h7, h8, rfl, rfl⟩ | ⟨h7, h8, fv', hfv', rfl, rfl⟩)
 ·rw [if_pos (.inl h7)]
  conv=>whnf
  intro b12
  conv=>whnf
  refine StoreG.at rfl (Upd.whole rfl (by simp [Value.oneCell'])) ?_
  conv=>whnf
  refine CondG.ndec (fun _ => ?_) (fun h => absurd h (by decide))
  (conv=>whnf);refine .tt ?_;(conv=>whnf);refine .tt ?_;(conv=>whnf);refine .tt ?_;(conv=>whnf)
  refine LoadNG.at (vs := [.int .i64 0, .slice none 0 0]) rfl (.tl (.tl (.tl (.tl .all)))) ?_
  conv=>whnf
  refine StoreG.at rfl (.tl (.tl (.tl (.tl (.tl (Upd.whole rfl (by simp [Value.oneCell']))))))) ?_
  conv=>whnf
  refine LoadNG.at (vs := [.int .i64 0, .slice none 0 0]) rfl (.tl (.tl (.tl (.tl (.tl .all))))) ?_
  conv=>whnf
  exact ⟨_, Ent.sel (T := []) (A := [_, _, _, _, _, _]) [3] rfl, .inl ⟨by decide, rfl, rfl⟩⟩
 ·rw [if_pos (.inr (.inl (by omega)))]
  conv=>whnf
  intro b12
  conv=>whnf
  refine StoreG.at rfl (Upd.whole rfl (by simp [Value.oneCell'])) ?_
  conv=>whnf
  refine CondG.ndec (fun _ => ?_) (fun h => absurd h (by decide))
  (conv=>whnf);refine .tt ?_;(conv=>whnf);refine .tt ?_;(conv=>whnf);refine .tt ?_;(conv=>whnf)
  refine LoadNG.at (vs := [.int .i64 0, .slice none 0 0]) rfl (.tl (.tl (.tl (.tl .all)))) ?_
  conv=>whnf
  refine StoreG.at rfl (.tl (.tl (.tl (.tl (.tl (Upd.whole rfl (by simp [Value.oneCell']))))))) ?_
  conv=>whnf
  refine LoadNG.at (vs := [.int .i64 0, .slice none 0 0]) rfl (.tl (.tl (.tl (.tl (.tl .all))))) ?_
  conv=>whnf
  exact ⟨_, Ent.sel (T := []) (A := [_, _, _, _, _, _]) [3] rfl, .inl ⟨by decide, rfl, rfl⟩⟩
 conv=>whnf
 intro b12
 conv=>whnf
 refine StoreG.at rfl (Upd.whole rfl (two_one hfv'.one)) ?_
 conv=>whnf
 refine CondG.ndec (fun h => absurd rfl h) (fun _ => ?_)
 (conv=>whnf);refine .ff ?_;(conv=>whnf);refine .ff ?_;(conv=>whnf)
 refine CondG.dec (fun h9 => ?_) (fun h9 => ?_)
 ·rw [if_pos (.inr (.inr (by omega)))]
  conv=>whnf
  refine LoadNG.at (vs := [.int .i64 0, .slice none 0 0]) rfl (.tl (.tl (.tl (.tl (.tl .all))))) ?_
  conv=>whnf
  refine StoreG.at rfl (.tl (.tl (.tl (.tl (.tl (.tl (Upd.whole rfl (by simp [Value.oneCell'])))))))) ?_
  conv=>whnf
  refine LoadNG.at (vs := [.int .i64 0, .slice none 0 0]) rfl (.tl (.tl (.tl (.tl (.tl (.tl .all)))))) ?_
  conv=>whnf
  exact ⟨_, Ent.sel (T := []) (A := [_, _, _, _, _, _, _]) [4] rfl, .inl ⟨by decide, rfl, rfl⟩⟩
 rw [if_neg (by omega)]
 conv=>whnf
 refine LoadNG.at (vs := [.int .i64 m, fv']) rfl .all ?_
 conv=>whnf
 refine StoreG.at rfl (.tl (.tl (.tl (.tl (.tl (.tl (Upd.whole rfl (two_one hfv'.one)))))))) ?_
 conv=>whnf
 refine LoadNG.at (vs := [.int .i64 m, fv']) rfl (.tl (.tl (.tl (.tl (.tl (.tl .all)))))) ?_
 conv=>whnf
 exact ⟨_, Ent.sel (T := []) (A := [_, _, _, _, _, _, _]) [1, 4] rfl, .inr ⟨rfl, fv', hfv', rfl, rfl⟩⟩
theorem rvalue_spec (F : List HP) (l : LogD) (hl : l.ok) (h0 : l.n ≠ 0) (fv : Value) (hfv : RdS F fv l.fs.length (digsC l.fs)) :
 SpecF Tryz.prog 47 [.agg ⟨[.int .i64 l.n, fv]⟩] F [] (fun r L => SlV r (valueB l).length ∧ L = [own 1 r (valueB l).length (bvs (valueB l))]) := by
 have hn := hl.le
 have h41 := ones_lt hl.le
 have hfl := hl.len
 obtain ⟨n, hnn⟩ : ∃ n, n = l.n := ⟨_, rfl⟩
 have h8 := be_len n 8
 refine fun47.spec rfl ?_
 rw [← hnn] at hn h0 ⊢
 conv=>whnf
 intro b1
 conv=>whnf
 refine LoadG.at (v := .int .i64 n) (.here rfl) ?_
 conv=>whnf
 refine CondG.decF (by omega) ?_
 conv=>whnf
 refine DoesG.makeC (n := 8) (zv := .int .u8 0) bytesT (by kernel_rfl) rfl .i64 .i64 (by decide) (by decide) fun b3 => ?_
 conv=>whnf
 refine LoadG.at (v := .int .i64 n) (.tl (.here rfl)) ?_
 conv=>whnf
 refine LoopG.mk (fun mm e L => ∃ i : Nat, i ≤ 8 ∧ mm = 8 - i ∧ e = [(1, .pointer (some ⟨b1, 0, none⟩)), (3, .slice (some ⟨b3, 0, none⟩) 8 8), (4, .int .i64 ((n / 256 ^ i : Nat) : Int)), (5, .int .i64 (7 - (i : Int)))] ∧ L = [cel b3 5 (bvs (tailN (be n 8) (8 - i))), cel b1 111 [.int .i64 n, fv]]) 8
  [(1, .pointer (some ⟨b1, 0, none⟩)), (3, .slice (some ⟨b3, 0, none⟩) 8 8), (4, .int .i64 n), (5, .int .i64 7)] _ ⟨rfl, rfl, rfl, rfl, trivial⟩ (Ent.refl _) ⟨0, by omega, rfl, by simp, by rw [show 8 - 0 = (be n 8).length by rw [h8], tailN_all, h8]; rfl⟩ ?_
 rintro mm e L ⟨i, hi, rfl, rfl, rfl⟩
 conv=>whnf
 refine CondG.dec (fun h1 => ?_) (fun h1 => ?_)
 ·have hlt : i < 8 := by omega
  have hnl : n / 256 ^ i ≤ n := Nat.div_le_self _ _
  obtain ⟨X, hX⟩ : ∃ X, X = n / 256 ^ i := ⟨_, rfl⟩
  rw [← hX] at hnl ⊢
  have hm : (X : Int).tmod 256 = ((X % 256 : Nat) : Int) := rfl
  have hq : (X : Int).tdiv 256 = ((X / 256 : Nat) : Int) := rfl
  conv=>whnf
  refine SideG.of (by decide) ?_
  conv=>whnf
  rw [hm]
  refine ArithG.u8 (by omega) ?_
  conv=>whnf
  refine ⟨b3, 0, 8, 8, rfl, by omega, ?_⟩
  conv=>whnf
  have hg := be_at n 8 (7 - i) (by omega)
  rw [show 8 - 1 - (7 - i) = i by omega, ← hX] at hg
  have hget : (be n 8)[7 - i]'(by omega) = X % 256 := (List.getElem?_eq_some_iff.1 hg).2
  refine StoreG.at (cs := [_]) rfl (Upd.here (by rw [bvs_len, tailN_len (by omega), h8]; omega) rfl) ?_
  have eu : (bvs (tailN (be n 8) (8 - i))).set (0 + (7 - (i : Int)).toNat * 1) (.int .u8 ((X % 256 : Nat) : Int)) = bvs (tailN (be n 8) (8 - (i + 1))) := by
   rw [show 0 + (7 - (i : Int)).toNat * 1 = 7 - i by omega, ← hget, show 8 - i = 7 - i + 1 by omega, show 8 - (i + 1) = 7 - i by omega]
   exact tailN_set (by omega)
  rw [eu]
  conv=>whnf
  refine SideG.of (by decide) ?_
  refine ArithG.i64' ((X / 256 : Nat) : Int) hq (by omega) ?_
  conv=>whnf
  refine ArithG.i64' (7 - ((i + 1 : Nat) : Int)) (by omega) (by omega) ?_
  conv=>whnf
  have hX2 : X / 256 = n / 256 ^ (i + 1) := by rw [hX, Nat.pow_succ, Nat.div_div_eq_div_mul]
  rw [hX2]
  exact ⟨8 - (i + 1), [(1, .pointer (some ⟨b1, 0, none⟩)), (3, .slice (some ⟨b3, 0, none⟩) 8 8), (4, .int .i64 ((n / 256 ^ (i + 1) : Nat) : Int)), (5, .int .i64 (7 - ((i + 1 : Nat) : Int)))], _, by omega, ⟨rfl, rfl, rfl, rfl, trivial⟩, Ent.refl _, i + 1, by omega, rfl, rfl, rfl⟩
 obtain rfl : i = 8 := by omega
 rw [Nat.sub_self, tailN_zero]
 conv=>whnf
 refine LoopG.mk (fun mm e L => ∃ k v, k ≤ l.fs.length ∧ mm = l.fs.length - k ∧ e = [(1, .pointer (some ⟨b1, 0, none⟩)), (3, v), (6, .int .i64 (k : Nat))] ∧ SlV v (8 + 32 * k) ∧ L = [own 1 v (8 + 32 * k) (bvs (be n 8 ++ (l.fs.take k).flatten)), cel b1 111 [.int .i64 n, fv]]) l.fs.length
  [(1, .pointer (some ⟨b1, 0, none⟩)), (3, .slice (some ⟨b3, 0, none⟩) 8 8), (6, .int .i64 0)] _ ⟨rfl, rfl, rfl, trivial⟩ (own_of_cel (n := 8) (sz := 1) (by rw [bvs_len, h8]) (by decide)) ⟨0, _, by omega, rfl, rfl, .inr ⟨b3, 8, rfl, by decide⟩, by simp⟩ ?_
 rintro mm e L ⟨k, v, hk, rfl, rfl, hkv, rfl⟩
 conv=>whnf
 refine LoadG.at (v := fv) (.tl (.here rfl)) ?_
 conv=>whnf
 refine LenG.rd hfv ?_
 conv=>whnf
 refine CondG.dec (fun h2 => ?_) (fun h2 => ?_)
 ·have hD := getD_ok hl.fs (i := k) (by omega)
  have hzl : (bvs (l.fs.getD k [])).length = 32 := by rw [bvs_len, hD.len]
  conv=>whnf
  refine LoadG.at (v := fv) (.tl (.here rfl)) ?_
  conv=>whnf
  refine IdxG.rd hfv (by omega) fun c o hc => ?_
  have hcp : CelN F c (o + ((k : Nat) : Int).toNat * 32) (bvs (l.fs.getD k [])) := hc.part (by rw [Int.toNat_natCast]; exact digs_at hl.fs (by omega))
  conv=>whnf
  refine SideG.of (by decide) ?_
  conv=>whnf
  refine SliceG.zero ?_
  conv=>whnf
  refine app_own bytesT 22 (m := 32) (ys := bvs (l.fs.getD k [])) (by exact .mk _ _ _ _ _ (Nat.le_refl _) (.tl (.right hcp _))) hzl (bvs_one _) (by simp only [maxLen]; omega) (by omega) fun v' hv' _ _ => ?_
  conv=>whnf
  refine ArithG.i64 (by omega) ?_
  conv=>whnf
  refine ⟨l.fs.length - (k + 1), [(1, .pointer (some ⟨b1, 0, none⟩)), (3, v'), (6, .int .i64 ((k + 1 : Nat) : Int))], _, by omega, ⟨rfl, rfl, rfl, trivial⟩, Ent.refl _, k + 1, v', by omega, rfl, rfl, hv', ?_⟩
  rw [flat_take9 (by omega), show 8 + 32 * k + 32 = 8 + 32 * (k + 1) by omega]
  simp [bvs]
 obtain rfl : k = l.fs.length := by omega
 have e1 : (valueB l).length = 8 + 32 * l.fs.length := by rw [valueB, List.length_append, be_len, flat_len9 hl.fs]
 rw [List.take_length]
 conv=>whnf
 rw [e1, valueB, ← hnn]
 exact ⟨_, Ent.sel (T := []) (A := [_, _]) [0] rfl, hkv, rfl⟩
theorem osize9_q (F : List HP) (s : Nat) (R : RSt) (hd : DocF F hv nv part find) (hl : Lim R 1) :
 SpecF Tryz.prog 19 [.pointer (some ⟨s, 0, none⟩)] F [refR 73 s hv part nv R] (fun r L => r = .tuple #[.int .i64 (sizeQ find R).1.1, .int .i64 (sizeQ find R).1.2] ∧ L = [refR 73 s hv part nv (sizeQ find R).2]) := by
 have herr := fun h => logQ_err (find := find) (R := R) h
 refine fun19.spec rfl ?_
 unfold sizeQ
 conv=>whnf
 refine CallG.of (pre := [refR 73 s hv part nv R]) (rest := []) (asked_q _ s R (hd.left _) hl) (Ent.refl _) ?_
 rintro _ _ (⟨h1, rfl, rfl⟩ | ⟨h1, fv, hfv, rfl, rfl⟩)
 ·rw [herr h1]
  generalize (logQ find R).1.2 = e at h1 ⊢
  conv=>whnf
  intro b4
  conv=>whnf
  refine StoreG.at rfl (Upd.whole rfl (by simp [Value.oneCell'])) ?_
  conv=>whnf
  refine LoadG.at (v := .int .i64 0) (.here rfl) ?_
  conv=>whnf
  exact ⟨_, Ent.sel (T := []) (A := [_, _]) [1] rfl, rfl, rfl⟩
 ·rw [h1]
  conv=>whnf
  intro b4
  conv=>whnf
  refine StoreG.at rfl (Upd.whole rfl (two_one hfv.one)) ?_
  conv=>whnf
  refine LoadG.at (v := .int .i64 (logQ find R).1.1.n) (.here rfl) ?_
  conv=>whnf
  exact ⟨_, Ent.sel (T := []) (A := [_, _, _]) [2] rfl, rfl, rfl⟩
variable (K : List W32) (hk : K.length = 64)
include hk
theorem oroot9_q (F : List HP) (hC' : CelN F 3 0 (wvs K)) (hB : CelN F 2 0 (wvs ivW)) (s : Nat) (R : RSt) (hd : DocF F hv nv part find) (hl : Lim R 1) :
 SpecF Tryz.prog 21 [.pointer (some ⟨s, 0, none⟩)] F [refR 73 s hv part nv R] (fun r L => r = .tuple #[.agg ⟨bvs (rootQ find K R).1.1⟩, .int .i64 (rootQ find K R).1.2] ∧ L = [refR 73 s hv part nv (rootQ find K R).2]) := by
 have hok := logQ_ok (R := R) (hl.get hd.1 oK).2
 refine fun21.spec rfl ?_
 unfold rootQ
 conv=>whnf
 intro b2
 conv=>whnf
 refine CallG.of (pre := [refR 73 s hv part nv R]) (rest := [cel b2 81 (bvs (List.replicate 32 0))]) (asked_q _ s R (hd.left _) hl) (Ent.perm (.swap _ _ _)) ?_
 rintro _ _ (⟨h1, rfl, rfl⟩ | ⟨h1, fv, hfv, rfl, rfl⟩)
 ·rw [if_pos h1]
  generalize (logQ find R).1.2 = e at h1 ⊢
  conv=>whnf
  intro b4
  conv=>whnf
  refine StoreG.at rfl (Upd.whole rfl (by simp [Value.oneCell'])) ?_
  conv=>whnf
  refine CondG.ndec (fun _ => ?_) (fun h => absurd h h1)
  conv=>whnf
  refine BuildG.of (cs := bvs (List.replicate 32 0)) rfl ?_
  conv=>whnf
  refine StoreG.at rfl (.tl (.tl (Upd.whole rfl (bvs_one _)))) ?_
  conv=>whnf
  refine LoadNG.at (vs := bvs (List.replicate 32 0)) rfl (.tl (.tl .all)) ?_
  conv=>whnf
  exact ⟨_, Ent.sel (T := []) (A := [_, _, _]) [1] rfl, rfl, rfl⟩
 ·rw [if_neg (fun h => h h1)]
  have hz : (bvs (rootL K (logQ find R).1.1.fs)).length = 32 := by rw [bvs_len, (rootL_ok K hok.fs).len]
  have h41 := ones_lt hok.le
  have hln := hok.len
  conv=>whnf
  intro b4
  conv=>whnf
  refine StoreG.at rfl (Upd.whole rfl (two_one hfv.one)) ?_
  conv=>whnf
  refine CondG.ndec (fun h => absurd rfl h) (fun _ => ?_)
  conv=>whnf
  refine LoadNG.at (vs := [.int .i64 (logQ find R).1.1.n, fv]) rfl .all ?_
  conv=>whnf
  refine CallG.pure (rlroot_spec K hk _ (.right hC' _) (.right hB _) (logQ find R).1.1.n fv (logQ find R).1.1.fs hok.fs (by omega) (.left (.tl (own_rd hfv (digs_len9 hok.fs))) F)) ?_
  rintro _ _ ⟨rfl, rfl⟩
  conv=>whnf
  refine StoreG.at hz (.tl (.tl (.tl (Upd.whole (by rw [hz]; rfl) (bvs_one _))))) ?_
  conv=>whnf
  refine LoadNG.at (vs := bvs (rootL K (logQ find R).1.1.fs)) hz (.tl (.tl (.tl .all))) ?_
  conv=>whnf
  exact ⟨_, Ent.sel (T := []) (A := [_, _, _, _]) [2] rfl, rfl, rfl⟩
theorem oadd9_q (F : List HP) (hC' : CelN F 3 0 (wvs K)) (hB : CelN F 2 0 (wvs ivW)) (s : Nat) (R : RSt) (f : LeafD) (hf : f.wf) (hto : ∀ b ∈ f.to, b < 256) (hwk : wOk f.amt) (hd : DocF F hv nv part find) (hl : Lim R 2) :
 SpecF Tryz.prog 17 [.pointer (some ⟨s, 0, none⟩), .agg ⟨f.cells⟩] F [refR 73 s hv part nv R] (fun r L => r = .tuple #[.int .i64 (addQ find K R f).1.1, .int .i64 (addQ find K R f).1.2] ∧ L = [refR 73 s hv part nv (addQ find K R f).2]) := by
 have hok := logQ_ok (R := R) (hl.get hd.1 oK).2
 have hl1 : Lim (logQ find R).2 1 := (hl.get hd.1 oK).1
 refine fun17.spec rfl ?_
 unfold addQ
 conv=>whnf
 intro b3
 (conv=>whnf);refine .ff ?_;(conv=>whnf)
 refine LoadG.at (v := .int .i64 f.idx) (.here rfl) ?_
 conv=>whnf
 refine CondG.ndec (fun h1 => ?_) (fun h1 => ?_)
 ·rw [if_pos (.inl h1)]
  (conv=>whnf);refine .tt ?_;(conv=>whnf);refine .tt ?_;(conv=>whnf);refine .tt ?_;(conv=>whnf);refine .tt ?_;(conv=>whnf)
  exact ⟨_, Ent.drop _, rfl, rfl⟩
 conv=>whnf
 refine LoadNG.at (vs := f.cells) (LeafD.cells_len hf) .all ?_
 (conv=>whnf);refine .ff ?_;(conv=>whnf)
 refine CallG.pure (rmay_spec _ f hf) ?_
 rintro _ _ ⟨rfl, rfl⟩
 (conv=>whnf);refine .ff ?_;(conv=>whnf);refine .ff ?_;(conv=>whnf)
 refine CondG.ndec (fun h2 => ?_) (fun h2 => ?_)
 ·rw [if_pos (.inr h2)]
  conv=>whnf
  exact ⟨_, Ent.drop _, rfl, rfl⟩
 rw [if_neg (by rintro (h | h); exact h h1; exact h h2)]
 conv=>whnf
 refine CallG.of (pre := [refR 73 s hv part nv R]) (rest := [cel b3 45 f.cells]) (asked_q _ s R (hd.left _) (hl.mono (by decide))) (Ent.perm (.swap _ _ _)) ?_
 unfold addB
 generalize hQ : logQ find R = Q at hok hl1 ⊢
 rintro _ _ (⟨h3, rfl, rfl⟩ | ⟨h3, fv, hfv, rfl, rfl⟩)
 ·rw [if_pos h3]
  conv=>whnf
  intro b6
  conv=>whnf
  refine StoreG.at rfl (Upd.whole rfl (by simp [Value.oneCell'])) ?_
  conv=>whnf
  refine CondG.ndec (fun _ => ?_) (fun h => absurd h h3)
  conv=>whnf
  exact ⟨_, Ent.sel (T := []) (A := [_, _, _]) [1] rfl, rfl, rfl⟩
 rw [if_neg (fun h => h h3)]
 have hle := hok.le
 conv=>whnf
 intro b6
 conv=>whnf
 refine StoreG.at rfl (Upd.whole rfl (two_one hfv.one)) ?_
 conv=>whnf
 refine CondG.ndec (fun h => absurd rfl h) (fun _ => ?_)
 conv=>whnf
 refine LoadG.at (v := .int .i64 Q.1.1.n) (.here rfl) ?_
 conv=>whnf
 refine CondG.dec (fun h4 => ?_) (fun h4 => ?_)
 ·rw [if_pos (by omega)]
  conv=>whnf
  exact ⟨_, Ent.sel (T := []) (A := [_, _, _, _]) [2] rfl, rfl, rfl⟩
 rw [if_neg (by omega)]
 unfold addC
 have hm : ({ f with idx := (Q.1.1.n : Int) } : LeafD).may := ⟨⟨by show (0 : Int) ≤ (Q.1.1.n : Nat); omega, by show ((Q.1.1.n : Nat) : Int) < _; omega⟩, h2.2⟩
 have hw : ({ f with idx := (Q.1.1.n : Int) } : LeafD).wf := ⟨hf.to, hf.amt⟩
 have hwk' : wOk ({ f with idx := (Q.1.1.n : Int) } : LeafD).amt := hwk
 have hby : ∀ b ∈ ({ f with idx := (Q.1.1.n : Int) } : LeafD).bytes, b < 256 := bytes_lt hto
 have hbl := LeafD.bytes_len _ hw
 have hset : f.cells.set (0 + 0) (.int .i64 Q.1.1.n) = ({ f with idx := (Q.1.1.n : Int) } : LeafD).cells := rfl
 generalize ({ f with idx := (Q.1.1.n : Int) } : LeafD) = f' at hm hw hwk' hby hbl hset ⊢
 conv=>whnf
 refine LoadG.at (v := .int .i64 Q.1.1.n) (.here rfl) ?_
 conv=>whnf
 refine StoreG.at rfl (.tl (.tl (.tl (.here (by rw [LeafD.cells_len hf]; decide) rfl)))) ?_
 rw [hset]
 have hI : RdS [cel b6 111 [.int .i64 Q.1.1.n, fv], own 32 fv Q.1.1.fs.length (digsC Q.1.1.fs), refR 73 s hv part nv Q.2, cel b3 45 f'.cells] fv Q.1.1.fs.length (digsC Q.1.1.fs) := .tl (own_rd hfv (digs_len9 hok.fs))
 have hok' := addL9_ok (K := K) hok (by omega) f'.bytes
 have hn0 : (addL9 K Q.1.1 f'.bytes).n ≠ 0 := by rw [addL9_n]; omega
 have hvb : ∀ b ∈ valueB (addL9 K Q.1.1 f'.bytes), b < 256 := valueB_bytes hok'.fs
 conv=>whnf
 refine DrawG.mk 9 [cel b6 111 [.int .i64 Q.1.1.n, fv], own 32 fv Q.1.1.fs.length (digsC Q.1.1.fs), refR 73 s hv part nv Q.2, cel b3 45 f'.cells] [] (Ent.refl _) ?_
 conv=>whnf
 refine .take 0 ?_
 conv=>whnf
 refine ⟨rfl, ?_⟩
 conv=>whnf
 refine LoadNG.at (vs := [.int .i64 Q.1.1.n, fv]) rfl .all ?_
 conv=>whnf
 refine .take 1 ?_
 conv=>whnf
 refine ⟨rfl, ?_⟩
 conv=>whnf
 refine LoadNG.at (vs := f'.cells) (LeafD.cells_len hw) (.tl (.tl (.tl .all))) ?_
 conv=>whnf
 refine .all ?_
 conv=>whnf
 refine ⟨by decide, ?_⟩
 conv=>whnf
 refine ⟨?_, ?_⟩
 ·conv=>whnf
  refine CallG.pure (form_of _ f' hw hm hwk') ?_
  rintro r _ ⟨hr, rfl⟩
  conv=>whnf
  refine .all ?_
  conv=>whnf
  refine ⟨by decide, ?_⟩
  conv=>whnf
  refine ⟨?_, ?_⟩
  ·conv=>whnf
   refine CallG.pure (rladd_spec K hk _ (.right (.right hC' _) _) (.right (.right hB _) _) fv Q.1.1 hok (by omega) (.right (.left hI F) _) r f'.bytes (.left (by first | exact own_rd hr (by rw [bvs_len, Nat.mul_one]) | exact .tl (own_rd hr (by rw [bvs_len, Nat.mul_one]))) _) (by omega) hby) ?_
   rintro _ _ ⟨fv', hfv', rfl, rfl⟩
   generalize addL9 K Q.1.1 f'.bytes = l' at hfv' hok' hn0 hvb ⊢
   conv=>whnf
   refine .take 4 ?_
   conv=>whnf
   refine ⟨rfl, ?_⟩
   conv=>whnf
   refine .take 5 ?_
   conv=>whnf
   refine ⟨rfl, ?_⟩
   conv=>whnf
   refine .take 6 ?_
   conv=>whnf
   refine ⟨rfl, ?_⟩
   conv=>whnf
   conv=>whnf
   refine .all ?_
   conv=>whnf
   refine ⟨by decide, ?_⟩
   conv=>whnf
   intro b8
   conv=>whnf
   refine .all ?_
   conv=>whnf
   refine ⟨by decide, ?_⟩
   conv=>whnf
   refine StoreG.at rfl (by first | exact Upd.whole rfl (two_one hfv'.one) | exact .tl (Upd.whole rfl (two_one hfv'.one)) | exact .tl (.tl (Upd.whole rfl (two_one hfv'.one)))) ?_
   conv=>whnf
   refine .all ?_
   conv=>whnf
   refine ⟨by decide, ?_⟩
   conv=>whnf
   refine ⟨rfl, ?_⟩
   conv=>whnf
   refine ⟨rfl, ?_⟩
   conv=>whnf
   refine LoadNG.at (vs := [.int .i64 l'.n, fv']) rfl (by first | exact .all | exact .tl .all | exact .tl (.tl .all)) ?_
   conv=>whnf
   refine CallG.pure (rvalue_spec _ l' hok' hn0 fv' (by first | exact .left (own_rd hfv' (digs_len9 hok'.fs)) _ | exact .left (.tl (own_rd hfv' (digs_len9 hok'.fs))) _)) ?_
   rintro r2 _ ⟨hr2, rfl⟩
   conv=>whnf
   refine CallG.of (pre := [refR 73 s hv part nv Q.2]) (rest := [own 1 r2 (valueB l').length (bvs (valueB l'))]) (put7_p _ s Q.2 oK r2 (valueB l') (hd.left _) (.left (own_rd hr2 (by rw [bvs_len, Nat.mul_one])) _) hl1) (Ent.sel (T := []) (A := [_, _, _, _, _, _, _, _]) [6, 0] rfl) ?_
   rintro _ _ ⟨rfl, rfl⟩
   generalize ptQ find Q.2 oK (valueB l') = p
   conv=>whnf
   refine CondG.ndec (fun h5 => ?_) (fun h5 => ?_)
   ·rw [if_pos h5]
    conv=>whnf
    exact ⟨_, Ent.sel (T := []) (A := [_, _]) [0] rfl, rfl, rfl⟩
   rw [if_neg (fun h => h h5)]
   conv=>whnf
   exact ⟨_, Ent.sel (T := []) (A := [_, _]) [0] rfl, rfl, rfl⟩
  ·conv=>whnf
   intro b8
   conv=>whnf
   refine .all ?_
   conv=>whnf
   refine ⟨by decide, ?_⟩
   conv=>whnf
   refine CallG.pure (rladd_spec K hk _ (.right (.right hC' _) _) (.right (.right hB _) _) fv Q.1.1 hok (by omega) (.right (.left hI F) _) r f'.bytes (.left (by first | exact own_rd hr (by rw [bvs_len, Nat.mul_one]) | exact .tl (own_rd hr (by rw [bvs_len, Nat.mul_one]))) _) (by omega) hby) ?_
   rintro _ _ ⟨fv', hfv', rfl, rfl⟩
   generalize addL9 K Q.1.1 f'.bytes = l' at hfv' hok' hn0 hvb ⊢
   conv=>whnf
   refine .take 4 ?_
   conv=>whnf
   refine ⟨rfl, ?_⟩
   conv=>whnf
   refine .take 5 ?_
   conv=>whnf
   refine ⟨rfl, ?_⟩
   conv=>whnf
   refine .take 6 ?_
   conv=>whnf
   refine ⟨rfl, ?_⟩
   conv=>whnf
   conv=>whnf
   refine .all ?_
   conv=>whnf
   refine ⟨by decide, ?_⟩
   conv=>whnf
   refine StoreG.at rfl (by first | exact Upd.whole rfl (two_one hfv'.one) | exact .tl (Upd.whole rfl (two_one hfv'.one)) | exact .tl (.tl (Upd.whole rfl (two_one hfv'.one)))) ?_
   conv=>whnf
   refine .all ?_
   conv=>whnf
   refine ⟨by decide, ?_⟩
   conv=>whnf
   refine ⟨rfl, ?_⟩
   conv=>whnf
   refine ⟨rfl, ?_⟩
   conv=>whnf
   refine LoadNG.at (vs := [.int .i64 l'.n, fv']) rfl (by first | exact .all | exact .tl .all | exact .tl (.tl .all)) ?_
   conv=>whnf
   refine CallG.pure (rvalue_spec _ l' hok' hn0 fv' (by first | exact .left (own_rd hfv' (digs_len9 hok'.fs)) _ | exact .left (.tl (own_rd hfv' (digs_len9 hok'.fs))) _)) ?_
   rintro r2 _ ⟨hr2, rfl⟩
   conv=>whnf
   refine CallG.of (pre := [refR 73 s hv part nv Q.2]) (rest := [own 1 r2 (valueB l').length (bvs (valueB l'))]) (put7_p _ s Q.2 oK r2 (valueB l') (hd.left _) (.left (own_rd hr2 (by rw [bvs_len, Nat.mul_one])) _) hl1) (Ent.sel (T := []) (A := [_, _, _, _, _, _, _, _]) [6, 0] rfl) ?_
   rintro _ _ ⟨rfl, rfl⟩
   generalize ptQ find Q.2 oK (valueB l') = p
   conv=>whnf
   refine CondG.ndec (fun h5 => ?_) (fun h5 => ?_)
   ·rw [if_pos h5]
    conv=>whnf
    exact ⟨_, Ent.sel (T := []) (A := [_, _]) [0] rfl, rfl, rfl⟩
   rw [if_neg (fun h => h h5)]
   conv=>whnf
   exact ⟨_, Ent.sel (T := []) (A := [_, _]) [0] rfl, rfl, rfl⟩
 ·conv=>whnf
  intro b8
  conv=>whnf
  refine .all ?_
  conv=>whnf
  refine ⟨by decide, ?_⟩
  conv=>whnf
  refine CallG.pure (form_of _ f' hw hm hwk') ?_
  rintro r _ ⟨hr, rfl⟩
  conv=>whnf
  refine .all ?_
  conv=>whnf
  refine ⟨by decide, ?_⟩
  conv=>whnf
  refine CallG.pure (rladd_spec K hk _ (.right (.right hC' _) _) (.right (.right hB _) _) fv Q.1.1 hok (by omega) (.right (.left hI F) _) r f'.bytes (.left (by first | exact own_rd hr (by rw [bvs_len, Nat.mul_one]) | exact .tl (own_rd hr (by rw [bvs_len, Nat.mul_one]))) _) (by omega) hby) ?_
  rintro _ _ ⟨fv', hfv', rfl, rfl⟩
  generalize addL9 K Q.1.1 f'.bytes = l' at hfv' hok' hn0 hvb ⊢
  conv=>whnf
  refine .take 4 ?_
  conv=>whnf
  refine ⟨rfl, ?_⟩
  conv=>whnf
  refine .take 5 ?_
  conv=>whnf
  refine ⟨rfl, ?_⟩
  conv=>whnf
  refine .take 6 ?_
  conv=>whnf
  refine ⟨rfl, ?_⟩
  conv=>whnf
  conv=>whnf
  refine .all ?_
  conv=>whnf
  refine ⟨by decide, ?_⟩
  conv=>whnf
  refine StoreG.at rfl (by first | exact Upd.whole rfl (two_one hfv'.one) | exact .tl (Upd.whole rfl (two_one hfv'.one)) | exact .tl (.tl (Upd.whole rfl (two_one hfv'.one)))) ?_
  conv=>whnf
  refine .all ?_
  conv=>whnf
  refine ⟨by decide, ?_⟩
  conv=>whnf
  refine ⟨rfl, ?_⟩
  conv=>whnf
  refine ⟨rfl, ?_⟩
  conv=>whnf
  refine LoadNG.at (vs := [.int .i64 l'.n, fv']) rfl (by first | exact .all | exact .tl .all | exact .tl (.tl .all)) ?_
  conv=>whnf
  refine CallG.pure (rvalue_spec _ l' hok' hn0 fv' (by first | exact .left (own_rd hfv' (digs_len9 hok'.fs)) _ | exact .left (.tl (own_rd hfv' (digs_len9 hok'.fs))) _)) ?_
  rintro r2 _ ⟨hr2, rfl⟩
  conv=>whnf
  refine CallG.of (pre := [refR 73 s hv part nv Q.2]) (rest := [own 1 r2 (valueB l').length (bvs (valueB l'))]) (put7_p _ s Q.2 oK r2 (valueB l') (hd.left _) (.left (own_rd hr2 (by rw [bvs_len, Nat.mul_one])) _) hl1) (Ent.sel (T := []) (A := [_, _, _, _, _, _, _, _]) [6, 0] rfl) ?_
  rintro _ _ ⟨rfl, rfl⟩
  generalize ptQ find Q.2 oK (valueB l') = p
  conv=>whnf
  refine CondG.ndec (fun h5 => ?_) (fun h5 => ?_)
  ·rw [if_pos h5]
   conv=>whnf
   exact ⟨_, Ent.sel (T := []) (A := [_, _]) [0] rfl, rfl, rfl⟩
  rw [if_neg (fun h => h h5)]
  conv=>whnf
  exact ⟨_, Ent.sel (T := []) (A := [_, _]) [0] rfl, rfl, rfl⟩
end
end Go.Proofs.YtmfonkklmndhjaaGreatDoor
