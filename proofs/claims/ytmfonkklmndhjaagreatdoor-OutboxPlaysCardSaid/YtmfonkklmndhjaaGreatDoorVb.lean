import Derived.Test.YtmfonkklmndhjaaGreatDoorVa
import Derived.Test.YtmfonkklmndhjaaGreatDoorOb
import Derived.Test.YtmfonkklmndhjaaGreatDoorMz
namespace Go.Proofs.YtmfonkklmndhjaaGreatDoor
open Go Go.Sl
section
variable {find : SrcF}
theorem oask_q (F : List HP) (s : Nat) (src : Value) (R : RSt) (hs : SrcG Tryz.prog F src find) (hb : ∀ b ∈ (gtQ find R oK).1.1, b < 256) :
 SpecF Tryz.prog 37 [.pointer (some ⟨s, 0, none⟩)] F [stR 70 s src R] (fun r L => ((logQ find R).1.2 ≠ 0 ∧ r = .tuple #[.agg ⟨[.pointer none]⟩, .int .i64 (logQ find R).1.2] ∧ L = [stR 70 s src (logQ find R).2]) ∨
  ((logQ find R).1.2 = 0 ∧ ∃ lv fv, SlV fv (logQ find R).1.1.fs.length ∧ r = .tuple #[.agg ⟨[.pointer (some ⟨lv, 0, none⟩)]⟩, .int .i64 0] ∧ L = logP lv fv (logQ find R).1.1 ++ [stR 70 s src (logQ find R).2])) := by
 refine fun37.spec rfl ?_
 conv=>whnf
 intro b2
 (conv=>whnf);refine .ff ?_;(conv=>whnf)
 refine CallG.of (pre := [stR 70 s src R]) (rest := [cel b2 103 [.pointer none]]) ((get_p _ s src R oK (hs.left _)).also (φ := (gtQ find R oK).1.1.length ≤ 4096) fun v L h => by
  obtain ⟨x, _, _, rfl⟩ := h
  exact Gives.cons _ (st_len (gtQ_val find R oK))) (Ent.perm (List.Perm.swap _ _ _)) ?_
 rintro _ _ ⟨⟨x, hx, rfl, rfl⟩, hlen⟩
 obtain ⟨g, hg⟩ : ∃ g, g = gtQ find R oK := ⟨_, rfl⟩
 have ha : logQ find R = logOf g := by rw [hg]; rfl
 rw [ha]
 rw [← hg] at hx hb hlen ⊢
 conv=>whnf
 refine CondG.ndec (fun he => ?_) (fun he => ?_)
 ·have e1 : logOf g = ((log0, g.1.2), g.2) := by unfold logOf; rw [if_pos he]
  rw [e1]
  conv=>whnf
  refine BuildG.of rfl ?_
  conv=>whnf
  refine StoreG.at rfl (.tl (.tl (.here (by simp) rfl))) ?_
  conv=>whnf
  refine LoadNG.at (vs := [.pointer none]) rfl (.tl (.tl .all)) ?_
  conv=>whnf
  exact ⟨_, Ent.sel (T := []) (A := [_, _, _]) [1] rfl, .inl ⟨he, rfl, rfl⟩⟩
 have e1 : logOf g = (askR g.1.1, g.2) := by unfold logOf; rw [if_neg (fun h => h he)]
 rw [e1]
 obtain ⟨⟨bs, ge⟩, R1⟩ := g
 simp only at hx hb hlen he e1 ⊢
 conv=>whnf
 refine LenG.sl hx ?_
 conv=>whnf
 refine CondG.dec (fun h1 => ?_) (fun h1 => ?_)
 ·obtain rfl : bs = [] := List.eq_nil_of_length_eq_zero (by omega)
  have e2 : askR [] = (log0, 0) := rfl
  rw [e2]
  conv=>whnf
  refine CallG.pure (tnew_spec _) ?_
  rintro _ _ ⟨lv, rfl, rfl⟩
  conv=>whnf
  refine BuildG.of (cs := [.pointer (some ⟨lv, 0, none⟩)]) rfl ?_
  conv=>whnf
  refine StoreG.at rfl (.tl (.tl (.tl (.tl (.here (by simp) rfl))))) ?_
  conv=>whnf
  refine LoadNG.at (vs := [.pointer (some ⟨lv, 0, none⟩)]) rfl (.tl (.tl (.tl (.tl .all)))) ?_
  conv=>whnf
  exact ⟨_, Ent.sel (T := []) (A := [_, _, _, _, _]) [0, 1, 3] rfl, .inr ⟨rfl, lv, _, .inl ⟨rfl, rfl⟩, rfl, rfl⟩⟩
 obtain ⟨ax, cx, rfl, hcx⟩ : ∃ a c, x = .slice a bs.length c ∧ bs.length ≤ c := by
  rcases hx with ⟨rfl, h⟩ | ⟨g, c, rfl, h⟩
  ·exact ⟨none, 0, by rw [h], by omega⟩
  ·exact ⟨_, _, rfl, h⟩
 have hrd : RdS (own 1 (.slice ax bs.length cx) bs.length (bvs bs) :: stR 70 s src R1 :: [cel b2 103 [.pointer none]]) (.slice ax bs.length cx) bs.length (bvs bs) := own_rd hx (by rw [bvs_len, Nat.mul_one])
 have hne : bs ≠ [] := fun e => h1 (by rw [e]; rfl)
 have hbad : (bs.length % 32 ≠ 8 ∨ bs.getD 0 0 ≠ 0 ∨ bs.getD 1 0 ≠ 0) → askR bs = (log0, 75) := fun h => by unfold askR; rw [if_neg hne, if_pos h]
 conv=>whnf
 refine LenG.sl hx ?_
 conv=>whnf
 refine SideG.of (by decide) ?_
 rw [show ((bs.length : Nat) : Int).tmod 32 = ((bs.length % 32 : Nat) : Int) from rfl]
 conv=>whnf
 refine CondG.ndec (fun h2 => ?_) (fun h2 => ?_)
 ·rw [hbad (.inl (by omega))]
  (conv=>whnf);refine .tt ?_;(conv=>whnf);refine .tt ?_;(conv=>whnf);refine .tt ?_;(conv=>whnf);refine .tt ?_;(conv=>whnf);refine .tt ?_;(conv=>whnf);refine .tt ?_;(conv=>whnf);refine .tt ?_;(conv=>whnf);refine .tt ?_;(conv=>whnf);refine .tt ?_;(conv=>whnf);refine .tt ?_;(conv=>whnf)
  refine BuildG.of rfl ?_
  conv=>whnf
  refine StoreG.at rfl (.tl (.tl (.here (by simp) rfl))) ?_
  conv=>whnf
  refine LoadNG.at (vs := [.pointer none]) rfl (.tl (.tl .all)) ?_
  conv=>whnf
  exact ⟨_, Ent.sel (T := []) (A := [_, _, _]) [1] rfl, .inl ⟨by decide, rfl, rfl⟩⟩
 have hl8 : 8 ≤ bs.length := by omega
 (conv=>whnf);refine .ff ?_;(conv=>whnf)
 refine IdxG.rd hrd (by omega) fun c0 o0 hc0 => ?_
 (conv=>whnf);refine .ff ?_;(conv=>whnf)
 refine LoadG.at (v := bv bs[0]) (hc0.one (i := 0) (bvs_get (by omega))) ?_
 (conv=>whnf);refine .ff ?_;(conv=>whnf);refine .ff ?_;(conv=>whnf)
 refine CondG.ndec (fun h3 => ?_) (fun h3 => ?_)
 ·rw [hbad (.inr (.inl (by rw [getD_get (by omega)]; omega)))]
  (conv=>whnf);refine .tt ?_;(conv=>whnf);refine .tt ?_;(conv=>whnf);refine .tt ?_;(conv=>whnf);refine .tt ?_;(conv=>whnf);refine .tt ?_;(conv=>whnf)
  refine BuildG.of rfl ?_
  conv=>whnf
  refine StoreG.at rfl (.tl (.tl (.here (by simp) rfl))) ?_
  conv=>whnf
  refine LoadNG.at (vs := [.pointer none]) rfl (.tl (.tl .all)) ?_
  conv=>whnf
  exact ⟨_, Ent.sel (T := []) (A := [_, _, _]) [1] rfl, .inl ⟨by decide, rfl, rfl⟩⟩
 (conv=>whnf);refine .ff ?_;(conv=>whnf)
 refine IdxG.rd hrd (by omega) fun c1 o1 hc1 => ?_
 (conv=>whnf);refine .ff ?_;(conv=>whnf)
 refine LoadG.at (v := bv bs[1]) (hc1.one (i := 1) (bvs_get (by omega))) ?_
 (conv=>whnf);refine .ff ?_;(conv=>whnf);refine .ff ?_;(conv=>whnf)
 refine CondG.ndec (fun h4 => ?_) (fun h4 => ?_)
 ·rw [hbad (.inr (.inr (by rw [getD_get (by omega)]; omega)))]
  conv=>whnf
  refine BuildG.of rfl ?_
  conv=>whnf
  refine StoreG.at rfl (.tl (.tl (.here (by simp) rfl))) ?_
  conv=>whnf
  refine LoadNG.at (vs := [.pointer none]) rfl (.tl (.tl .all)) ?_
  conv=>whnf
  exact ⟨_, Ent.sel (T := []) (A := [_, _, _]) [1] rfl, .inl ⟨by decide, rfl, rfl⟩⟩
 have hz0 : bs.getD 0 0 = 0 := by rw [getD_get (by omega)]; omega
 have hz1 : bs.getD 1 0 = 0 := by rw [getD_get (by omega)]; omega
 conv=>whnf
 refine SlcG.lit ?_
 conv=>whnf
 refine SideG.of (by omega) ?_
 conv=>whnf
 refine SliceG.rd hrd (by omega) (by omega) (by omega) (by omega) fun v1 hv1 _ => ?_
 replace hv1 : RdS (own 1 (.slice ax bs.length cx) bs.length (bvs bs) :: stR 70 s src R1 :: [cel b2 103 [.pointer none]]) v1 8 (bvs (bs.take 8)) := by
  have e : ((bvs bs).drop ((0 : Int).toNat * 1)).take (((8 : Int).toNat - (0 : Int).toNat) * 1) = bvs (bs.take 8) := by simp [bvs]
  rw [e] at hv1
  exact hv1
 conv=>whnf
 refine LenG.rd hv1 ?_
 conv=>whnf
 refine LoopG.mk (fun mm e L => ∃ i, i ≤ 8 ∧ mm = 8 - i ∧ e = [(2, .pointer (some ⟨b2, 0, none⟩)), (4, .slice ax bs.length cx), (6, .int .i64 (numF (bs.take i))), (49, v1), (50, .int .i64 8), (51, .int .i64 (i : Nat))] ∧ L = own 1 (.slice ax bs.length cx) bs.length (bvs bs) :: stR 70 s src R1 :: [cel b2 103 [.pointer none]]) 8
  [(2, .pointer (some ⟨b2, 0, none⟩)), (4, .slice ax bs.length cx), (6, .int .i64 0), (49, v1), (50, .int .i64 8), (51, .int .i64 0)] _ ⟨rfl, rfl, rfl, rfl, rfl, rfl, trivial⟩ (Ent.refl _) ⟨0, by omega, rfl, rfl, rfl⟩ ?_
 rintro mm e L ⟨i, hi, rfl, rfl, rfl⟩
 conv=>whnf
 refine CondG.dec (fun h5 => ?_) (fun h5 => ?_)
 ·have hlt : i < bs.length := by omega
  conv=>whnf
  refine IdxG.rd hv1 (by omega) fun b o hc => ?_
  conv=>whnf
  refine LoadG.at (v := bv bs[i]) (hc.one (i := (i : Int).toNat * 1) (by
   have : (bs.take 8)[i]? = some bs[i] := by rw [List.getElem?_take_of_lt (by omega), List.getElem?_eq_getElem hlt]
   rw [Int.toNat_natCast, Nat.mul_one, bvs, List.getElem?_map, this]
   rfl)) ?_
  conv=>whnf
  refine SideG.of (by decide) ?_
  conv=>whnf
  refine ArithG.all ?_
  conv=>whnf
  refine ArithG.all ?_
  conv=>whnf
  refine ArithG.i64 (by omega) ?_
  conv=>whnf
  refine ⟨8 - (i + 1), [(2, .pointer (some ⟨b2, 0, none⟩)), (4, .slice ax bs.length cx), (6, .int .i64 (numF (bs.take (i + 1)))), (49, v1), (50, .int .i64 8), (51, .int .i64 ((i + 1 : Nat)))], _, by omega, ?_, Ent.refl _, i + 1, by omega, rfl, rfl, rfl⟩
  refine ⟨rfl, rfl, ?_, rfl, rfl, rfl, trivial⟩
  rw [numF_take bs i hlt]
  rfl
 obtain rfl : i = 8 := by omega
 obtain ⟨m, hm, hm56⟩ := num8 hb hl8 hz0 (i := 8) (by omega)
 have hmL : numL bs = m := by unfold numL; rw [hm]; rfl
 rw [hm]
 conv=>whnf
 refine SlcG.lit ?_
 conv=>whnf
 refine SideG.of (by omega) ?_
 conv=>whnf
 refine SliceG.rd hrd (by omega) (by omega) (by omega) (by omega) fun v2 hv2 _ => ?_
 replace hv2 : RdS (own 1 (.slice ax bs.length cx) bs.length (bvs bs) :: stR 70 s src R1 :: [cel b2 103 [.pointer none]]) v2 (bs.length - 8) (bvs (bs.drop 8)) := by
  have e : ((bvs bs).drop ((8 : Int).toNat * 1)).take ((((bs.length : Nat) : Int).toNat - (8 : Int).toNat) * 1) = bvs (bs.drop 8) := by
   show ((bvs bs).drop 8).take ((bs.length - 8) * 1) = _
   rw [Nat.mul_one, bvs, bvs, ← List.map_drop, List.take_of_length_le (by rw [List.length_map, List.length_drop]; exact Nat.le_refl _)]
  rw [e] at hv2
  exact hv2
 have hK : bs.length - 8 = 32 * ((bs.length - 8) / 32) := by omega
 generalize hKK : (bs.length - 8) / 32 = KK at hK
 conv=>whnf
 refine LoopG.mk (fun mm e L => ∃ k u fv, k ≤ KK ∧ mm = KK - k ∧ e = [(2, .pointer (some ⟨b2, 0, none⟩)), (4, u), (6, .int .i64 (m : Nat)), (9, fv)] ∧ SlV fv k ∧ RdS (own 1 (.slice ax bs.length cx) bs.length (bvs bs) :: stR 70 s src R1 :: [cel b2 103 [.pointer none]]) u (bs.length - 8 - 32 * k) (bvs (bs.drop (8 + 32 * k))) ∧ L = own 32 fv k (digsC (chunkF k (bs.drop 8))) :: own 1 (.slice ax bs.length cx) bs.length (bvs bs) :: stR 70 s src R1 :: [cel b2 103 [.pointer none]]) KK
  [(2, .pointer (some ⟨b2, 0, none⟩)), (4, v2), (6, .int .i64 (m : Nat)), (9, .slice none 0 0)] _ ⟨rfl, rfl, rfl, rfl, trivial⟩ (fun w G hs => Sat.own_nil (sz := 32) hs) ⟨0, v2, _, by omega, rfl, rfl, .inl ⟨rfl, rfl⟩, hv2, rfl⟩ ?_
 rintro mm e L ⟨k, u, fv, hkK, rfl, rfl, hfv, hu, rfl⟩
 conv=>whnf
 refine LenG.rd hu ?_
 conv=>whnf
 refine CondG.dec (fun h6 => ?_) (fun h6 => ?_)
 ·have hd32 : ((bs.drop (8 + 32 * k)).take 32).length = 32 := by rw [List.length_take, List.length_drop]; omega
  conv=>whnf
  refine SlcG.rd hu fun ua uc hue huc => ?_
  subst hue
  conv=>whnf
  refine SideG.of (by omega) ?_
  conv=>whnf
  refine SliceG.rd hu (by omega) (by omega) (by omega) (by omega) fun w1 hw1 _ => ?_
  replace hw1 : RdS (own 1 (.slice ax bs.length cx) bs.length (bvs bs) :: stR 70 s src R1 :: [cel b2 103 [.pointer none]]) w1 32 (bvs ((bs.drop (8 + 32 * k)).take 32)) := by
   have e : ((bvs (bs.drop (8 + 32 * k))).drop ((0 : Int).toNat * 1)).take (((32 : Int).toNat - (0 : Int).toNat) * 1) = bvs ((bs.drop (8 + 32 * k)).take 32) := by simp [bvs]
   rw [e] at hw1
   exact hw1
  conv=>whnf
  refine DoesG.arr (e := 5) (len := 32) (by kernel_rfl) (.left (.tl hw1) _) (by decide) (by decide) fun c2 o2 hc2 => ?_
  conv=>whnf
  refine LoadNG.atG (vs := bvs ((bs.drop (8 + 32 * k)).take 32)) (by rw [bvs_len, hd32]) hc2 ?_
  conv=>whnf
  refine BuildG.of (cs := bvs ((bs.drop (8 + 32 * k)).take 32)) (by simp [fillL, Value.cells, bvs_len, hd32]) ?_
  conv=>whnf
  intro b73
  conv=>whnf
  refine DoesG.ent (Ent.front 1 rfl) ?_
  refine app_own digsT 109 (m := 1) (ys := bvs ((bs.drop (8 + 32 * k)).take 32)) (.mk _ _ _ _ _ (by decide) (.tl (.left .all _))) (by rw [bvs_len, hd32]) (bvs_one _) (by simp only [maxLen]; omega) (by omega) fun fv' hfv' _ _ => ?_
  conv=>whnf
  refine SlcG.lit ?_
  conv=>whnf
  refine SideG.of (by omega) ?_
  conv=>whnf
  refine SliceG.rd hu (by omega) (by omega) (by omega) (by omega) fun u' hu' _ => ?_
  replace hu' : RdS (own 1 (.slice ax bs.length cx) bs.length (bvs bs) :: stR 70 s src R1 :: [cel b2 103 [.pointer none]]) u' (bs.length - 8 - 32 * (k + 1)) (bvs (bs.drop (8 + 32 * (k + 1)))) := by
   have e : ((bvs (bs.drop (8 + 32 * k))).drop ((32 : Int).toNat * 1)).take ((((bs.length - 8 - 32 * k : Nat) : Int).toNat - (32 : Int).toNat) * 1) = bvs (bs.drop (8 + 32 * (k + 1))) := by
    show ((bvs (bs.drop (8 + 32 * k))).drop 32).take ((bs.length - 8 - 32 * k - 32) * 1) = _
    rw [Nat.mul_one, bvs, bvs, ← List.map_drop, List.drop_drop, List.take_of_length_le (by rw [List.length_map, List.length_drop]; omega)]
    congr 1
   have e' : ((bs.length - 8 - 32 * k : Nat) : Int).toNat - (32 : Int).toNat = bs.length - 8 - 32 * (k + 1) := by
    show bs.length - 8 - 32 * k - 32 = _
    omega
   rw [e, e'] at hu'
   exact hu'
  have ec : digsC (chunkF k (bs.drop 8)) ++ bvs ((bs.drop (8 + 32 * k)).take 32) = digsC (chunkF (k + 1) (bs.drop 8)) := by
   rw [chunkF_snoc, List.drop_drop]
   simp [digsC]
  rw [ec]
  conv=>whnf
  exact ⟨KK - (k + 1), [(2, .pointer (some ⟨b2, 0, none⟩)), (4, u'), (6, .int .i64 (m : Nat)), (9, fv')], _, by omega, ⟨rfl, rfl, rfl, rfl, trivial⟩, Ent.sel (T := []) (A := [_, _, _, _, _]) [0, 2, 3, 4] rfl, k + 1, u', fv', by omega, rfl, rfl, hfv', hu', rfl⟩
 obtain rfl : k = KK := by omega
 have hcl := chunkF_len k (bs.drop 8)
 have hck : ∀ d ∈ chunkF k (bs.drop 8), Dg9 d := chunkF_ok k _ (by rw [List.length_drop]; omega) fun b h => hb b (List.mem_of_mem_drop h)
 have hrf : RdS (own 32 fv k (digsC (chunkF k (bs.drop 8))) :: own 1 (.slice ax bs.length cx) bs.length (bvs bs) :: stR 70 s src R1 :: [cel b2 103 [.pointer none]]) fv (chunkF k (bs.drop 8)).length (digsC (chunkF k (bs.drop 8))) := by
  rw [hcl]
  exact own_rd hfv (by rw [digs_len9 hck, hcl])
 have hR : askR bs = if 1099511627776 < m ∨ k ≠ ones m ∨ m = 0 then (log0, 75) else (⟨m, chunkF k (bs.drop 8)⟩, 0) := by
  unfold askR
  rw [if_neg hne, if_neg (by rw [hz0, hz1]; omega), hmL, hKK]
 rw [hR]
 generalize chunkF k (bs.drop 8) = cs at hcl hck hrf ⊢
 conv=>whnf
 refine CallG.pure (resume_spec _ m hm56 fv cs hck (.left hrf F)) ?_
 rintro _ _ (⟨h7, rfl, rfl⟩ | ⟨h7, h8, rfl, rfl⟩ | ⟨h7, h8, lv, fv', hfv', rfl, rfl⟩)
 ·rw [if_pos (.inl h7)]
  conv=>whnf
  refine CondG.ndec (fun _ => ?_) (fun h => absurd h (by decide))
  (conv=>whnf);refine .tt ?_;(conv=>whnf);refine .tt ?_;(conv=>whnf);refine .tt ?_;(conv=>whnf)
  refine BuildG.of rfl ?_
  conv=>whnf
  refine StoreG.at rfl (.tl (.tl (.tl (.here (by simp) rfl)))) ?_
  conv=>whnf
  refine LoadNG.at (vs := [.pointer none]) rfl (.tl (.tl (.tl .all))) ?_
  conv=>whnf
  exact ⟨_, Ent.sel (T := []) (A := [_, _, _, _]) [2] rfl, .inl ⟨by decide, rfl, rfl⟩⟩
 ·rw [if_pos (.inr (.inl (by omega)))]
  conv=>whnf
  refine CondG.ndec (fun _ => ?_) (fun h => absurd h (by decide))
  (conv=>whnf);refine .tt ?_;(conv=>whnf);refine .tt ?_;(conv=>whnf);refine .tt ?_;(conv=>whnf)
  refine BuildG.of rfl ?_
  conv=>whnf
  refine StoreG.at rfl (.tl (.tl (.tl (.here (by simp) rfl)))) ?_
  conv=>whnf
  refine LoadNG.at (vs := [.pointer none]) rfl (.tl (.tl (.tl .all))) ?_
  conv=>whnf
  exact ⟨_, Ent.sel (T := []) (A := [_, _, _, _]) [2] rfl, .inl ⟨by decide, rfl, rfl⟩⟩
 conv=>whnf
 refine CondG.ndec (fun h => absurd rfl h) (fun _ => ?_)
 (conv=>whnf);refine .ff ?_;(conv=>whnf);refine .ff ?_;(conv=>whnf)
 refine CondG.dec (fun h9 => ?_) (fun h9 => ?_)
 ·rw [if_pos (.inr (.inr (by omega)))]
  conv=>whnf
  refine BuildG.of rfl ?_
  conv=>whnf
  refine StoreG.at rfl (.tl (.tl (.tl (.tl (.tl (.here (by simp) rfl)))))) ?_
  conv=>whnf
  refine LoadNG.at (vs := [.pointer none]) rfl (.tl (.tl (.tl (.tl (.tl .all))))) ?_
  conv=>whnf
  exact ⟨_, Ent.sel (T := []) (A := [_, _, _, _, _, _]) [4] rfl, .inl ⟨by decide, rfl, rfl⟩⟩
 rw [if_neg (by omega)]
 conv=>whnf
 refine BuildG.of (cs := [.pointer (some ⟨lv, 0, none⟩)]) rfl ?_
 conv=>whnf
 refine StoreG.at rfl (.tl (.tl (.tl (.tl (.tl (.here (by simp) rfl)))))) ?_
 conv=>whnf
 refine LoadNG.at (vs := [.pointer (some ⟨lv, 0, none⟩)]) rfl (.tl (.tl (.tl (.tl (.tl .all))))) ?_
 conv=>whnf
 exact ⟨_, Ent.sel (T := []) (A := [_, _, _, _, _, _]) [0, 1, 4] rfl, .inr ⟨rfl, lv, fv', hfv', rfl, rfl⟩⟩
theorem be_take (n : Nat) {j : Nat} (h : j < 8) : (be n 8).take (j + 1) = (be n 8).take j ++ [n / 256 ^ (7 - j) % 256] := by
 have h1 := be_get n (k := 8) (i := j) h
 have hl : j < (be n 8).length := by rw [be_len]; exact h
 rw [List.take_succ_eq_append_getElem hl]
 rw [List.getElem?_eq_getElem hl] at h1
 rw [Option.some.inj h1]
theorem flat_take {fs : List (List Nat)} {k : Nat} (hk : k < fs.length) : (fs.take (k + 1)).flatten = (fs.take k).flatten ++ fs.getD k [] := by
 rw [List.take_succ_eq_append_getElem hk, List.flatten_append, List.getD_eq_getElem?_getD, List.getElem?_eq_getElem hk]
 simp
theorem ovalue_spec (F : List HP) (lv : Nat) (fv : Value) (l : LogD) (hl : l.ok) (h : CelN F lv 0 [.int .i64 l.n, fv]) (hv : RdS F fv l.fs.length (digsC l.fs)) :
 SpecF Tryz.prog 41 [.agg ⟨[.pointer (some ⟨lv, 0, none⟩)]⟩] F [] (fun r L => SlV r (valueB l).length ∧ L = [own 1 r (valueB l).length (bvs (valueB l))]) := by
 have hn := hl.le
 have h41 := ones_lt hl.le
 have hfl := hl.len
 refine fun41.spec rfl ?_
 conv=>whnf
 intro b1
 conv=>whnf
 refine LoopG.mk (fun mm e L => ∃ j v, j ≤ 8 ∧ mm = 8 - j ∧ e = [(1, .pointer (some ⟨b1, 0, none⟩)), (3, v), (4, .int .i64 (56 - 8 * (j : Int)))] ∧ SlV v j ∧ L = [own 1 v j (bvs ((be l.n 8).take j)), cel b1 103 [.pointer (some ⟨lv, 0, none⟩)]]) 8
  [(1, .pointer (some ⟨b1, 0, none⟩)), (3, .slice none 0 0), (4, .int .i64 56)] _ ⟨rfl, rfl, rfl, trivial⟩ (fun w G hs => Sat.own_nil (sz := 1) hs) ⟨0, _, by omega, rfl, rfl, .inl ⟨rfl, rfl⟩, rfl⟩ ?_
 rintro mm e L ⟨j, v, hj, rfl, rfl, hjv, rfl⟩
 conv=>whnf
 refine CondG.dec (fun h1 => ?_) (fun h1 => ?_)
 ·have hj8 : j < 8 := by omega
  conv=>whnf
  refine LoadG.at (v := .pointer (some ⟨lv, 0, none⟩)) (.tl (.here rfl)) ?_
  conv=>whnf
  refine CallG.pure (lsize_spec _ lv l.n fv (.right h _)) ?_
  rintro _ _ ⟨rfl, rfl⟩
  conv=>whnf
  refine SideG.of (by omega) ?_
  conv=>whnf
  refine ⟨?_⟩
  rw [show (56 - 8 * (j : Int)) = 8 * ((7 - j : Nat) : Int) by omega, show IntKind.i64.bits = 64 from rfl, shr_b l.n (7 - j) (by omega)]
  conv=>whnf
  refine BuildG.of (cs := [bv (l.n / 256 ^ (7 - j) % 256)]) rfl ?_
  conv=>whnf
  intro b18
  conv=>whnf
  refine DoesG.ent (Ent.front 1 rfl) ?_
  refine app_own bytesT 22 (m := 1) (ys := [bv (l.n / 256 ^ (7 - j) % 256)]) (.mk _ _ _ _ _ (by decide) (.tl (.left .all _))) rfl (by intro u hu; rw [List.mem_singleton.1 hu]; rfl) (by simp only [maxLen]; omega) (by omega) fun v' hv' _ _ => ?_
  conv=>whnf
  refine ArithG.i64 (by omega) ?_
  conv=>whnf
  refine ⟨8 - (j + 1), [(1, .pointer (some ⟨b1, 0, none⟩)), (3, v'), (4, .int .i64 (56 - 8 * ((j + 1 : Nat) : Int)))], _, by omega, ⟨rfl, rfl, ?_, trivial⟩, Ent.sel (T := []) (A := [_, _, _]) [0, 2] rfl, j + 1, v', by omega, rfl, rfl, hv', ?_⟩
  ·exact congrArg (fun z => some (Value.int .i64 z)) (by omega)
  ·rw [be_take l.n hj8]
   simp [bvs]
 obtain rfl : j = 8 := by omega
 rw [List.take_of_length_le (by rw [be_len]; omega)]
 conv=>whnf
 refine LoadG.at (v := .pointer (some ⟨lv, 0, none⟩)) (.tl (.here rfl)) ?_
 conv=>whnf
 refine CallG.pure (lfront_spec _ lv l.n fv l.fs (.right h _) hl.fs (by omega) (.right hv _)) ?_
 rintro gv _ ⟨hgv, rfl⟩
 conv=>whnf
 refine LenG.sl hgv ?_
 conv=>whnf
 refine LoopG.mk (fun mm e L => ∃ k v, k ≤ l.fs.length ∧ mm = l.fs.length - k ∧ e = [(3, v), (22, gv), (23, .int .i64 (l.fs.length : Nat)), (24, .int .i64 (k : Nat))] ∧ SlV v (8 + 32 * k) ∧ L = [own 1 v (8 + 32 * k) (bvs (be l.n 8 ++ (l.fs.take k).flatten)), own 32 gv l.fs.length (digsC l.fs)]) l.fs.length
  [(3, v), (22, gv), (23, .int .i64 (l.fs.length : Nat)), (24, .int .i64 0)] _ ⟨rfl, rfl, rfl, rfl, trivial⟩ (Ent.sel (T := []) (A := [_, _, _]) [1, 0] rfl) ⟨0, v, by omega, rfl, rfl, hjv, by simp⟩ ?_
 rintro mm e L ⟨k, v, hk, rfl, rfl, hkv, rfl⟩
 conv=>whnf
 refine CondG.dec (fun h2 => ?_) (fun h2 => ?_)
 ·have hD := getD_ok hl.fs (i := k) (by omega)
  have hzl : (bvs (l.fs.getD k [])).length = 32 := by rw [bvs_len, hD.len]
  have hrd : RdS [own 1 v (8 + 32 * k) (bvs (be l.n 8 ++ (l.fs.take k).flatten)), own 32 gv l.fs.length (digsC l.fs)] gv l.fs.length (digsC l.fs) := .tl (own_rd hgv (digs_len9 hl.fs))
  conv=>whnf
  refine IdxG.rd hrd (by omega) fun c o hc => ?_
  conv=>whnf
  refine LoadNG.at (vs := bvs (l.fs.getD k [])) hzl (hc.part (by rw [Int.toNat_natCast]; exact digs_at hl.fs (by omega))) ?_
  conv=>whnf
  intro b6
  conv=>whnf
  refine StoreG.at hzl (Upd.whole (by rw [hzl]; rfl) (bvs_one _)) ?_
  conv=>whnf
  refine SideG.of (by decide) ?_
  conv=>whnf
  refine SliceG.zero ?_
  conv=>whnf
  refine DoesG.ent (Ent.front 1 rfl) ?_
  refine app_own bytesT 22 (m := 32) (ys := bvs (l.fs.getD k [])) (by rw [← hzl]; exact .mk _ _ _ _ _ (Nat.le_refl _) (.tl (.left .all _))) hzl (bvs_one _) (by simp only [maxLen]; omega) (by omega) fun v' hv' _ _ => ?_
  conv=>whnf
  refine ArithG.i64 (by omega) ?_
  conv=>whnf
  refine ⟨l.fs.length - (k + 1), [(3, v'), (22, gv), (23, .int .i64 (l.fs.length : Nat)), (24, .int .i64 ((k + 1 : Nat) : Int))], _, by omega, ⟨rfl, rfl, rfl, rfl, trivial⟩, Ent.sel (T := []) (A := [_, _, _]) [0, 2] rfl, k + 1, v', by omega, rfl, rfl, hv', ?_⟩
  rw [flat_take (by omega), show 8 + 32 * k + 32 = 8 + 32 * (k + 1) by omega]
  simp [bvs]
 obtain rfl : k = l.fs.length := by omega
 have e1 : (valueB l).length = 8 + 32 * l.fs.length := by rw [valueB, List.length_append, be_len, flat_len9 hl.fs]
 rw [List.take_length]
 conv=>whnf
 rw [e1]
 exact ⟨_, Ent.sel (T := []) (A := [_, _]) [0] rfl, hkv, rfl⟩
section
theorem osize_q (F : List HP) (s : Nat) (src : Value) (R : RSt) (hs : SrcG Tryz.prog F src find) (hb : ∀ b ∈ (gtQ find R oK).1.1, b < 256) :
 SpecF Tryz.prog 18 [.pointer (some ⟨s, 0, none⟩)] F [stR 70 s src R] (fun r L => r = .tuple #[.int .i64 (sizeQ find R).1.1, .int .i64 (sizeQ find R).1.2] ∧ L = [stR 70 s src (sizeQ find R).2]) := by
 have herr := fun h => logQ_err (find := find) (R := R) h
 refine fun18.spec rfl ?_
 unfold sizeQ
 conv=>whnf
 refine CallG.of (pre := [stR 70 s src R]) (rest := []) (oask_q _ s src R (hs.left _) hb) (Ent.refl _) ?_
 rintro _ _ (⟨h1, rfl, rfl⟩ | ⟨h1, lv, fv, hfv, rfl, rfl⟩)
 ·rw [herr h1]
  generalize (logQ find R).1.2 = e at h1 ⊢
  conv=>whnf
  intro b4
  conv=>whnf
  refine StoreG.at rfl (.here (by simp) rfl) ?_
  conv=>whnf
  refine CondG.ndec (fun _ => ?_) (fun h => absurd h h1)
  conv=>whnf
  exact ⟨_, Ent.sel (T := []) (A := [_, _]) [1] rfl, rfl, rfl⟩
 ·rw [h1]
  conv=>whnf
  intro b4
  conv=>whnf
  refine StoreG.at rfl (.here (by simp) rfl) ?_
  conv=>whnf
  refine CondG.ndec (fun h => absurd rfl h) (fun _ => ?_)
  conv=>whnf
  refine LoadG.at (v := .pointer (some ⟨lv, 0, none⟩)) (.here rfl) ?_
  conv=>whnf
  refine CallG.pure (lsize_spec _ lv (logQ find R).1.1.n fv (.left (.tl .all) F)) ?_
  rintro _ _ ⟨rfl, rfl⟩
  conv=>whnf
  exact ⟨_, Ent.sel (T := []) (A := [_, _, _, _]) [3] rfl, rfl, rfl⟩
variable (K : List W32) (hk : K.length = 64)
include hk
theorem oroot_q (F : List HP) (hK : CelN F 4 0 (wvs K)) (s : Nat) (src : Value) (R : RSt) (hs : SrcG Tryz.prog F src find) (hb : ∀ b ∈ (gtQ find R oK).1.1, b < 256) :
 SpecF Tryz.prog 20 [.pointer (some ⟨s, 0, none⟩)] F [stR 70 s src R] (fun r L => r = .tuple #[.agg ⟨bvs (rootQ find K R).1.1⟩, .int .i64 (rootQ find K R).1.2] ∧ L = [stR 70 s src (rootQ find K R).2]) := by
 have hok := logQ_ok (R := R) hb
 refine fun20.spec rfl ?_
 unfold rootQ
 conv=>whnf
 intro b2
 conv=>whnf
 refine CallG.of (pre := [stR 70 s src R]) (rest := [cel b2 81 (bvs (List.replicate 32 0))]) (oask_q _ s src R (hs.left _) hb) (Ent.perm (.swap _ _ _)) ?_
 rintro _ _ (⟨h1, rfl, rfl⟩ | ⟨h1, lv, fv, hfv, rfl, rfl⟩)
 ·rw [if_pos h1]
  generalize (logQ find R).1.2 = e at h1 ⊢
  conv=>whnf
  intro b4
  conv=>whnf
  refine StoreG.at rfl (.here (by simp) rfl) ?_
  conv=>whnf
  refine CondG.ndec (fun _ => ?_) (fun h => absurd h h1)
  conv=>whnf
  refine BuildG.of (cs := bvs (List.replicate 32 0)) rfl ?_
  conv=>whnf
  refine StoreG.at rfl (.tl (.tl (Upd.whole rfl (bvs_one _)))) ?_
  conv=>whnf
  refine LoadNG.at (vs := bvs (List.replicate 32 0)) rfl (.tl (.tl .all)) ?_
  conv=>whnf
  exact ⟨_, Ent.sel (T := []) (A := [_, _, _]) [1] rfl, rfl, rfl⟩
 ·rw [if_neg (fun h => h h1)]
  have hz : (bvs (rootL K (logQ find R).1.1.fs)).length = 32 := by rw [bvs_len, (rootL_ok K hok.fs).len]
  have h41 := ones_lt hok.le
  have hln := hok.len
  conv=>whnf
  intro b4
  conv=>whnf
  refine StoreG.at rfl (.here (by simp) rfl) ?_
  conv=>whnf
  refine CondG.ndec (fun h => absurd rfl h) (fun _ => ?_)
  conv=>whnf
  refine LoadG.at (v := .pointer (some ⟨lv, 0, none⟩)) (.here rfl) ?_
  conv=>whnf
  refine CallG.pure (lroot_spec K hk _ (.right hK _) lv (logQ find R).1.1.n fv (logQ find R).1.1.fs (.left (.tl .all) F) hok.fs (by omega) (.left (.tl (.tl (own_rd hfv (digs_len9 hok.fs)))) F)) ?_
  rintro _ _ ⟨rfl, rfl⟩
  conv=>whnf
  refine StoreG.at hz (.tl (.tl (.tl (.tl (Upd.whole (by rw [hz]; rfl) (bvs_one _)))))) ?_
  conv=>whnf
  refine LoadNG.at (vs := bvs (rootL K (logQ find R).1.1.fs)) hz (.tl (.tl (.tl (.tl .all)))) ?_
  conv=>whnf
  exact ⟨_, Ent.sel (T := []) (A := [_, _, _, _, _]) [3] rfl, rfl, rfl⟩
theorem oadd_q (F : List HP) (hK : CelN F 4 0 (wvs K)) (hT : CelN F 1 0 (bvs Lib.deBruijn64tab)) (s : Nat) (src : Value) (R : RSt) (f : LeafD) (hf : f.wf) (hto : ∀ b ∈ f.to, b < 256) (hs : SrcG Tryz.prog F src find) (hb : ∀ b ∈ (gtQ find R oK).1.1, b < 256) (hst : R.steps.length ≤ 4398046511104) :
 SpecF Tryz.prog 16 [.pointer (some ⟨s, 0, none⟩), .agg ⟨f.cells⟩] F [stR 70 s src R] (fun r L => r = .tuple #[.int .i64 (addQ find K R f).1.1, .int .i64 (addQ find K R f).1.2] ∧ L = [stR 70 s src (addQ find K R f).2]) := by
 have hok := logQ_ok (R := R) hb
 have hstp : (logQ find R).2.steps = R.steps := gtQ_steps find R oK
 refine fun16.spec rfl ?_
 unfold addQ
 conv=>whnf
 intro b3
 (conv=>whnf);refine .ff ?_;(conv=>whnf)
 refine LoadG.at (v := .int .i64 f.idx) (.here rfl) ?_
 conv=>whnf
 refine CondG.ndec (fun h1 => ?_) (fun h1 => ?_)
 ·rw [if_pos (.inl h1)]
  (conv=>whnf);refine .tt ?_;(conv=>whnf);refine .tt ?_;(conv=>whnf);refine .tt ?_;(conv=>whnf);refine .tt ?_;(conv=>whnf)
  exact ⟨_, Ent.drop _, rfl, rfl⟩
 conv=>whnf
 refine LoadNG.at (vs := f.cells) (LeafD.cells_len hf) .all ?_
 (conv=>whnf);refine .ff ?_;(conv=>whnf)
 refine CallG.pure (may_spec _ f hf) ?_
 rintro _ _ ⟨rfl, rfl⟩
 (conv=>whnf);refine .ff ?_;(conv=>whnf);refine .ff ?_;(conv=>whnf)
 refine CondG.ndec (fun h2 => ?_) (fun h2 => ?_)
 ·rw [if_pos (.inr h2)]
  conv=>whnf
  exact ⟨_, Ent.drop _, rfl, rfl⟩
 rw [if_neg (by rintro (h | h); exact h h1; exact h h2)]
 conv=>whnf
 refine CallG.of (pre := [stR 70 s src R]) (rest := [cel b3 45 f.cells]) (oask_q _ s src R (hs.left _) hb) (Ent.perm (.swap _ _ _)) ?_
 unfold addB
 generalize hQ : logQ find R = Q at hok hstp ⊢
 rintro _ _ (⟨h3, rfl, rfl⟩ | ⟨h3, lv, fv, hfv, rfl, rfl⟩)
 ·rw [if_pos h3]
  conv=>whnf
  intro b6
  conv=>whnf
  refine StoreG.at rfl (.here (by simp) rfl) ?_
  conv=>whnf
  refine CondG.ndec (fun _ => ?_) (fun h => absurd h h3)
  conv=>whnf
  exact ⟨_, Ent.sel (T := []) (A := [_, _, _]) [1] rfl, rfl, rfl⟩
 rw [if_neg (fun h => h h3)]
 have hle := hok.le
 conv=>whnf
 intro b6
 conv=>whnf
 refine StoreG.at rfl (.here (by simp) rfl) ?_
 conv=>whnf
 refine CondG.ndec (fun h => absurd rfl h) (fun _ => ?_)
 conv=>whnf
 refine LoadG.at (v := .pointer (some ⟨lv, 0, none⟩)) (.here rfl) ?_
 conv=>whnf
 refine CallG.pure (lsize_spec _ lv Q.1.1.n fv (.left (.tl .all) F)) ?_
 rintro _ _ ⟨rfl, rfl⟩
 conv=>whnf
 refine CondG.dec (fun h4 => ?_) (fun h4 => ?_)
 ·rw [if_pos (by omega)]
  conv=>whnf
  exact ⟨_, Ent.sel (T := []) (A := [_, _, _, _, _]) [3] rfl, rfl, rfl⟩
 rw [if_neg (by omega)]
 unfold addC
 have hm : ({ f with idx := (Q.1.1.n : Int) } : LeafD).may := ⟨⟨by show (0 : Int) ≤ (Q.1.1.n : Nat); omega, by show ((Q.1.1.n : Nat) : Int) < _; omega⟩, h2.2⟩
 have hw : ({ f with idx := (Q.1.1.n : Int) } : LeafD).wf := ⟨hf.to, hf.amt⟩
 have hby : ∀ b ∈ ({ f with idx := (Q.1.1.n : Int) } : LeafD).bytes, b < 256 := bytes_lt hto
 have hbl := LeafD.bytes_len _ hw
 have hset : f.cells.set (0 + 0) (.int .i64 Q.1.1.n) = ({ f with idx := (Q.1.1.n : Int) } : LeafD).cells := rfl
 generalize ({ f with idx := (Q.1.1.n : Int) } : LeafD) = f' at hm hw hby hbl hset ⊢
 conv=>whnf
 refine LoadG.at (v := .pointer (some ⟨lv, 0, none⟩)) (.here rfl) ?_
 conv=>whnf
 refine CallG.pure (lsize_spec _ lv Q.1.1.n fv (.left (.tl .all) F)) ?_
 rintro _ _ ⟨rfl, rfl⟩
 conv=>whnf
 refine StoreG.at rfl (.tl (.tl (.tl (.tl (.here (by rw [LeafD.cells_len hf]; decide) rfl))))) ?_
 rw [hset]
 conv=>whnf
 refine LoadNG.at (vs := f'.cells) (LeafD.cells_len hw) (.tl (.tl (.tl (.tl .all)))) ?_
 conv=>whnf
 refine CallG.pure (bytes_spec _ f' hw) ?_
 rintro _ _ (⟨_, r, hr, rfl, rfl⟩ | ⟨h, _, _⟩)
 case inr => exact absurd hm h
 conv=>whnf
 refine CondG.ndec (fun h => absurd rfl h) (fun _ => ?_)
 conv=>whnf
 refine LoadG.at (v := .pointer (some ⟨lv, 0, none⟩)) (.tl (.here rfl)) ?_
 conv=>whnf
 refine CallG.of (pre := logP lv fv Q.1.1) (rest := [own 1 r f'.bytes.length (bvs f'.bytes), cel b6 103 [.pointer (some ⟨lv, 0, none⟩)], stR 70 s src Q.2, cel b3 45 f'.cells])
  (ladd_spec K hk _ (.right hK _) (.right hT _) lv fv Q.1.1 hok (by omega) hfv r f'.bytes (.left (own_rd hr (by rw [bvs_len, Nat.mul_one])) _) (by omega) hby) (Ent.sel (T := []) (A := [_, _, _, _, _, _]) [2, 3, 0, 1, 4, 5] rfl) ?_
 rintro _ _ ⟨fv', hfv', rfl⟩
 have hok' := addL9_ok (K := K) hok (by omega) f'.bytes
 have hvl : (valueB (addL9 K Q.1.1 f'.bytes)).length ≤ 4096 := by
  rw [valueB, List.length_append, be_len, flat_len9 hok'.fs, hok'.len]
  have := ones_lt hok'.le
  omega
 generalize addL9 K Q.1.1 f'.bytes = l' at hfv' hok' hvl ⊢
 conv=>whnf
 refine LoadNG.at (vs := [.pointer (some ⟨lv, 0, none⟩)]) rfl (.tl (.tl (.tl .all))) ?_
 conv=>whnf
 refine CallG.pure (ovalue_spec _ lv fv' l' hok' (.left .all _) (.left (.tl (own_rd hfv' (digs_len9 hok'.fs))) _)) ?_
 rintro r2 _ ⟨hr2, rfl⟩
 conv=>whnf
 refine CallG.of (pre := [stR 70 s src Q.2]) (rest := [own 1 r2 (valueB l').length (bvs (valueB l')), cel b3 45 f'.cells]) (put_p _ s src Q.2 oK r2 (valueB l') (hs.left _) (.left (own_rd hr2 (by rw [bvs_len, Nat.mul_one])) _) (by rw [hstp]; exact hst)) (Ent.sel (T := []) (A := [_, _, _, _, _, _, _]) [5, 0, 6] rfl) ?_
 rintro _ _ ⟨rfl, rfl⟩
 generalize ptQ find Q.2 oK (valueB l') = p
 conv=>whnf
 refine CondG.ndec (fun h5 => ?_) (fun h5 => ?_)
 ·rw [if_pos h5]
  conv=>whnf
  exact ⟨_, Ent.sel (T := []) (A := [_, _, _]) [0] rfl, rfl, rfl⟩
 rw [if_neg (fun h => h h5)]
 have hi : f'.cells[0 + 0]? = some (.int .i64 Q.1.1.n) := by rw [← hset]; rfl
 conv=>whnf
 refine LoadG.at (v := .int .i64 Q.1.1.n) (.tl (.tl (.here hi))) ?_
 conv=>whnf
 exact ⟨_, Ent.sel (T := []) (A := [_, _, _]) [0] rfl, rfl, rfl⟩
end
end
end Go.Proofs.YtmfonkklmndhjaaGreatDoor
