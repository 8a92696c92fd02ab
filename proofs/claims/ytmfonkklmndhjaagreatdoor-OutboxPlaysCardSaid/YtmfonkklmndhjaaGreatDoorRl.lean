import Derived.Test.YtmfonkklmndhjaaGreatDoorSd
import Derived.Test.YtmfonkklmndhjaaGreatDoorZLv
import Derived.Test.YtmfonkklmndhjaaGreatDoorZOl
namespace Go.Proofs.YtmfonkklmndhjaaGreatDoor
open Go Go.Sl
theorem turned_spec (F : List HP) (x : W32) (n : Nat) (hn : n ≤ 32) : SpecF Tryz.prog 129 [wv x, .int .u32 n] F [] (fun v L => v = wv (rotl x (32 - n)) ∧ L = []) := by
 have e1 : min ((n : Int)).toNat 32 = n := by omega
 have e2 : min (32 - (n : Int)).toNat 32 = 32 - n := by omega
 refine fun129.spec rfl ?_
 conv=>whnf
 refine SideG.of (by omega) ?_
 conv=>whnf
 refine ArithG.u32 (by omega) ?_
 conv=>whnf
 refine SideG.of (by omega) ?_
 refine ArithG.shl x (32 - n) e2 ?_
 conv=>whnf
 rw [w32_shr' x n e1]
 refine ret_here ⟨?_, rfl⟩
 show Value.int .u32 _ = _
 rw [w32_or, BitVec.or_comm]
 unfold rotl
 rw [show 32 - (32 - n) = n by omega]
 rfl
def wAt (p : List Nat) (a : Nat) : W32 := ((BitVec.ofNat 32 (p.getD a 0) <<< 24 ||| BitVec.ofNat 32 (p.getD (a + 1) 0) <<< 16) ||| BitVec.ofNat 32 (p.getD (a + 2) 0) <<< 8) ||| BitVec.ofNat 32 (p.getD (a + 3) 0)
theorem word_spec (F : List HP) (v : Value) (p : List Nat) (a : Nat) (hv : RdS F v p.length (bvs p)) (ha : a + 3 < p.length) (hl : p.length ≤ 1152921504606846976) (hq : ∀ b ∈ p, b < 256) : SpecF Tryz.prog 128 [v, .int .i64 a] F [] (fun r L => r = wv (wAt p a) ∧ L = []) := by
 have hb : ∀ i, i < p.length → p.getD i 0 < 256 := fun i hi => by
  rw [List.getD_eq_getElem?_getD, List.getElem?_eq_getElem hi]
  exact hq _ (List.getElem_mem _)
 refine fun128.spec rfl ?_
 conv=>whnf
 refine DrawG.mk 30 [] [] (Ent.refl _) ?_
 conv=>whnf
 refine .take 0 ?_
 conv=>whnf
 refine ⟨rfl, ?_⟩
 conv=>whnf
 refine .take 1 ?_
 conv=>whnf
 refine ⟨rfl, ?_⟩
 conv=>whnf
 refine .take 2 ?_
 conv=>whnf
 refine ⟨rfl, ?_⟩
 conv=>whnf
 refine IdxG.rd hv (by omega) fun c0 o0 hc0 => ?_
 conv=>whnf
 refine .take 3 ?_
 conv=>whnf
 refine ⟨rfl, ?_⟩
 conv=>whnf
 refine LoadG.atF (v := bv (p.getD (a) 0)) (hc0.one (i := ((a : Int)).toNat * 1) (by rw [show ((a : Int)).toNat * 1 = a by omega]; exact rd_byte (by omega))) ?_
 conv=>whnf
 refine .take 4 ?_
 conv=>whnf
 refine ⟨rfl, ?_⟩
 conv=>whnf
 refine ArithG.cv (hb _ (by omega)) ?_
 conv=>whnf
 refine .take 5 ?_
 conv=>whnf
 refine ⟨rfl, ?_⟩
 conv=>whnf
 refine SideG.of (by decide) ?_
 conv=>whnf
 refine ArithG.shl _ 24 (by decide) ?_
 conv=>whnf
 refine .take 6 ?_
 conv=>whnf
 refine ⟨rfl, ?_⟩
 conv=>whnf
 refine .take 7 ?_
 conv=>whnf
 refine ⟨rfl, ?_⟩
 conv=>whnf
 refine .take 8 ?_
 conv=>whnf
 refine ⟨rfl, ?_⟩
 conv=>whnf
 refine ArithG.i64 (by omega) ?_
 conv=>whnf
 refine .take 9 ?_
 conv=>whnf
 refine ⟨rfl, ?_⟩
 conv=>whnf
 refine IdxG.rd hv (by omega) fun c1 o1 hc1 => ?_
 conv=>whnf
 refine .take 10 ?_
 conv=>whnf
 refine ⟨rfl, ?_⟩
 conv=>whnf
 refine LoadG.atF (v := bv (p.getD (a + 1) 0)) (hc1.one (i := ((a : Int) + 1).toNat * 1) (by rw [show ((a : Int) + 1).toNat * 1 = a + 1 by omega]; exact rd_byte (by omega))) ?_
 conv=>whnf
 refine .take 11 ?_
 conv=>whnf
 refine ⟨rfl, ?_⟩
 conv=>whnf
 refine ArithG.cv (hb _ (by omega)) ?_
 conv=>whnf
 refine .take 12 ?_
 conv=>whnf
 refine ⟨rfl, ?_⟩
 conv=>whnf
 refine SideG.of (by decide) ?_
 conv=>whnf
 refine ArithG.shl _ 16 (by decide) ?_
 conv=>whnf
 refine .take 13 ?_
 conv=>whnf
 refine ⟨rfl, ?_⟩
 conv=>whnf
 refine .take 14 ?_
 conv=>whnf
 refine ⟨rfl, ?_⟩
 conv=>whnf
 refine .take 15 ?_
 conv=>whnf
 refine ⟨rfl, ?_⟩
 conv=>whnf
 refine .take 16 ?_
 conv=>whnf
 refine ⟨rfl, ?_⟩
 conv=>whnf
 refine ArithG.i64 (by omega) ?_
 conv=>whnf
 refine .take 17 ?_
 conv=>whnf
 refine ⟨rfl, ?_⟩
 conv=>whnf
 refine IdxG.rd hv (by omega) fun c2 o2 hc2 => ?_
 conv=>whnf
 refine .take 18 ?_
 conv=>whnf
 refine ⟨rfl, ?_⟩
 conv=>whnf
 refine LoadG.atF (v := bv (p.getD (a + 2) 0)) (hc2.one (i := ((a : Int) + 2).toNat * 1) (by rw [show ((a : Int) + 2).toNat * 1 = a + 2 by omega]; exact rd_byte (by omega))) ?_
 conv=>whnf
 refine .take 19 ?_
 conv=>whnf
 refine ⟨rfl, ?_⟩
 conv=>whnf
 refine ArithG.cv (hb _ (by omega)) ?_
 conv=>whnf
 refine .take 20 ?_
 conv=>whnf
 refine ⟨rfl, ?_⟩
 conv=>whnf
 refine SideG.of (by decide) ?_
 conv=>whnf
 refine ArithG.shl _ 8 (by decide) ?_
 conv=>whnf
 refine .take 21 ?_
 conv=>whnf
 refine ⟨rfl, ?_⟩
 conv=>whnf
 refine .take 22 ?_
 conv=>whnf
 refine ⟨rfl, ?_⟩
 conv=>whnf
 refine .take 23 ?_
 conv=>whnf
 refine ⟨rfl, ?_⟩
 conv=>whnf
 refine .take 24 ?_
 conv=>whnf
 refine ⟨rfl, ?_⟩
 conv=>whnf
 refine ArithG.i64 (by omega) ?_
 conv=>whnf
 refine .take 25 ?_
 conv=>whnf
 refine ⟨rfl, ?_⟩
 conv=>whnf
 refine IdxG.rd hv (by omega) fun c3 o3 hc3 => ?_
 conv=>whnf
 refine .take 26 ?_
 conv=>whnf
 refine ⟨rfl, ?_⟩
 conv=>whnf
 refine LoadG.atF (v := bv (p.getD (a + 3) 0)) (hc3.one (i := ((a : Int) + 3).toNat * 1) (by rw [show ((a : Int) + 3).toNat * 1 = a + 3 by omega]; exact rd_byte (by omega))) ?_
 conv=>whnf
 refine .take 27 ?_
 conv=>whnf
 refine ⟨rfl, ?_⟩
 conv=>whnf
 refine ArithG.cv (hb _ (by omega)) ?_
 conv=>whnf
 refine .take 28 ?_
 conv=>whnf
 refine ⟨rfl, ?_⟩
 conv=>whnf
 refine .take 29 ?_
 conv=>whnf
 refine ⟨rfl, ?_⟩
 conv=>whnf
 refine ⟨rfl, ?_⟩
 conv=>whnf
 simp only [w32_or]
 exact ret_here ⟨rfl, rfl⟩
theorem wAt_piece {p : List Nat} {a t : Nat} (h : a + 64 ≤ p.length) (ht : t < 16) : wAt p (a + 4 * t) = w16 ((p.drop a).take 64) t := by
 have e : ∀ k, k < 64 → ((p.drop a).take 64).getD k 0 = p.getD (a + k) 0 := fun k hk => by
  simp only [List.getD_eq_getElem?_getD, List.getElem?_take, List.getElem?_drop, if_pos hk]
 unfold wAt w16
 rw [e _ (by omega), e _ (by omega), e _ (by omega), e _ (by omega)]
 simp only [Nat.add_assoc]
theorem rndX_assoc (k w : W32) (r : R8) : (((((rotl r.e 26 ^^^ rotl r.e 21) ^^^ rotl r.e 7) + r.h) + ((r.e &&& r.f) ^^^ (~~~r.e &&& r.g))) + k) + w = rndX k w r := by
 simp only [rndX, BitVec.add_assoc]
set_option maxHeartbeats 2000000 in
theorem taken_spec (F : List HP) (K s : List W32) (v : Value) (p : List Nat) (a : Nat) (hK : CelN F 3 0 (wvs K)) (hk : K.length = 64) (hs : s.length = 8) (hv : RdS F v p.length (bvs p)) (ha : a + 64 ≤ p.length) (hl : p.length ≤ 1152921504606846976) (hq : ∀ b ∈ p, b < 256) :
 SpecF Tryz.prog 113 [.agg ⟨wvs s⟩, v, .int .i64 a] F [] (fun r L => r = .agg ⟨wvs (takeS K s ((p.drop a).take 64))⟩ ∧ L = []) := by
 obtain ⟨q, hqe⟩ : ∃ q, q = (p.drop a).take 64 := ⟨_, rfl⟩
 rw [← hqe]
 refine fun113.spec rfl ?_
 conv=>whnf
 intro b3
 conv=>whnf
 intro b6
 conv=>whnf
 intro b7
 conv=>whnf
 refine LoopG.mk (fun m e L => ∃ i, i ≤ 16 ∧ m = 16 - i ∧ e = [(1, v), (2, .int .i64 a), (3, .pointer (some ⟨b3, 0, none⟩)), (6, .pointer (some ⟨b6, 0, none⟩)), (7, .pointer (some ⟨b7, 0, none⟩)), (8, .int .i64 i)] ∧ L = [cel b7 191 (wvs (padW (wl q i) 64)), cel b6 174 (wvs (List.replicate 8 0)), cel b3 174 (wvs s)]) 16
  [(1, v), (2, .int .i64 a), (3, .pointer (some ⟨b3, 0, none⟩)), (6, .pointer (some ⟨b6, 0, none⟩)), (7, .pointer (some ⟨b7, 0, none⟩)), (8, .int .i64 0)] _ ⟨rfl, rfl, rfl, rfl, rfl, rfl, trivial⟩ (Ent.refl _) ⟨0, by omega, rfl, rfl, rfl⟩ ?_
 rintro m e L ⟨i, hi, rfl, rfl, rfl⟩
 conv=>whnf
 refine CondG.dec (fun h => ?_) (fun h => ?_)
 ·have hi16 : i < 16 := by omega
  conv=>whnf
  refine ArithG.i64 (by omega) ?_
  conv=>whnf
  refine ArithG.i64 (by omega) ?_
  rw [show (a : Int) + 4 * (i : Int) = ((a + 4 * i : Nat) : Int) by omega]
  conv=>whnf
  refine CallG.pure (word_spec _ v p (a + 4 * i) (.right hv _) (by omega) hl hq) ?_
  rintro _ _ ⟨rfl, rfl⟩
  conv=>whnf
  refine SideG.of (by omega) ?_
  conv=>whnf
  have hl2 : (wl q i).length < 64 := by rw [wl_len]; omega
  refine StoreG.at rfl (Upd.here (by rw [wvs_len, padW_len (by omega)]; omega) rfl) ?_
  conv=>whnf
  refine ArithG.i64 (by omega) ?_
  conv=>whnf
  refine ⟨16 - (i + 1), _, _, by omega, ?_, Ent.refl _, i + 1, by omega, rfl, rfl, ?_⟩
  ·exact ⟨rfl, rfl, rfl, rfl, rfl, rfl, trivial⟩
  have e2 : (0 : Nat) + (i : Int).toNat * 1 = (wl q i).length := by rw [wl_len]; simp
  have e3 : nextW q (wl q i) i = w16 q i := if_pos hi16
  rw [e2, wAt_piece ha hi16, ← hqe]
  show [cel b7 191 ((wvs (padW (wl q i) 64)).set (wl q i).length (wv (w16 q i))), _, _] = _
  rw [padW_set hl2, ← e3]
  rfl
 obtain rfl : i = 16 := by omega
 conv=>whnf
 refine LoopG.mk (fun m e L => ∃ i, 16 ≤ i ∧ i ≤ 64 ∧ m = 64 - i ∧ e = [(3, .pointer (some ⟨b3, 0, none⟩)), (6, .pointer (some ⟨b6, 0, none⟩)), (7, .pointer (some ⟨b7, 0, none⟩)), (9, .int .i64 i)] ∧ L = [cel b7 191 (wvs (padW (wl q i) 64)), cel b6 174 (wvs (List.replicate 8 0)), cel b3 174 (wvs s)]) 48
  [(3, .pointer (some ⟨b3, 0, none⟩)), (6, .pointer (some ⟨b6, 0, none⟩)), (7, .pointer (some ⟨b7, 0, none⟩)), (9, .int .i64 16)] _ ⟨rfl, rfl, rfl, rfl, trivial⟩ (Ent.refl _) ⟨16, by omega, by omega, rfl, rfl, rfl⟩ ?_
 rintro m e L ⟨i, h16, h64, rfl, rfl, rfl⟩
 conv=>whnf
 refine CondG.dec (fun h => ?_) (fun h => ?_)
 ·have hi64 : i < 64 := by omega
  have hg : ∀ k, k < i → (wvs (padW (wl q i) 64))[k]? = some (wv ((wl q i).getD k 0)) := fun k hk => padW_get (by rw [wl_len]; exact hk)
  have hs10 : ∀ x : W32, (x.toNat : Int).fdiv (2 ^ (min (10 : Int).toNat IntKind.u32.bits)) = ((x >>> 10).toNat : Int) := fun x => w32_shr' x 10 (by decide)
  have hs3 : ∀ x : W32, (x.toNat : Int).fdiv (2 ^ (min (3 : Int).toNat IntKind.u32.bits)) = ((x >>> 3).toNat : Int) := fun x => w32_shr' x 3 (by decide)
  conv=>whnf
  refine ArithG.i64 (by omega) ?_
  conv=>whnf
  refine SideG.of (by omega) ?_
  conv=>whnf
  refine LoadG.at (.here (by rw [show 0 + ((i : Int) - 2).toNat * 1 = i - 2 by omega]; exact hg _ (by omega))) ?_
  conv=>whnf
  refine ArithG.i64 (by omega) ?_
  conv=>whnf
  refine SideG.of (by omega) ?_
  conv=>whnf
  refine LoadG.at (.here (by rw [show 0 + ((i : Int) - 15).toNat * 1 = i - 15 by omega]; exact hg _ (by omega))) ?_
  conv=>whnf
  refine CallG.pure (turned_spec _ ((wl q i).getD (i - 2) 0) 17 (by decide)) ?_
  rintro _ _ ⟨rfl, rfl⟩
  conv=>whnf
  refine CallG.pure (turned_spec _ ((wl q i).getD (i - 2) 0) 19 (by decide)) ?_
  rintro _ _ ⟨rfl, rfl⟩
  conv=>whnf
  refine SideG.of (by decide) ?_
  conv=>whnf
  refine CallG.pure (turned_spec _ ((wl q i).getD (i - 15) 0) 7 (by decide)) ?_
  rintro _ _ ⟨rfl, rfl⟩
  conv=>whnf
  refine CallG.pure (turned_spec _ ((wl q i).getD (i - 15) 0) 18 (by decide)) ?_
  rintro _ _ ⟨rfl, rfl⟩
  conv=>whnf
  refine SideG.of (by decide) ?_
  conv=>whnf
  refine DrawG.mk 15 [cel b7 191 (wvs (padW (wl q i) 64)), cel b6 174 (wvs (List.replicate 8 0)), cel b3 174 (wvs s)] [] (Ent.refl _) ?_
  conv=>whnf
  refine .take 0 ?_
  conv=>whnf
  refine ⟨rfl, ?_⟩
  conv=>whnf
  refine .take 1 ?_
  conv=>whnf
  refine ⟨rfl, ?_⟩
  conv=>whnf
  refine .take 2 ?_
  conv=>whnf
  refine ⟨rfl, ?_⟩
  conv=>whnf
  refine .take 3 ?_
  conv=>whnf
  refine ⟨rfl, ?_⟩
  conv=>whnf
  refine ArithG.i64 (by omega) ?_
  conv=>whnf
  refine .take 4 ?_
  conv=>whnf
  refine ⟨rfl, ?_⟩
  conv=>whnf
  refine SideG.of (by omega) ?_
  conv=>whnf
  refine .take 5 ?_
  conv=>whnf
  refine ⟨rfl, ?_⟩
  conv=>whnf
  refine LoadG.at (.here (by rw [show 0 + ((i : Int) - 7).toNat * 1 = i - 7 by omega]; exact hg _ (by omega))) ?_
  conv=>whnf
  refine .take 6 ?_
  conv=>whnf
  refine ⟨rfl, ?_⟩
  conv=>whnf
  refine ArithG.w (sig1 ((wl q i).getD (i - 2) 0) + (wl q i).getD (i - 7) 0) (by rw [hs10, w32_xor, w32_xor]; exact w32_add _ _) ?_
  conv=>whnf
  refine .take 7 ?_
  conv=>whnf
  refine ⟨rfl, ?_⟩
  conv=>whnf
  refine .take 8 ?_
  conv=>whnf
  refine ⟨rfl, ?_⟩
  conv=>whnf
  refine ArithG.w ((sig1 ((wl q i).getD (i - 2) 0) + (wl q i).getD (i - 7) 0) + sig0 ((wl q i).getD (i - 15) 0)) (by rw [hs3, w32_xor, w32_xor]; exact w32_add _ _) ?_
  conv=>whnf
  refine .take 9 ?_
  conv=>whnf
  refine ⟨rfl, ?_⟩
  conv=>whnf
  refine .take 10 ?_
  conv=>whnf
  refine ⟨rfl, ?_⟩
  conv=>whnf
  refine ArithG.i64 (by omega) ?_
  conv=>whnf
  refine .take 11 ?_
  conv=>whnf
  refine ⟨rfl, ?_⟩
  conv=>whnf
  refine SideG.of (by omega) ?_
  conv=>whnf
  refine .take 12 ?_
  conv=>whnf
  refine ⟨rfl, ?_⟩
  conv=>whnf
  refine LoadG.at (.here (by rw [show 0 + ((i : Int) - 16).toNat * 1 = i - 16 by omega]; exact hg _ (by omega))) ?_
  conv=>whnf
  refine .take 13 ?_
  conv=>whnf
  refine ⟨rfl, ?_⟩
  conv=>whnf
  refine ArithG.w (((sig1 ((wl q i).getD (i - 2) 0) + (wl q i).getD (i - 7) 0) + sig0 ((wl q i).getD (i - 15) 0)) + (wl q i).getD (i - 16) 0) (w32_add _ _) ?_
  conv=>whnf
  refine .take 14 ?_
  conv=>whnf
  refine ⟨rfl, ?_⟩
  conv=>whnf
  refine SideG.of (by omega) ?_
  conv=>whnf
  refine .all ?_
  conv=>whnf
  refine ⟨by decide, ?_⟩
  conv=>whnf
  refine ⟨rfl, ?_⟩
  conv=>whnf
  have hl2 : (wl q i).length < 64 := by rw [wl_len]; omega
  refine StoreG.at rfl (Upd.here (by rw [wvs_len, padW_len (by omega)]; omega) rfl) ?_
  conv=>whnf
  refine ⟨rfl, ?_⟩
  conv=>whnf
  refine ArithG.i64 (by omega) ?_
  conv=>whnf
  refine ⟨64 - (i + 1), _, _, by omega, ?_, Ent.refl _, i + 1, by omega, by omega, rfl, rfl, ?_⟩
  ·exact ⟨rfl, rfl, rfl, rfl, trivial⟩
  have e2 : (0 : Nat) + (i : Int).toNat * 1 = (wl q i).length := by rw [wl_len]; simp
  have e3 : nextW q (wl q i) i = (((sig1 ((wl q i).getD (i - 2) 0) + (wl q i).getD (i - 7) 0) + sig0 ((wl q i).getD (i - 15) 0)) + (wl q i).getD (i - 16) 0) := if_neg (by omega)
  rw [e2]
  show [cel b7 191 ((wvs (padW (wl q i) 64)).set (wl q i).length (wv _)), _, _] = _
  rw [padW_set hl2, ← e3]
  rfl
 obtain rfl : i = 64 := by omega
 have e64 : padW (wl q 64) 64 = wl q 64 := by
  have := padW_full (l := wl q 64)
  rw [wl_len] at this
  exact this
 rw [e64]
 conv=>whnf
 refine LoadNG.at (vs := wvs s) (by rw [wvs_len, hs]) (.tl (.tl .all)) ?_
 conv=>whnf
 intro b12
 conv=>whnf
 refine StoreG.at (by rw [wvs_len, hs]) (Upd.whole (by rw [wvs_len, hs]; rfl) (wvs_one _)) ?_
 have esl : s = (R8.of s).list := by
  match s, hs with
  | [_, _, _, _, _, _, _, _], _ => rfl
 conv=>whnf
 refine LoopG.mk (fun m e L => ∃ i r, r = rounds K (wl q 64) (R8.of s) i ∧ i ≤ 64 ∧ m = 64 - i ∧ e = [(3, .pointer (some ⟨b3, 0, none⟩)), (6, .pointer (some ⟨b6, 0, none⟩)), (7, .pointer (some ⟨b7, 0, none⟩)), (12, .pointer (some ⟨b12, 0, none⟩)), (13, .int .i64 i)] ∧ L = [cel b12 174 (wvs r.list), cel b7 191 (wvs (wl q 64)), cel b6 174 (wvs (List.replicate 8 0)), cel b3 174 (wvs s)]) 64
  [(3, .pointer (some ⟨b3, 0, none⟩)), (6, .pointer (some ⟨b6, 0, none⟩)), (7, .pointer (some ⟨b7, 0, none⟩)), (12, .pointer (some ⟨b12, 0, none⟩)), (13, .int .i64 0)] _ ⟨rfl, rfl, rfl, rfl, rfl, trivial⟩ (Ent.refl _) ⟨0, R8.of s, rfl, by omega, rfl, rfl, by rw [← esl]⟩ ?_
 rintro m e L ⟨i, r, hr, hi, rfl, rfl, rfl⟩
 conv=>whnf
 refine CondG.dec (fun h => ?_) (fun h => ?_)
 ·have hi64 : i < 64 := by omega
  conv=>whnf
  refine DrawG.mk 12 [cel b12 174 (wvs r.list), cel b7 191 (wvs (wl q 64)), cel b6 174 (wvs (List.replicate 8 0)), cel b3 174 (wvs s)] [] (Ent.refl _) ?_
  conv=>whnf
  refine .take 0 ?_
  conv=>whnf
  refine ⟨rfl, ?_⟩
  conv=>whnf
  refine SideG.of (by decide) ?_
  conv=>whnf
  refine .take 1 ?_
  conv=>whnf
  refine ⟨rfl, ?_⟩
  conv=>whnf
  refine LoadG.at (v := wv r.e) (.here rfl) ?_
  conv=>whnf
  refine .take 3 ?_
  conv=>whnf
  refine ⟨rfl, ?_⟩
  conv=>whnf
  refine SideG.of (by decide) ?_
  conv=>whnf
  refine .take 4 ?_
  conv=>whnf
  refine ⟨rfl, ?_⟩
  conv=>whnf
  refine LoadG.at (v := wv r.e) (.here rfl) ?_
  conv=>whnf
  refine .take 7 ?_
  conv=>whnf
  refine ⟨rfl, ?_⟩
  conv=>whnf
  refine SideG.of (by decide) ?_
  conv=>whnf
  refine .take 8 ?_
  conv=>whnf
  refine ⟨rfl, ?_⟩
  conv=>whnf
  refine LoadG.at (v := wv r.e) (.here rfl) ?_
  conv=>whnf
  refine .all ?_
  conv=>whnf
  refine ⟨by decide, ?_⟩
  conv=>whnf
  refine CallG.pure (turned_spec _ r.e 6 (by decide)) ?_
  rintro _ _ ⟨rfl, rfl⟩
  conv=>whnf
  refine .all ?_
  conv=>whnf
  refine ⟨by decide, ?_⟩
  conv=>whnf
  refine CallG.pure (turned_spec _ r.e 11 (by decide)) ?_
  rintro _ _ ⟨rfl, rfl⟩
  conv=>whnf
  refine .take 6 ?_
  conv=>whnf
  refine ⟨rfl, ?_⟩
  conv=>whnf
  refine .all ?_
  conv=>whnf
  refine ⟨by decide, ?_⟩
  conv=>whnf
  refine CallG.pure (turned_spec _ r.e 25 (by decide)) ?_
  rintro _ _ ⟨rfl, rfl⟩
  conv=>whnf
  refine .take 10 ?_
  conv=>whnf
  refine ⟨rfl, ?_⟩
  conv=>whnf
  refine .take 11 ?_
  conv=>whnf
  refine ⟨rfl, ?_⟩
  conv=>whnf
  refine ⟨rfl, ?_⟩
  conv=>whnf
  have hw : (wvs (wl q 64))[0 + (i : Int).toNat * 1]? = some (wv ((wl q 64).getD i 0)) := by
   rw [show 0 + (i : Int).toNat * 1 = i by omega]
   simp [wvs, List.getD, List.getElem?_eq_getElem (by rw [wl_len]; exact hi64 : i < (wl q 64).length)]
  have hkk : (wvs K)[(i : Int).toNat * 1]? = some (wv (K.getD i 0)) := by
   rw [show (i : Int).toNat * 1 = i by omega]
   simp [wvs, List.getD, List.getElem?_eq_getElem (by omega : i < K.length)]
  refine DrawG.mk 26 [cel b12 174 (wvs r.list), cel b7 191 (wvs (wl q 64)), cel b6 174 (wvs (List.replicate 8 0)), cel b3 174 (wvs s)] [] (Ent.refl _) ?_
  conv=>whnf
  refine .take 0 ?_
  conv=>whnf
  refine ⟨rfl, ?_⟩
  conv=>whnf
  refine .take 1 ?_
  conv=>whnf
  refine ⟨rfl, ?_⟩
  conv=>whnf
  refine SideG.of (by decide) ?_
  conv=>whnf
  refine .take 2 ?_
  conv=>whnf
  refine ⟨rfl, ?_⟩
  conv=>whnf
  refine LoadG.at (v := wv r.h) (.here rfl) ?_
  conv=>whnf
  refine .take 3 ?_
  conv=>whnf
  refine ⟨rfl, ?_⟩
  conv=>whnf
  refine ArithG.w (((rotl r.e 26 ^^^ rotl r.e 21) ^^^ rotl r.e 7) + r.h) (by rw [w32_xor, w32_xor]; exact w32_add _ _) ?_
  conv=>whnf
  refine .take 4 ?_
  conv=>whnf
  refine ⟨rfl, ?_⟩
  conv=>whnf
  refine SideG.of (by decide) ?_
  conv=>whnf
  refine .take 5 ?_
  conv=>whnf
  refine ⟨rfl, ?_⟩
  conv=>whnf
  refine LoadG.at (v := wv r.e) (.here rfl) ?_
  conv=>whnf
  refine .take 6 ?_
  conv=>whnf
  refine ⟨rfl, ?_⟩
  conv=>whnf
  refine SideG.of (by decide) ?_
  conv=>whnf
  refine .take 7 ?_
  conv=>whnf
  refine ⟨rfl, ?_⟩
  conv=>whnf
  refine LoadG.at (v := wv r.f) (.here rfl) ?_
  conv=>whnf
  refine .take 8 ?_
  conv=>whnf
  refine ⟨rfl, ?_⟩
  conv=>whnf
  refine .take 9 ?_
  conv=>whnf
  refine ⟨rfl, ?_⟩
  conv=>whnf
  refine SideG.of (by decide) ?_
  conv=>whnf
  refine .take 10 ?_
  conv=>whnf
  refine ⟨rfl, ?_⟩
  conv=>whnf
  refine LoadG.at (v := wv r.e) (.here rfl) ?_
  conv=>whnf
  refine .take 11 ?_
  conv=>whnf
  refine ⟨rfl, ?_⟩
  conv=>whnf
  refine .take 12 ?_
  conv=>whnf
  refine ⟨rfl, ?_⟩
  conv=>whnf
  refine SideG.of (by decide) ?_
  conv=>whnf
  refine .take 13 ?_
  conv=>whnf
  refine ⟨rfl, ?_⟩
  conv=>whnf
  refine LoadG.at (v := wv r.g) (.here rfl) ?_
  conv=>whnf
  refine .take 14 ?_
  conv=>whnf
  refine ⟨rfl, ?_⟩
  conv=>whnf
  refine .take 15 ?_
  conv=>whnf
  refine ⟨rfl, ?_⟩
  conv=>whnf
  refine .take 16 ?_
  conv=>whnf
  refine ⟨rfl, ?_⟩
  conv=>whnf
  refine ArithG.w ((((rotl r.e 26 ^^^ rotl r.e 21) ^^^ rotl r.e 7) + r.h) + ((r.e &&& r.f) ^^^ (~~~r.e &&& r.g))) (by rw [w32_and, w32_not, w32_and, w32_xor]; exact w32_add _ _) ?_
  conv=>whnf
  refine .take 17 ?_
  conv=>whnf
  refine ⟨rfl, ?_⟩
  conv=>whnf
  refine .take 18 ?_
  conv=>whnf
  refine ⟨rfl, ?_⟩
  conv=>whnf
  refine SideG.of (by omega) ?_
  conv=>whnf
  refine .take 19 ?_
  conv=>whnf
  refine ⟨rfl, ?_⟩
  conv=>whnf
  refine LoadG.atF (hK.one hkk) ?_
  conv=>whnf
  refine .take 20 ?_
  conv=>whnf
  refine ⟨rfl, ?_⟩
  conv=>whnf
  refine ArithG.w (((((rotl r.e 26 ^^^ rotl r.e 21) ^^^ rotl r.e 7) + r.h) + ((r.e &&& r.f) ^^^ (~~~r.e &&& r.g))) + K.getD i 0) (w32_add _ _) ?_
  conv=>whnf
  refine .take 21 ?_
  conv=>whnf
  refine ⟨rfl, ?_⟩
  conv=>whnf
  refine .take 22 ?_
  conv=>whnf
  refine ⟨rfl, ?_⟩
  conv=>whnf
  refine SideG.of (by omega) ?_
  conv=>whnf
  refine .take 23 ?_
  conv=>whnf
  refine ⟨rfl, ?_⟩
  conv=>whnf
  refine LoadG.at (.tl (.here hw)) ?_
  conv=>whnf
  refine .take 24 ?_
  conv=>whnf
  refine ⟨rfl, ?_⟩
  conv=>whnf
  refine ArithG.w (rndX (K.getD i 0) ((wl q 64).getD i 0) r) (by rw [w32_add, rndX_assoc]) ?_
  conv=>whnf
  refine .take 25 ?_
  conv=>whnf
  refine ⟨rfl, ?_⟩
  conv=>whnf
  refine ⟨rfl, ?_⟩
  conv=>whnf
  refine DrawG.mk 12 [cel b12 174 (wvs r.list), cel b7 191 (wvs (wl q 64)), cel b6 174 (wvs (List.replicate 8 0)), cel b3 174 (wvs s)] [] (Ent.refl _) ?_
  conv=>whnf
  refine .take 0 ?_
  conv=>whnf
  refine ⟨rfl, ?_⟩
  conv=>whnf
  refine SideG.of (by decide) ?_
  conv=>whnf
  refine .take 1 ?_
  conv=>whnf
  refine ⟨rfl, ?_⟩
  conv=>whnf
  refine LoadG.at (v := wv r.a) (.here rfl) ?_
  conv=>whnf
  refine .take 3 ?_
  conv=>whnf
  refine ⟨rfl, ?_⟩
  conv=>whnf
  refine SideG.of (by decide) ?_
  conv=>whnf
  refine .take 4 ?_
  conv=>whnf
  refine ⟨rfl, ?_⟩
  conv=>whnf
  refine LoadG.at (v := wv r.a) (.here rfl) ?_
  conv=>whnf
  refine .take 7 ?_
  conv=>whnf
  refine ⟨rfl, ?_⟩
  conv=>whnf
  refine SideG.of (by decide) ?_
  conv=>whnf
  refine .take 8 ?_
  conv=>whnf
  refine ⟨rfl, ?_⟩
  conv=>whnf
  refine LoadG.at (v := wv r.a) (.here rfl) ?_
  conv=>whnf
  refine .all ?_
  conv=>whnf
  refine ⟨by decide, ?_⟩
  conv=>whnf
  refine CallG.pure (turned_spec _ r.a 2 (by decide)) ?_
  rintro _ _ ⟨rfl, rfl⟩
  conv=>whnf
  refine .all ?_
  conv=>whnf
  refine ⟨by decide, ?_⟩
  conv=>whnf
  refine CallG.pure (turned_spec _ r.a 13 (by decide)) ?_
  rintro _ _ ⟨rfl, rfl⟩
  conv=>whnf
  refine .take 6 ?_
  conv=>whnf
  refine ⟨rfl, ?_⟩
  conv=>whnf
  refine .all ?_
  conv=>whnf
  refine ⟨by decide, ?_⟩
  conv=>whnf
  refine CallG.pure (turned_spec _ r.a 22 (by decide)) ?_
  rintro _ _ ⟨rfl, rfl⟩
  conv=>whnf
  refine .take 10 ?_
  conv=>whnf
  refine ⟨rfl, ?_⟩
  conv=>whnf
  refine .take 11 ?_
  conv=>whnf
  refine ⟨rfl, ?_⟩
  conv=>whnf
  refine ⟨rfl, ?_⟩
  conv=>whnf
  refine SideG.of (by decide) ?_
  conv=>whnf
  refine LoadG.at (v := wv r.a) (.here rfl) ?_
  conv=>whnf
  refine SideG.of (by decide) ?_
  conv=>whnf
  refine LoadG.at (v := wv r.b) (.here rfl) ?_
  conv=>whnf
  refine SideG.of (by decide) ?_
  conv=>whnf
  refine LoadG.at (v := wv r.a) (.here rfl) ?_
  conv=>whnf
  refine SideG.of (by decide) ?_
  conv=>whnf
  refine LoadG.at (v := wv r.c) (.here rfl) ?_
  conv=>whnf
  refine SideG.of (by decide) ?_
  conv=>whnf
  refine LoadG.at (v := wv r.b) (.here rfl) ?_
  conv=>whnf
  refine SideG.of (by decide) ?_
  conv=>whnf
  refine LoadG.at (v := wv r.c) (.here rfl) ?_
  conv=>whnf
  refine ArithG.w (rndY r) (by rw [w32_xor, w32_xor, w32_and, w32_and, w32_and, w32_xor, w32_xor]; exact w32_add _ _) ?_
  conv=>whnf
  refine SideG.of (by decide) ?_
  conv=>whnf
  refine LoadG.at (.here rfl) ?_
  conv=>whnf
  refine SideG.of (by decide) ?_
  conv=>whnf
  refine StoreG.at rfl (Upd.here (by simp [wvs, R8.list]) rfl) ?_
  conv=>whnf
  refine SideG.of (by decide) ?_
  conv=>whnf
  refine LoadG.at (.here rfl) ?_
  conv=>whnf
  refine SideG.of (by decide) ?_
  conv=>whnf
  refine StoreG.at rfl (Upd.here (by simp [wvs, R8.list]) rfl) ?_
  conv=>whnf
  refine SideG.of (by decide) ?_
  conv=>whnf
  refine LoadG.at (.here rfl) ?_
  conv=>whnf
  refine SideG.of (by decide) ?_
  conv=>whnf
  refine StoreG.at rfl (Upd.here (by simp [wvs, R8.list]) rfl) ?_
  conv=>whnf
  refine SideG.of (by decide) ?_
  conv=>whnf
  refine LoadG.at (v := wv r.d) (.here rfl) ?_
  conv=>whnf
  refine ArithG.w (r.d + rndX (K.getD i 0) ((wl q 64).getD i 0) r) (w32_add _ _) ?_
  conv=>whnf
  refine SideG.of (by decide) ?_
  conv=>whnf
  refine StoreG.at rfl (Upd.here (by simp [wvs, R8.list]) rfl) ?_
  conv=>whnf
  refine SideG.of (by decide) ?_
  conv=>whnf
  refine LoadG.at (.here rfl) ?_
  conv=>whnf
  refine SideG.of (by decide) ?_
  conv=>whnf
  refine StoreG.at rfl (Upd.here (by simp [wvs, R8.list]) rfl) ?_
  conv=>whnf
  refine SideG.of (by decide) ?_
  conv=>whnf
  refine LoadG.at (.here rfl) ?_
  conv=>whnf
  refine SideG.of (by decide) ?_
  conv=>whnf
  refine StoreG.at rfl (Upd.here (by simp [wvs, R8.list]) rfl) ?_
  conv=>whnf
  refine SideG.of (by decide) ?_
  conv=>whnf
  refine LoadG.at (.here rfl) ?_
  conv=>whnf
  refine SideG.of (by decide) ?_
  conv=>whnf
  refine StoreG.at rfl (Upd.here (by simp [wvs, R8.list]) rfl) ?_
  conv=>whnf
  refine ArithG.w (rndX (K.getD i 0) ((wl q 64).getD i 0) r + rndY r) (w32_add _ _) ?_
  conv=>whnf
  refine SideG.of (by decide) ?_
  conv=>whnf
  refine StoreG.at rfl (Upd.here (by simp [wvs, R8.list]) rfl) ?_
  conv=>whnf
  refine ArithG.i64 (by omega) ?_
  conv=>whnf
  refine ⟨64 - (i + 1), _, _, by omega, ?_, Ent.refl _, i + 1, rnd (K.getD i 0) ((wl q 64).getD i 0) r, (by rw [rounds_succ, hr]), by omega, rfl, rfl, rfl⟩
  exact ⟨rfl, rfl, rfl, rfl, rfl, trivial⟩
 obtain rfl : i = 64 := by omega
 have hlen := takeS_len (K := K) (p := q) hs
 have hrl : r.list.length = 8 := rfl
 conv=>whnf
 refine LoopG.mk (fun m e L => ∃ j, j ≤ 8 ∧ m = 8 - j ∧ e = [(3, .pointer (some ⟨b3, 0, none⟩)), (6, .pointer (some ⟨b6, 0, none⟩)), (12, .pointer (some ⟨b12, 0, none⟩)), (16, .int .i64 j)] ∧
  L = [cel b12 174 (wvs (mixW (takeS K s q) r.list j)), cel b7 191 (wvs (wl q 64)), cel b6 174 (wvs (List.replicate 8 0)), cel b3 174 (wvs s)]) 8
  [(3, .pointer (some ⟨b3, 0, none⟩)), (6, .pointer (some ⟨b6, 0, none⟩)), (12, .pointer (some ⟨b12, 0, none⟩)), (16, .int .i64 0)] _ ⟨rfl, rfl, rfl, rfl, trivial⟩ (Ent.refl _) ⟨0, by omega, rfl, rfl, rfl⟩ ?_
 rintro m e L ⟨j, hj, rfl, rfl, rfl⟩
 conv=>whnf
 refine CondG.dec (fun h2 => ?_) (fun h2 => ?_)
 ·have hj8 : j < 8 := by omega
  have hz : (0 : Nat) + (j : Int).toNat * 1 = j := by simp
  have hsg : (wvs s)[0 + (j : Int).toNat * 1]? = some (wv (s.getD j 0)) := by
   rw [hz]
   simp [wvs, List.getD, List.getElem?_eq_getElem (by omega : j < s.length)]
  conv=>whnf
  refine DrawG.mk 9 [cel b12 174 (wvs (mixW (takeS K s q) r.list j)), cel b7 191 (wvs (wl q 64)), cel b6 174 (wvs (List.replicate 8 0)), cel b3 174 (wvs s)] [] (Ent.refl _) ?_
  conv=>whnf
  refine .take 0 ?_
  conv=>whnf
  refine ⟨rfl, ?_⟩
  conv=>whnf
  refine .take 1 ?_
  conv=>whnf
  refine ⟨rfl, ?_⟩
  conv=>whnf
  refine .take 2 ?_
  conv=>whnf
  refine ⟨rfl, ?_⟩
  conv=>whnf
  refine SideG.of (by omega) ?_
  conv=>whnf
  refine .take 3 ?_
  conv=>whnf
  refine ⟨rfl, ?_⟩
  conv=>whnf
  refine LoadG.at (v := wv (r.list.getD j 0)) (.here (by rw [hz]; exact mixW_get (by omega) (by omega))) ?_
  conv=>whnf
  refine .take 4 ?_
  conv=>whnf
  refine ⟨rfl, ?_⟩
  conv=>whnf
  refine .take 5 ?_
  conv=>whnf
  refine ⟨rfl, ?_⟩
  conv=>whnf
  refine SideG.of (by omega) ?_
  conv=>whnf
  refine .take 6 ?_
  conv=>whnf
  refine ⟨rfl, ?_⟩
  conv=>whnf
  refine LoadG.at (v := wv (s.getD j 0)) (.tl (.tl (.tl (.here hsg)))) ?_
  conv=>whnf
  refine .take 7 ?_
  conv=>whnf
  refine ⟨rfl, ?_⟩
  conv=>whnf
  refine ArithG.w (r.list.getD j 0 + s.getD j 0) (w32_add _ _) ?_
  conv=>whnf
  refine .take 8 ?_
  conv=>whnf
  refine ⟨rfl, ?_⟩
  conv=>whnf
  refine SideG.of (by omega) ?_
  conv=>whnf
  refine .all ?_
  conv=>whnf
  refine ⟨by decide, ?_⟩
  conv=>whnf
  refine ⟨rfl, ?_⟩
  conv=>whnf
  refine StoreG.at rfl (Upd.here (by rw [hz, wvs_len, mixW_len (by omega) (by omega)]; omega) rfl) ?_
  conv=>whnf
  refine ⟨rfl, ?_⟩
  conv=>whnf
  refine ArithG.i64 (by omega) ?_
  conv=>whnf
  refine ⟨8 - (j + 1), _, _, by omega, ?_, Ent.refl _, j + 1, by omega, rfl, rfl, ?_⟩
  ·exact ⟨rfl, rfl, rfl, rfl, trivial⟩
  rw [hz]
  have e1 : r.list.getD j 0 + s.getD j 0 = (takeS K s q).getD j 0 := by rw [takeS_get hs hj8, hr, BitVec.add_comm]
  show [cel b12 174 ((wvs (mixW (takeS K s q) r.list j)).set j (wv (r.list.getD j 0 + s.getD j 0))), _, _, _] = _
  rw [e1, mixW_set (by omega) (by omega)]
 obtain rfl : j = 8 := by omega
 have e8 : mixW (takeS K s q) r.list 8 = takeS K s q := by
  simp only [mixW]
  rw [List.take_of_length_le (by omega), List.drop_eq_nil_of_le (by omega), List.append_nil]
 rw [e8]
 conv=>whnf
 refine LoadNG.at (vs := wvs (takeS K s q)) (by rw [wvs_len, hlen]) .all ?_
 conv=>whnf
 refine StoreG.at (by rw [wvs_len, hlen]) (Upd.tl (Upd.tl (Upd.whole (by rw [wvs_len, hlen]; rfl) (wvs_one _)))) ?_
 conv=>whnf
 refine LoadNG.at (vs := wvs (takeS K s q)) (by rw [wvs_len, hlen]) (.tl (.tl .all)) ?_
 conv=>whnf
 exact ⟨[], Ent.nil _, rfl, rfl⟩
end Go.Proofs.YtmfonkklmndhjaaGreatDoor
namespace Go.Proofs.YtmfonkklmndhjaaGreatDoor
open Go Go.Sl
theorem app1 {F M : List HP} {v : Value} {n b x : Nat} {l : List Nat} (hn : n ≤ 4398046511104) {k : Value → List HP → Prop} (hk : ∀ r, SlV r (n + 1) → k r (own 1 r (n + 1) (bvs (l ++ [x])) :: cel b 5 [bv x] :: M)) :
 DoesG Tryz.prog F (Builtin.append_ #[22, 22] 22 #[v, .slice (some ⟨b, 0, none⟩) 1 1]) (cel b 5 [bv x] :: own 1 v n (bvs l) :: M) k := by
 refine DoesG.ent (Ent.perm (List.Perm.swap _ _ _)) ?_
 refine app_own bytesT 22 (m := 1) (ys := bvs [x]) (.mk _ _ _ _ _ (by decide) (.tl (.left .all _))) rfl (bvs_one _) (by simp only [maxLen]; omega) (by omega) fun r hr hl hn => ?_
 rw [bvs_append]
 exact hk r hr
theorem laid_spec (F : List HP) (dv : Value) (m : List Nat) (hv : RdS F dv m.length (bvs m)) (hm : m.length ≤ 1099511627776) : SpecF Tryz.prog 112 [dv, .int .i64 (8 * m.length : Nat)] F [] (fun r L => SlV r (padL m).length ∧ ∃ n, n = (padL m).length ∧ L = [own 1 r n (bvs (padL m))]) := by
 have hq : ((8 * m.length : Nat) : Int).tdiv 8 = (m.length : Int) := by
  show ((8 * m.length / 8 : Nat) : Int) = _
  rw [Nat.mul_div_cancel_left _ (by decide)]
 have hr8 : ((8 * m.length : Nat) : Int).tmod 8 = 0 := by
  show ((8 * m.length % 8 : Nat) : Int) = _
  rw [Nat.mul_mod_right]; rfl
 refine fun112.spec rfl ?_
 conv=>whnf
 refine LoopG.mk (fun mm e L => ∃ i v, i ≤ m.length ∧ SlV v i ∧ mm = m.length - i ∧ e = [(0, dv), (1, .int .i64 (8 * m.length : Nat)), (5, v), (6, .int .i64 i)] ∧ L = [own 1 v i (bvs (m.take i))]) m.length
  [(0, dv), (1, .int .i64 (8 * m.length : Nat)), (5, .slice none 0 0), (6, .int .i64 0)] [own 1 (.slice none 0 0) 0 []] ⟨rfl, rfl, rfl, rfl, trivial⟩ (fun w G hs => Sat.own_nil hs) ⟨0, .slice none 0 0, by omega, .inl ⟨rfl, rfl⟩, rfl, rfl, rfl⟩ ?_
 rintro mm e L ⟨i, v, hi, hvi, rfl, rfl, rfl⟩
 conv=>whnf
 refine SideG.of (by decide) ?_
 conv=>whnf
 refine ArithG.i64' _ hq (by omega) ?_
 conv=>whnf
 refine CondG.dec (fun h => ?_) (fun h => ?_)
 ·have hi' : i < m.length := by omega
  conv=>whnf
  refine IdxG.rd hv (by omega) fun c o hc => ?_
  conv=>whnf
  refine LoadG.atF (v := bv m[i]) (hc.one (i := (i : Int).toNat * 1) (by simpa using bvs_get hi')) ?_
  conv=>whnf
  refine BuildG.of rfl ?_
  conv=>whnf
  intro b
  conv=>whnf
  refine app1 (x := m[i]) (by omega) fun r hr => ?_
  conv=>whnf
  refine ArithG.i64 (by omega) ?_
  conv=>whnf
  refine ⟨m.length - (i + 1), [(0, dv), (1, .int .i64 (8 * m.length : Nat)), (5, r), (6, .int .i64 ((i + 1 : Nat)))], [own 1 r (i + 1) (bvs (m.take i ++ [m[i]]))], by omega, ⟨rfl, rfl, rfl, rfl, trivial⟩, Ent.sel (T := []) (A := [_, _]) [0] rfl, i + 1, r, by omega, hr, rfl, rfl, ?_⟩
  rw [List.take_succ_eq_append_getElem hi']
 obtain rfl : i = m.length := by omega
 rw [List.take_length]
 conv=>whnf
 refine SideG.of (by decide) ?_
 rw [hr8]
 conv=>whnf
 refine CondG.tt ?_
 conv=>whnf
 refine BuildG.of rfl ?_
 conv=>whnf
 intro b0
 conv=>whnf
 refine app1 (x := 128) (by omega) fun r hr => ?_
 conv=>whnf
 have hdm := Nat.div_add_mod m.length 64
 have hlt := Nat.mod_lt m.length (show 0 < 64 by decide)
 refine LoopG.mk (fun mm e L => ∃ k v, k ≤ padZ m ∧ SlV v (m.length + 1 + k) ∧ mm = padZ m - k ∧ e = [(1, .int .i64 (8 * m.length : Nat)), (5, v)] ∧ L = [own 1 v (m.length + 1 + k) (bvs (m ++ 128 :: List.replicate k 0))]) (padZ m)
  [(1, .int .i64 (8 * m.length : Nat)), (5, r)] [own 1 r (m.length + 1) (bvs (m ++ [128]))] ⟨rfl, rfl, trivial⟩ (Ent.sel (T := []) (A := [_, _]) [0] rfl) ⟨0, r, by omega, hr, rfl, rfl, rfl⟩ ?_
 rintro mm e L ⟨k, v, hk, hvk, rfl, rfl, rfl⟩
 have hz : padZ m ≤ 119 := by unfold padZ; split <;> omega
 conv=>whnf
 refine LenG.sl hvk ?_
 conv=>whnf
 refine SideG.of (by decide) ?_
 conv=>whnf
 rw [show ((m.length + 1 + k : Nat) : Int).tmod 64 = (((m.length + 1 + k) % 64 : Nat) : Int) from rfl]
 refine CondG.ndec (fun h => ?_) (fun h => ?_)
 ·have hk' : k < padZ m := by
   rcases Nat.lt_or_ge k (padZ m) with h1 | h1
   ·exact h1
   ·exfalso
    apply h
    have : k = padZ m := by omega
    subst this
    unfold padZ
    split <;> omega
  conv=>whnf
  refine BuildG.of rfl ?_
  conv=>whnf
  intro b
  conv=>whnf
  refine app1 (x := 0) (by omega) fun r2 hr2 => ?_
  conv=>whnf
  refine ⟨padZ m - (k + 1), [(1, .int .i64 (8 * m.length : Nat)), (5, r2)], [own 1 r2 (m.length + 1 + k + 1) (bvs (m ++ 128 :: List.replicate k 0 ++ [0]))], by omega, ⟨rfl, rfl, trivial⟩, Ent.sel (T := []) (A := [_, _]) [0] rfl, k + 1, r2, by omega, hr2, rfl, rfl, ?_⟩
  have e1 : m ++ 128 :: List.replicate k 0 ++ [0] = m ++ 128 :: List.replicate (k + 1) 0 := by
   rw [List.replicate_succ']
   simp
  rw [e1]
  rfl
 have hk' : k = padZ m := by
  have h56 : (m.length + 1 + k) % 64 = 56 := by omega
  unfold padZ at hk ⊢
  split at hk <;> split <;> omega
 subst hk'
 conv=>whnf
 refine LoopG.mk (fun mm e L => ∃ j v, j ≤ 8 ∧ SlV v (m.length + 1 + padZ m + j) ∧ mm = 8 - j ∧ e = [(1, .int .i64 (8 * m.length : Nat)), (5, v), (9, .int .i64 (7 - j))] ∧ L = [own 1 v (m.length + 1 + padZ m + j) (bvs (m ++ 128 :: List.replicate (padZ m) 0 ++ (be (m.length * 8) 8).take j))]) 8
  [(1, .int .i64 (8 * m.length : Nat)), (5, v), (9, .int .i64 7)] _ ⟨rfl, rfl, rfl, trivial⟩ (Ent.refl _) ⟨0, v, by omega, hvk, rfl, rfl, by simp⟩ ?_
 rintro mm e L ⟨j, v, hj, hvj, rfl, rfl, rfl⟩
 conv=>whnf
 refine CondG.dec (fun h9 => ?_) (fun h9 => ?_)
 ·have hj8 : j < 8 := by omega
  have ex := shr_b (8 * m.length) (7 - j) (by omega)
  have ej : ((7 - j : Nat) : Int) = 7 - (j : Int) := by omega
  rw [ej] at ex
  conv=>whnf
  refine ArithG.u64 (by omega) ?_
  conv=>whnf
  refine ArithG.i64 (by omega) ?_
  conv=>whnf
  refine ArithG.u64 (by omega) ?_
  conv=>whnf
  refine SideG.of (by omega) ?_
  refine ArithG.all ?_
  conv=>whnf
  have ex' : IntKind.u8.wrap (((8 * m.length : Nat) : Int).fdiv (2 ^ (min (8 * (7 - (j : Int))).toNat IntKind.u64.bits))) = ((8 * m.length / 256 ^ (7 - j) % 256 : Nat) : Int) := ex
  rw [ex']
  refine BuildG.of rfl ?_
  conv=>whnf
  intro b
  conv=>whnf
  refine app1 (x := 8 * m.length / 256 ^ (7 - j) % 256) (by omega) fun r2 hr2 => ?_
  conv=>whnf
  refine ArithG.i64 (by omega) ?_
  conv=>whnf
  refine ⟨8 - (j + 1), [(1, .int .i64 (8 * m.length : Nat)), (5, r2), (9, .int .i64 (7 - ((j + 1 : Nat) : Int)))], [own 1 r2 (m.length + 1 + padZ m + j + 1) (bvs (m ++ 128 :: List.replicate (padZ m) 0 ++ (be (m.length * 8) 8).take j ++ [8 * m.length / 256 ^ (7 - j) % 256]))], by omega, ?_, Ent.sel (T := []) (A := [_, _]) [0] rfl, j + 1, r2, by omega, hr2, rfl, rfl, ?_⟩
  ·refine ⟨rfl, rfl, ?_, trivial⟩
   show some (Value.int .i64 (7 - (j : Int) - 1)) = _
   congr 2
   omega
  have hl : j < (be (m.length * 8) 8).length := by rw [be_len]; exact hj8
  have hg : (be (m.length * 8) 8)[j] = 8 * m.length / 256 ^ (7 - j) % 256 := by
   have h1 := be_get (m.length * 8) hj8
   rw [List.getElem?_eq_getElem hl] at h1
   rw [Option.some.inj h1, Nat.mul_comm]
  rw [List.take_succ_eq_append_getElem hl, hg, List.append_assoc (m ++ 128 :: List.replicate (padZ m) 0)]
  rfl
 ·obtain rfl : j = 8 := by omega
  have e8 : (be (m.length * 8) 8).take 8 = be (m.length * 8) 8 := List.take_of_length_le (by rw [be_len]; decide)
  have ep : m ++ 128 :: List.replicate (padZ m) 0 ++ be (m.length * 8) 8 = padL m := by simp [padL]
  have el : (padL m).length = m.length + 1 + padZ m + 8 := by
   rw [← ep]; simp [be_len]; omega
  rw [e8, ep]
  conv=>whnf
  exact ret_here ⟨by rw [el]; exact hvj, _, el.symm, rfl⟩
theorem of_spec (F : List HP) (K : List W32) (hK : CelN F 3 0 (wvs K)) (hB : CelN F 2 0 (wvs ivW)) (hk : K.length = 64) (dv : Value) (m : List Nat) (hv : RdS F dv m.length (bvs m)) (hm : m.length ≤ 1099511627776) (hb : ∀ b ∈ m, b < 256) :
 SpecF Tryz.prog 100 [dv, .int .i64 (8 * m.length : Nat)] F [] (fun r L => r = .agg ⟨bvs (dig K m)⟩ ∧ L = []) := by
 have hpb : ∀ b ∈ padL m, b < 256 := by
  intro b hbm
  simp only [padL, List.mem_append, List.mem_cons, List.mem_replicate] at hbm
  rcases hbm with h1 | (h1 | h1) | h1
  ·exact hb b h1
  ·omega
  ·omega
  ·have be_b : ∀ (n k b : Nat), b ∈ be n k → b < 256 := by
    intro n k
    induction k with
    | zero => intro b h; cases h
    | succ k ih =>
     intro b h
     rcases List.mem_cons.1 h with h | h
     ·rw [h]; exact Nat.mod_lt _ (by decide)
     ·exact ih b h
   exact be_b _ _ b h1
 have hpl := padL_len m
 obtain ⟨Q, hQ⟩ : ∃ Q, Q = (if m.length % 64 < 56 then m.length / 64 + 1 else m.length / 64 + 2) := ⟨_, rfl⟩
 rw [← hQ] at hpl
 have hQ2 : Q ≤ 1099511627776 := by rw [hQ]; split <;> omega
 refine fun100.spec rfl ?_
 conv=>whnf
 intro b4
 conv=>whnf
 refine CallG.pure (laid_spec _ dv m (.right hv _) hm) ?_
 rintro r _ ⟨hr, n, rfl, rfl⟩
 conv=>whnf
 refine LoadNG.atF (vs := wvs ivW) rfl hB ?_
 conv=>whnf
 intro b6
 conv=>whnf
 refine StoreG.at rfl (Upd.whole rfl (wvs_one _)) ?_
 conv=>whnf
 refine LoopG.mk (fun mm e L => ∃ j, j ≤ Q ∧ mm = Q - j ∧ e = [(4, .pointer (some ⟨b4, 0, none⟩)), (5, r), (6, .pointer (some ⟨b6, 0, none⟩)), (7, .int .i64 (64 * j : Nat))] ∧
  L = [cel b6 174 (wvs (stN K (padL m) j)), own 1 r (padL m).length (bvs (padL m)), cel b4 81 (bvs (List.replicate 32 0))]) Q
  [(4, .pointer (some ⟨b4, 0, none⟩)), (5, r), (6, .pointer (some ⟨b6, 0, none⟩)), (7, .int .i64 0)] _ ⟨rfl, rfl, rfl, rfl, trivial⟩ (Ent.refl _) ⟨0, by omega, rfl, rfl, rfl⟩ ?_
 rintro mm e L ⟨j, hj, rfl, rfl, rfl⟩
 conv=>whnf
 refine LenG.sl hr ?_
 conv=>whnf
 refine CondG.dec (fun h => ?_) (fun h => ?_)
 ·have hjQ : j < Q := by omega
  conv=>whnf
  refine LoadNG.at (vs := wvs (stN K (padL m) j)) (by rw [wvs_len, stN_len]) .all ?_
  conv=>whnf
  refine CallG.pure (taken_spec _ K (stN K (padL m) j) r (padL m) (64 * j) (.right hK _) hk (stN_len _ _ _) (.tl (.left (own_rd hr (by simp [bvs])) _)) (by omega) (by omega) hpb) ?_
  rintro _ _ ⟨rfl, rfl⟩
  conv=>whnf
  have hts := takeS_len (K := K) (p := ((padL m).drop (64 * j)).take 64) (stN_len K (padL m) j)
  refine StoreG.at (by rw [wvs_len, hts]) (Upd.whole (by rw [wvs_len, hts, wvs_len, stN_len]) (wvs_one _)) ?_
  conv=>whnf
  refine ArithG.i64 (by omega) ?_
  conv=>whnf
  refine ⟨Q - (j + 1), [(4, .pointer (some ⟨b4, 0, none⟩)), (5, r), (6, .pointer (some ⟨b6, 0, none⟩)), (7, .int .i64 (64 * (j + 1) : Nat))], _, by omega, ?_, Ent.refl _, j + 1, by omega, rfl, rfl, rfl⟩
  exact ⟨rfl, rfl, rfl, rfl, trivial⟩
 obtain rfl : j = Q := by omega
 have hfl := stN_len K (padL m) j
 have hdg : dig K m = digB (stN K (padL m) j) := by
  rw [dig_pad]
  congr 2
  omega
 conv=>whnf
 intro b8
 conv=>whnf
 refine LoopG.mk (fun mm e L => ∃ i, i ≤ 32 ∧ mm = 32 - i ∧ e = [(4, .pointer (some ⟨b4, 0, none⟩)), (6, .pointer (some ⟨b6, 0, none⟩)), (8, .pointer (some ⟨b8, 0, none⟩)), (9, .int .i64 i)] ∧
  L = [cel b8 81 (bvs (fillB (fun i => ((stN K (padL m) j).getD (i / 4) 0 >>> (24 - 8 * (i % 4))).toNat % 256) 32 i)), cel b6 174 (wvs (stN K (padL m) j)), own 1 r (padL m).length (bvs (padL m)), cel b4 81 (bvs (List.replicate 32 0))]) 32
  [(4, .pointer (some ⟨b4, 0, none⟩)), (6, .pointer (some ⟨b6, 0, none⟩)), (8, .pointer (some ⟨b8, 0, none⟩)), (9, .int .i64 0)] _ ⟨rfl, rfl, rfl, rfl, trivial⟩ (Ent.refl _) ⟨0, by omega, rfl, rfl, by rw [fillB_zero]; rfl⟩ ?_
 rintro mm e L ⟨i, hi, rfl, rfl, rfl⟩
 conv=>whnf
 refine CondG.dec (fun h9 => ?_) (fun h9 => ?_)
 ·have hi8 : i < 32 := by omega
  have hq : (i : Int).tdiv 4 = ((i / 4 : Nat) : Int) := rfl
  have hr4 : (i : Int).tmod 4 = ((i % 4 : Nat) : Int) := rfl
  conv=>whnf
  refine SideG.of (by decide) ?_
  conv=>whnf
  refine ArithG.i64' _ hq (by omega) ?_
  conv=>whnf
  refine SideG.of (by omega) ?_
  conv=>whnf
  have hg : (wvs (stN K (padL m) j))[0 + ((i / 4 : Nat) : Int).toNat * 1]? = some (wv ((stN K (padL m) j).getD (i / 4) 0)) := by
   rw [show 0 + ((i / 4 : Nat) : Int).toNat * 1 = i / 4 by omega]
   simp [wvs, List.getD, List.getElem?_eq_getElem (by omega : i / 4 < (stN K (padL m) j).length)]
  refine LoadG.at (.tl (.here hg)) ?_
  conv=>whnf
  refine SideG.of (by decide) ?_
  conv=>whnf
  rw [hr4]
  refine ArithG.i64 (by omega) ?_
  conv=>whnf
  refine ArithG.i64 (by omega) ?_
  conv=>whnf
  refine ArithG.u64 (by omega) ?_
  conv=>whnf
  refine SideG.of (by omega) ?_
  conv=>whnf
  refine ArithG.all ?_
  conv=>whnf
  refine SideG.of (by omega) ?_
  conv=>whnf
  have ex := shr_d ((stN K (padL m) j).getD (i / 4) 0) i
  refine StoreG.at rfl (Upd.here (by simp [bvs_len, fillB_len]; omega) rfl) ?_
  conv=>whnf
  refine ArithG.i64 (by omega) ?_
  conv=>whnf
  refine ⟨32 - (i + 1), _, _, by omega, ?_, Ent.refl _, i + 1, by omega, rfl, rfl, ?_⟩
  ·exact ⟨rfl, rfl, rfl, rfl, trivial⟩
  rw [show 0 + (i : Int).toNat * 1 = i by omega, ← fillB_set _ hi8]
  show [cel b8 81 ((bvs (fillB _ 32 i)).set i (.int .u8 (IntKind.u8.wrap ((((stN K (padL m) j).getD (i / 4) 0).toNat : Int).fdiv (2 ^ (min (24 - 8 * ((i % 4 : Nat) : Int)).toNat 32)))))), _, _, _] = _
  rw [ex]
  rfl
 obtain rfl : i = 32 := by omega
 rw [fillB_all]
 have hdg2 : ((List.range 32).map fun i => ((stN K (padL m) j).getD (i / 4) 0 >>> (24 - 8 * (i % 4))).toNat % 256) = dig K m := hdg.symm
 rw [hdg2]
 conv=>whnf
 refine LoadNG.at (vs := bvs (dig K m)) (by rw [bvs_len, dig_len]) .all ?_
 conv=>whnf
 refine StoreG.at (by rw [bvs_len, dig_len]) (Upd.tl (Upd.tl (Upd.tl (Upd.whole (by rw [bvs_len, dig_len]; rfl) (bvs_one _))))) ?_
 conv=>whnf
 refine LoadNG.at (vs := bvs (dig K m)) (by rw [bvs_len, dig_len]) (.tl (.tl (.tl .all))) ?_
 conv=>whnf
 exact ⟨[], Ent.nil _, rfl, rfl⟩
theorem rsum_spec (F : List HP) (K : List W32) (hK : CelN F 3 0 (wvs K)) (hB : CelN F 2 0 (wvs ivW)) (hk : K.length = 64) (dv : Value) (m : List Nat) (hv : RdS F dv m.length (bvs m)) (hm : m.length ≤ 1099511627776) (hb : ∀ b ∈ m, b < 256) :
 SpecF Tryz.prog 82 [dv] F [] (fun r L => r = .agg ⟨bvs (dig K m)⟩ ∧ L = []) := by
 refine fun82.spec rfl ?_
 conv=>whnf
 intro b2
 conv=>whnf
 refine LenG.rd hv ?_
 conv=>whnf
 refine ArithG.i64 (by omega) ?_
 rw [show 8 * (m.length : Int) = ((8 * m.length : Nat) : Int) by omega]
 conv=>whnf
 refine CallG.pure (of_spec _ K (.right hK _) (.right hB _) hk dv m (.right hv _) hm hb) ?_
 rintro _ _ ⟨rfl, rfl⟩
 conv=>whnf
 refine StoreG.at (cs := bvs (dig K m)) (by rw [bvs_len, dig_len]) (Upd.whole (by rw [bvs_len, dig_len K m]; rfl) (bvs_one _)) ?_
 conv=>whnf
 refine LoadNG.at (vs := bvs (dig K m)) (by rw [bvs_len, dig_len]) .all ?_
 conv=>whnf
 exact ⟨[], Ent.nil _, rfl, rfl⟩
end Go.Proofs.YtmfonkklmndhjaaGreatDoor
