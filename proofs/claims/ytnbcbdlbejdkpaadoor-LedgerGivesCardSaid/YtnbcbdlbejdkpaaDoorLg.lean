/-
  LedgerGives: what was moved can be moved back, what was minted burned; a pull is an allowance and a move.
-/
import Derived.Test.YtnbcbdlbejdkpaaDoorLc
namespace Go.Proofs.YtnbcbdlbejdkpaaDoor
open Go Go.Sl
def giftC (tok : Int) (lv : Value) (a b : List Nat) : List Value := .int .i64 tok :: lv :: (uvs a ++ uvs b)
theorem gift_a (tok : Int) (lv : Value) (a b : List Nat) : ((giftC tok lv a b).drop 2).take (uvs a).length = uvs a := by simp [giftC]
theorem gift_b (tok : Int) (lv : Value) (a b : List Nat) (ha : a.length = 4) : ((giftC tok lv a b).drop 6).take (uvs b).length = uvs b := by
  have e : giftC tok lv a b = (.int .i64 tok :: lv :: uvs a) ++ (uvs b ++ []) := by simp [giftC]
  rw [e]
  exact take_drop_mid (by simp [uvs_len, ha])
theorem balL_ok (V : View) (t : Int) (a : List Nat) : wOk (balL V t a).1 := by
  unfold balL
  split
  · exact zero4_ok
  · exact amtR_ok _
theorem gives_spec (F : List HP) (tok : Int) (ht1 : -9223372036854775808 ≤ tok) (ht2 : tok ≤ 9223372036854775807) (lv : Value) (ls : List (List Nat)) (hls : ∀ l ∈ ls, adr l) (hlv : RdS F lv ls.length (ls.flatMap bvs)) (a b : List Nat) (ha : wOk a) (hb : wOk b) :
    SpecF Tryd.prog 3 [.agg ⟨giftC tok lv a b⟩] F [] (fun v _ => v = .bool true) := by
  have h4a : (uvs a).length = 4 := by rw [uvs_len, ha.len]
  have h4b : (uvs b).length = 4 := by rw [uvs_len, hb.len]
  have hget : ∀ {i : Nat} (hi : i < ls.length), ((ls.flatMap bvs).drop (i * 20)).take 20 = bvs ls[i] := fun hi => flat_get (fun d hd => by rw [bvs_len, (hls d hd).1]) hi
  refine fun3.spec rfl ?_
  (conv => whnf); repeat ((first | with_reducible refine CondG.tt ?_ | with_reducible refine CondG.ff ?_); conv => whnf)
  intro b1
  (conv => whnf); repeat ((first | with_reducible refine CondG.tt ?_ | with_reducible refine CondG.ff ?_); conv => whnf)
  refine CallG.pure (lknown_spec _) ?_
  rintro _ _ ⟨rfl, rfl⟩
  (conv => whnf); repeat ((first | with_reducible refine CondG.tt ?_ | with_reducible refine CondG.ff ?_); conv => whnf)
  refine CallG.pure (over_nil _) ?_
  rintro _ _ ⟨s, t, vb, q, ob, rfl, rfl⟩
  (conv => whnf); repeat ((first | with_reducible refine CondG.tt ?_ | with_reducible refine CondG.ff ?_); conv => whnf)
  refine LoadG.at (v := .int .i64 tok) (.tl (.right (.here rfl) _)) ?_
  (conv => whnf); repeat ((first | with_reducible refine CondG.tt ?_ | with_reducible refine CondG.ff ?_); conv => whnf)
  refine CallG.pure (lpick_spec _ tok 64 ht1 ht2 (by decide)) ?_
  rintro _ _ ⟨rfl, rfl⟩
  have hk := pickN_lt tok (n := 64) (by decide)
  generalize pickN tok 64 = k at hk
  (conv => whnf); repeat ((first | with_reducible refine CondG.tt ?_ | with_reducible refine CondG.ff ?_); conv => whnf)
  refine LoadNG.at (vs := uvs a) h4a (.tl (.right (.here (gift_a tok lv a b)) _)) ?_
  (conv => whnf); repeat ((first | with_reducible refine CondG.tt ?_ | with_reducible refine CondG.ff ?_); conv => whnf)
  intro b6
  (conv => whnf); repeat ((first | with_reducible refine CondG.tt ?_ | with_reducible refine CondG.ff ?_); conv => whnf)
  refine StoreG.at h4a (Upd.whole (by rw [h4a]; rfl) (uvs_one _)) ?_
  (conv => whnf); repeat ((first | with_reducible refine CondG.tt ?_ | with_reducible refine CondG.ff ?_); conv => whnf)
  refine LoadNG.at (vs := uvs b) h4b (.tl (.tl (.right (.here (gift_b tok lv a b ha.len)) _))) ?_
  (conv => whnf); repeat ((first | with_reducible refine CondG.tt ?_ | with_reducible refine CondG.ff ?_); conv => whnf)
  intro b7
  (conv => whnf); repeat ((first | with_reducible refine CondG.tt ?_ | with_reducible refine CondG.ff ?_); conv => whnf)
  refine StoreG.at h4b (Upd.whole (by rw [h4b]; rfl) (uvs_one _)) ?_
  (conv => whnf); repeat ((first | with_reducible refine CondG.tt ?_ | with_reducible refine CondG.ff ?_); conv => whnf)
  refine CondG.ff ?_
  (conv => whnf); repeat ((first | with_reducible refine CondG.tt ?_ | with_reducible refine CondG.ff ?_); conv => whnf)
  refine LoadG.at (v := lv) (.tl (.tl (.tl (.right (.here rfl) _)))) ?_
  (conv => whnf); repeat ((first | with_reducible refine CondG.tt ?_ | with_reducible refine CondG.ff ?_); conv => whnf)
  refine LenG.rd hlv ?_
  (conv => whnf); repeat ((first | with_reducible refine CondG.tt ?_ | with_reducible refine CondG.ff ?_); conv => whnf)
  refine CondG.dec (fun h3 => ?_) (fun h3 => ?_)
  · (conv => whnf); repeat ((first | with_reducible refine CondG.tt ?_ | with_reducible refine CondG.ff ?_); conv => whnf)
    exact ⟨[], Ent.nil _, rfl⟩
  have i0 : 0 < ls.length := by omega
  have i1 : 1 < ls.length := by omega
  have i2 : 2 < ls.length := by omega
  have hx := hls ls[0] (List.getElem_mem i0)
  have hy := hls ls[1] (List.getElem_mem i1)
  have hz := hls ls[2] (List.getElem_mem i2)
  have gx := hget i0
  have gy := hget i1
  have gz := hget i2
  generalize ls[0] = x at hx gx
  generalize ls[1] = y at hy gy
  generalize ls[2] = z at hz gz
  have h20x : (bvs x).length = 20 := by rw [bvs_len, hx.1]
  have h20y : (bvs y).length = 20 := by rw [bvs_len, hy.1]
  have h20z : (bvs z).length = 20 := by rw [bvs_len, hz.1]
  (conv => whnf); repeat ((first | with_reducible refine CondG.tt ?_ | with_reducible refine CondG.ff ?_); conv => whnf)
  refine LoadG.at (v := lv) (.tl (.tl (.tl (.right (.here rfl) _)))) ?_
  (conv => whnf); repeat ((first | with_reducible refine CondG.tt ?_ | with_reducible refine CondG.ff ?_); conv => whnf)
  refine IdxG.rd hlv (by omega) fun c o hc => ?_
  (conv => whnf); repeat ((first | with_reducible refine CondG.tt ?_ | with_reducible refine CondG.ff ?_); conv => whnf)
  refine LoadNG.atF (vs := bvs x) h20x (hc.part (i := (0 : Int).toNat * 20) (by rw [h20x]; exact gx)) ?_
  (conv => whnf); repeat ((first | with_reducible refine CondG.tt ?_ | with_reducible refine CondG.ff ?_); conv => whnf)
  intro b8
  (conv => whnf); repeat ((first | with_reducible refine CondG.tt ?_ | with_reducible refine CondG.ff ?_); conv => whnf)
  refine StoreG.at h20x (Upd.whole (by rw [h20x]; rfl) (bvs_one _)) ?_
  (conv => whnf); repeat ((first | with_reducible refine CondG.tt ?_ | with_reducible refine CondG.ff ?_); conv => whnf)
  refine LoadG.at (v := lv) (.tl (.tl (.tl (.tl (.right (.here rfl) _))))) ?_
  (conv => whnf); repeat ((first | with_reducible refine CondG.tt ?_ | with_reducible refine CondG.ff ?_); conv => whnf)
  refine IdxG.rd hlv (by omega) fun c o hc => ?_
  (conv => whnf); repeat ((first | with_reducible refine CondG.tt ?_ | with_reducible refine CondG.ff ?_); conv => whnf)
  refine LoadNG.atF (vs := bvs y) h20y (hc.part (i := (1 : Int).toNat * 20) (by rw [h20y]; exact gy)) ?_
  (conv => whnf); repeat ((first | with_reducible refine CondG.tt ?_ | with_reducible refine CondG.ff ?_); conv => whnf)
  intro b9
  (conv => whnf); repeat ((first | with_reducible refine CondG.tt ?_ | with_reducible refine CondG.ff ?_); conv => whnf)
  refine StoreG.at h20y (Upd.whole (by rw [h20y]; rfl) (bvs_one _)) ?_
  (conv => whnf); repeat ((first | with_reducible refine CondG.tt ?_ | with_reducible refine CondG.ff ?_); conv => whnf)
  refine LoadG.at (v := lv) (.tl (.tl (.tl (.tl (.tl (.right (.here rfl) _)))))) ?_
  (conv => whnf); repeat ((first | with_reducible refine CondG.tt ?_ | with_reducible refine CondG.ff ?_); conv => whnf)
  refine IdxG.rd hlv (by omega) fun c o hc => ?_
  (conv => whnf); repeat ((first | with_reducible refine CondG.tt ?_ | with_reducible refine CondG.ff ?_); conv => whnf)
  refine LoadNG.atF (vs := bvs z) h20z (hc.part (i := (2 : Int).toNat * 20) (by rw [h20z]; exact gz)) ?_
  (conv => whnf); repeat ((first | with_reducible refine CondG.tt ?_ | with_reducible refine CondG.ff ?_); conv => whnf)
  intro b10
  (conv => whnf); repeat ((first | with_reducible refine CondG.tt ?_ | with_reducible refine CondG.ff ?_); conv => whnf)
  refine StoreG.at h20z (Upd.whole (by rw [h20z]; rfl) (bvs_one _)) ?_
  have hsrc : SrcG Tryd.prog ((cel b10 33 (bvs z) :: cel b9 33 (bvs y) :: cel b8 33 (bvs x) :: cel b7 25 (uvs b) :: cel b6 25 (uvs a) :: (emptyL 154 177 t vb q ob ++ [cel b1 27 (giftC tok lv a b)])) ++ F) (.iface 87 (.pointer (some ⟨t, 0, none⟩))) (tabFind []) :=
    (empty_src ([cel b1 27 (giftC tok lv a b)] ++ F) t vb q ob).left [cel b10 33 (bvs z), cel b9 33 (bvs y), cel b8 33 (bvs x), cel b7 25 (uvs b), cel b6 25 (uvs a)]
  obtain ⟨G1, G2, G3, G4⟩ := gives hk hx hy hz ha hb
  replace G1 : (registerL V0 k).1 = 0 := G1
  replace G2 : (mintL (registerL V0 k).2 k x a).1 = 0 := G2
  replace G3 : nat4 a < nat4 b → (moveL (mintL (registerL V0 k).2 k x a).2 k x y b).1 = 85 := G3
  replace G4 : ¬ nat4 a < nat4 b → Gives3 (mintL (registerL V0 k).2 k x a).2 k x y z a b ∧
      Gives7 (pullL (allowL (pullL (moveL (moveL (mintL (registerL V0 k).2 k x a).2 k x y b).2 k y x b).2 k z x y b).2 k x z b).2 k z x y b).2 k x y z := G4
  (conv => whnf); repeat ((first | with_reducible refine CondG.tt ?_ | with_reducible refine CondG.ff ?_); conv => whnf)
  refine CallG.of (pre := [stP 127 s _ (tabFind []) V0 0]) (rest := cel b10 33 (bvs z) :: cel b9 33 (bvs y) :: cel b8 33 (bvs x) :: cel b7 25 (uvs b) :: cel b6 25 (uvs a) :: (emptyL 154 177 t vb q ob ++ [cel b1 27 (giftC tok lv a b)])) (register_at _ s _ V0 0 k hsrc tabOk (by decide)) (Ent.sel (T := emptyL 154 177 t vb q ob ++ [cel b1 27 (giftC tok lv a b)]) (A := [_, _, _, _, _, _]) [5, 0, 1, 2, 3, 4] rfl) ?_
  rintro _ _ ⟨rfl, rfl⟩
  rw [G1]
  generalize (registerL V0 k).2 = V1 at *
  (conv => whnf); repeat ((first | with_reducible refine CondG.tt ?_ | with_reducible refine CondG.ff ?_); conv => whnf)
  refine LoadNG.at (vs := bvs x) h20x (.tl (.tl (.tl .all))) ?_
  (conv => whnf); repeat ((first | with_reducible refine CondG.tt ?_ | with_reducible refine CondG.ff ?_); conv => whnf)
  refine LoadNG.at (vs := uvs a) h4a (.tl (.tl (.tl (.tl (.tl .all))))) ?_
  (conv => whnf); repeat ((first | with_reducible refine CondG.tt ?_ | with_reducible refine CondG.ff ?_); conv => whnf)
  refine CallG.of (pre := [stP 127 s _ (tabFind []) V1 2]) (rest := cel b10 33 (bvs z) :: cel b9 33 (bvs y) :: cel b8 33 (bvs x) :: cel b7 25 (uvs b) :: cel b6 25 (uvs a) :: (emptyL 154 177 t vb q ob ++ [cel b1 27 (giftC tok lv a b)])) (mint_at _ s _ V1 2 k x a hx.1 ha (hsrc) tabOk (by decide)) (Ent.refl _) ?_
  rintro _ _ ⟨rfl, rfl⟩
  rw [G2]
  generalize (mintL V1 k x a).2 = V2 at *
  (conv => whnf); repeat ((first | with_reducible refine CondG.tt ?_ | with_reducible refine CondG.ff ?_); conv => whnf)
  refine LoadNG.at (vs := bvs x) h20x (.tl (.tl (.tl .all))) ?_
  (conv => whnf); repeat ((first | with_reducible refine CondG.tt ?_ | with_reducible refine CondG.ff ?_); conv => whnf)
  refine LoadNG.at (vs := bvs y) h20y (.tl (.tl .all)) ?_
  (conv => whnf); repeat ((first | with_reducible refine CondG.tt ?_ | with_reducible refine CondG.ff ?_); conv => whnf)
  refine LoadNG.at (vs := uvs b) h4b (.tl (.tl (.tl (.tl .all)))) ?_
  (conv => whnf); repeat ((first | with_reducible refine CondG.tt ?_ | with_reducible refine CondG.ff ?_); conv => whnf)
  refine CallG.of (pre := [stP 127 s _ (tabFind []) V2 4]) (rest := cel b10 33 (bvs z) :: cel b9 33 (bvs y) :: cel b8 33 (bvs x) :: cel b7 25 (uvs b) :: cel b6 25 (uvs a) :: (emptyL 154 177 t vb q ob ++ [cel b1 27 (giftC tok lv a b)])) (move_at _ s _ V2 4 k x y b hx.1 hy.1 hb (hsrc) tabOk (by decide)) (Ent.refl _) ?_
  rintro _ _ ⟨rfl, rfl⟩
  (conv => whnf); repeat ((first | with_reducible refine CondG.tt ?_ | with_reducible refine CondG.ff ?_); conv => whnf)
  refine LoadNG.at (vs := uvs a) h4a (.tl (.tl (.tl (.tl (.tl .all))))) ?_
  (conv => whnf); repeat ((first | with_reducible refine CondG.tt ?_ | with_reducible refine CondG.ff ?_); conv => whnf)
  refine LoadNG.at (vs := uvs b) h4b (.tl (.tl (.tl (.tl .all)))) ?_
  (conv => whnf); repeat ((first | with_reducible refine CondG.tt ?_ | with_reducible refine CondG.ff ?_); conv => whnf)
  refine CallG.pure (cmp_spec _ a b ha hb) ?_
  rintro _ _ ⟨rfl, rfl⟩
  by_cases hs : nat4 a < nat4 b
  · rw [G3 hs, show cmpN (nat4 a) (nat4 b) = -1 from by rw [cmpN, if_pos hs]]
    (conv => whnf); repeat ((first | with_reducible refine CondG.tt ?_ | with_reducible refine CondG.ff ?_); conv => whnf)
    refine CondG.ff ?_
    (conv => whnf); repeat ((first | with_reducible refine CondG.tt ?_ | with_reducible refine CondG.ff ?_); conv => whnf)
    refine CondG.ff ?_
    (conv => whnf); repeat ((first | with_reducible refine CondG.tt ?_ | with_reducible refine CondG.ff ?_); conv => whnf)
    refine CondG.tt ?_
    (conv => whnf); repeat ((first | with_reducible refine CondG.tt ?_ | with_reducible refine CondG.ff ?_); conv => whnf)
    refine CondG.ff ?_
    (conv => whnf); repeat ((first | with_reducible refine CondG.tt ?_ | with_reducible refine CondG.ff ?_); conv => whnf)
    refine CondG.ff ?_
    (conv => whnf); repeat ((first | with_reducible refine CondG.tt ?_ | with_reducible refine CondG.ff ?_); conv => whnf)
    refine CondG.tt ?_
    (conv => whnf); repeat ((first | with_reducible refine CondG.tt ?_ | with_reducible refine CondG.ff ?_); conv => whnf)
    exact ⟨[], Ent.nil _, rfl⟩
  obtain ⟨G5, G6⟩ := G4 hs
  obtain ⟨g, h, p, j, m, n⟩ := G5
  obtain ⟨left, c, d, u, v, w⟩ := G6
  have ec : ¬ cmpN (nat4 a) (nat4 b) < 0 := by
    unfold cmpN
    rw [if_neg hs]
    split <;> decide
  rw [g]
  (conv => whnf); repeat ((first | with_reducible refine CondG.tt ?_ | with_reducible refine CondG.ff ?_); conv => whnf)
  refine CondG.ff ?_
  (conv => whnf); repeat ((first | with_reducible refine CondG.tt ?_ | with_reducible refine CondG.ff ?_); conv => whnf)
  refine CondG.ff ?_
  (conv => whnf); repeat ((first | with_reducible refine CondG.tt ?_ | with_reducible refine CondG.ff ?_); conv => whnf)
  refine CondG.decF ec ?_
  (conv => whnf); repeat ((first | with_reducible refine CondG.tt ?_ | with_reducible refine CondG.ff ?_); conv => whnf)
  refine CondG.ndec (fun _ => ?_) (fun h => absurd h ec)
  (conv => whnf); repeat ((first | with_reducible refine CondG.tt ?_ | with_reducible refine CondG.ff ?_); conv => whnf)
  refine CondG.ff ?_
  (conv => whnf); repeat ((first | with_reducible refine CondG.tt ?_ | with_reducible refine CondG.ff ?_); conv => whnf)
  refine CondG.decF ec ?_
  generalize (moveL V2 k x y b).2 = V3 at *
  (conv => whnf); repeat ((first | with_reducible refine CondG.tt ?_ | with_reducible refine CondG.ff ?_); conv => whnf)
  refine LoadNG.at (vs := bvs y) h20y (.tl (.tl .all)) ?_
  (conv => whnf); repeat ((first | with_reducible refine CondG.tt ?_ | with_reducible refine CondG.ff ?_); conv => whnf)
  refine LoadNG.at (vs := bvs x) h20x (.tl (.tl (.tl .all))) ?_
  (conv => whnf); repeat ((first | with_reducible refine CondG.tt ?_ | with_reducible refine CondG.ff ?_); conv => whnf)
  refine LoadNG.at (vs := uvs b) h4b (.tl (.tl (.tl (.tl .all)))) ?_
  (conv => whnf); repeat ((first | with_reducible refine CondG.tt ?_ | with_reducible refine CondG.ff ?_); conv => whnf)
  refine CallG.of (pre := [stP 127 s _ (tabFind []) V3 6]) (rest := cel b10 33 (bvs z) :: cel b9 33 (bvs y) :: cel b8 33 (bvs x) :: cel b7 25 (uvs b) :: cel b6 25 (uvs a) :: (emptyL 154 177 t vb q ob ++ [cel b1 27 (giftC tok lv a b)])) (move_at _ s _ V3 6 k y x b hy.1 hx.1 hb (hsrc) tabOk (by decide)) (Ent.refl _) ?_
  rintro _ _ ⟨rfl, rfl⟩
  rw [h]
  generalize (moveL V3 k y x b).2 = V4 at *
  (conv => whnf); repeat ((first | with_reducible refine CondG.tt ?_ | with_reducible refine CondG.ff ?_); conv => whnf)
  refine LoadNG.at (vs := bvs x) h20x (.tl (.tl (.tl .all))) ?_
  (conv => whnf); repeat ((first | with_reducible refine CondG.tt ?_ | with_reducible refine CondG.ff ?_); conv => whnf)
  refine CallG.of (pre := [stP 127 s _ (tabFind []) V4 8]) (rest := cel b10 33 (bvs z) :: cel b9 33 (bvs y) :: cel b8 33 (bvs x) :: cel b7 25 (uvs b) :: cel b6 25 (uvs a) :: (emptyL 154 177 t vb q ob ++ [cel b1 27 (giftC tok lv a b)])) (balance_at _ s _ V4 8 k x hx.1 (hsrc) tabOk) (Ent.refl _) ?_
  rintro _ _ ⟨rfl, rfl⟩
  rw [p]
  (conv => whnf); repeat ((first | with_reducible refine CondG.tt ?_ | with_reducible refine CondG.ff ?_); conv => whnf)
  intro b16
  (conv => whnf); repeat ((first | with_reducible refine CondG.tt ?_ | with_reducible refine CondG.ff ?_); conv => whnf)
  refine StoreG.at h4a (Upd.whole (by rw [h4a]; rfl) (uvs_one _)) ?_
  (conv => whnf); repeat ((first | with_reducible refine CondG.tt ?_ | with_reducible refine CondG.ff ?_); conv => whnf)
  refine LoadNG.at (vs := bvs z) h20z (.tl (.tl .all)) ?_
  (conv => whnf); repeat ((first | with_reducible refine CondG.tt ?_ | with_reducible refine CondG.ff ?_); conv => whnf)
  refine LoadNG.at (vs := bvs x) h20x (.tl (.tl (.tl (.tl .all)))) ?_
  (conv => whnf); repeat ((first | with_reducible refine CondG.tt ?_ | with_reducible refine CondG.ff ?_); conv => whnf)
  refine LoadNG.at (vs := bvs y) h20y (.tl (.tl (.tl .all))) ?_
  (conv => whnf); repeat ((first | with_reducible refine CondG.tt ?_ | with_reducible refine CondG.ff ?_); conv => whnf)
  refine LoadNG.at (vs := uvs b) h4b (.tl (.tl (.tl (.tl (.tl .all))))) ?_
  (conv => whnf); repeat ((first | with_reducible refine CondG.tt ?_ | with_reducible refine CondG.ff ?_); conv => whnf)
  refine CallG.of (pre := [stP 127 s _ (tabFind []) V4 8]) (rest := cel b16 25 (uvs a) :: cel b10 33 (bvs z) :: cel b9 33 (bvs y) :: cel b8 33 (bvs x) :: cel b7 25 (uvs b) :: cel b6 25 (uvs a) :: (emptyL 154 177 t vb q ob ++ [cel b1 27 (giftC tok lv a b)])) (pull_at _ s _ V4 8 k z x y b hz.1 hx.1 hy.1 hb (hsrc.left [cel b16 25 (uvs a)]) tabOk (by decide)) (Ent.perm (List.Perm.swap _ _ _)) ?_
  rintro _ _ ⟨rfl, rfl⟩
  rw [j]
  generalize (pullL V4 k z x y b).2 = V5 at *
  (conv => whnf); repeat ((first | with_reducible refine CondG.tt ?_ | with_reducible refine CondG.ff ?_); conv => whnf)
  refine LoadNG.at (vs := bvs x) h20x (.tl (.tl (.tl (.tl .all)))) ?_
  (conv => whnf); repeat ((first | with_reducible refine CondG.tt ?_ | with_reducible refine CondG.ff ?_); conv => whnf)
  refine LoadNG.at (vs := bvs z) h20z (.tl (.tl .all)) ?_
  (conv => whnf); repeat ((first | with_reducible refine CondG.tt ?_ | with_reducible refine CondG.ff ?_); conv => whnf)
  refine LoadNG.at (vs := uvs b) h4b (.tl (.tl (.tl (.tl (.tl .all))))) ?_
  (conv => whnf); repeat ((first | with_reducible refine CondG.tt ?_ | with_reducible refine CondG.ff ?_); conv => whnf)
  refine CallG.of (pre := [stP 127 s _ (tabFind []) V5 11]) (rest := cel b16 25 (uvs a) :: cel b10 33 (bvs z) :: cel b9 33 (bvs y) :: cel b8 33 (bvs x) :: cel b7 25 (uvs b) :: cel b6 25 (uvs a) :: (emptyL 154 177 t vb q ob ++ [cel b1 27 (giftC tok lv a b)])) (allow_at _ s _ V5 11 k x z b hx.1 hz.1 hb (hsrc.left [cel b16 25 (uvs a)]) tabOk (by decide)) (Ent.refl _) ?_
  rintro _ _ ⟨rfl, rfl⟩
  rw [m]
  generalize (allowL V5 k x z b).2 = V6 at *
  (conv => whnf); repeat ((first | with_reducible refine CondG.tt ?_ | with_reducible refine CondG.ff ?_); conv => whnf)
  refine LoadNG.at (vs := bvs z) h20z (.tl (.tl .all)) ?_
  (conv => whnf); repeat ((first | with_reducible refine CondG.tt ?_ | with_reducible refine CondG.ff ?_); conv => whnf)
  refine LoadNG.at (vs := bvs x) h20x (.tl (.tl (.tl (.tl .all)))) ?_
  (conv => whnf); repeat ((first | with_reducible refine CondG.tt ?_ | with_reducible refine CondG.ff ?_); conv => whnf)
  refine LoadNG.at (vs := bvs y) h20y (.tl (.tl (.tl .all))) ?_
  (conv => whnf); repeat ((first | with_reducible refine CondG.tt ?_ | with_reducible refine CondG.ff ?_); conv => whnf)
  refine LoadNG.at (vs := uvs b) h4b (.tl (.tl (.tl (.tl (.tl .all))))) ?_
  (conv => whnf); repeat ((first | with_reducible refine CondG.tt ?_ | with_reducible refine CondG.ff ?_); conv => whnf)
  refine CallG.of (pre := [stP 127 s _ (tabFind []) V6 13]) (rest := cel b16 25 (uvs a) :: cel b10 33 (bvs z) :: cel b9 33 (bvs y) :: cel b8 33 (bvs x) :: cel b7 25 (uvs b) :: cel b6 25 (uvs a) :: (emptyL 154 177 t vb q ob ++ [cel b1 27 (giftC tok lv a b)])) (pull_at _ s _ V6 13 k z x y b hz.1 hx.1 hy.1 hb (hsrc.left [cel b16 25 (uvs a)]) tabOk (by decide)) (Ent.refl _) ?_
  rintro _ _ ⟨rfl, rfl⟩
  rw [n]
  generalize (pullL V6 k z x y b).2 = V7 at *
  (conv => whnf); repeat ((first | with_reducible refine CondG.tt ?_ | with_reducible refine CondG.ff ?_); conv => whnf)
  refine LoadNG.at (vs := bvs x) h20x (.tl (.tl (.tl (.tl .all)))) ?_
  (conv => whnf); repeat ((first | with_reducible refine CondG.tt ?_ | with_reducible refine CondG.ff ?_); conv => whnf)
  refine LoadNG.at (vs := bvs z) h20z (.tl (.tl .all)) ?_
  (conv => whnf); repeat ((first | with_reducible refine CondG.tt ?_ | with_reducible refine CondG.ff ?_); conv => whnf)
  refine CallG.of (pre := [stP 127 s _ (tabFind []) V7 16]) (rest := cel b16 25 (uvs a) :: cel b10 33 (bvs z) :: cel b9 33 (bvs y) :: cel b8 33 (bvs x) :: cel b7 25 (uvs b) :: cel b6 25 (uvs a) :: (emptyL 154 177 t vb q ob ++ [cel b1 27 (giftC tok lv a b)])) (allowed_at _ s _ V7 16 k x z hx.1 hz.1 (hsrc.left [cel b16 25 (uvs a)]) tabOk) (Ent.refl _) ?_
  rintro _ _ ⟨rfl, rfl⟩
  rw [left]
  (conv => whnf); repeat ((first | with_reducible refine CondG.tt ?_ | with_reducible refine CondG.ff ?_); conv => whnf)
  intro b21
  (conv => whnf); repeat ((first | with_reducible refine CondG.tt ?_ | with_reducible refine CondG.ff ?_); conv => whnf)
  refine StoreG.at rfl (Upd.whole rfl (uvs_one z4)) ?_
  (conv => whnf); repeat ((first | with_reducible refine CondG.tt ?_ | with_reducible refine CondG.ff ?_); conv => whnf)
  refine CondG.ff ?_
  (conv => whnf); repeat ((first | with_reducible refine CondG.tt ?_ | with_reducible refine CondG.ff ?_); conv => whnf)
  refine CondG.ff ?_
  (conv => whnf); repeat ((first | with_reducible refine CondG.tt ?_ | with_reducible refine CondG.ff ?_); conv => whnf)
  refine LoadNG.at (vs := uvs a) h4a (.tl (.tl .all)) ?_
  (conv => whnf); repeat ((first | with_reducible refine CondG.tt ?_ | with_reducible refine CondG.ff ?_); conv => whnf)
  refine LoadNG.at (vs := uvs a) h4a (.tl (.tl (.tl (.tl (.tl (.tl (.tl .all))))))) ?_
  (conv => whnf); repeat ((first | with_reducible refine CondG.tt ?_ | with_reducible refine CondG.ff ?_); conv => whnf)
  refine DoesG.eqv 8 (List.replicate 4 (.int .u64)) (by kernel_rfl) (by decide) (by kernel_rfl) (by kernel_rfl) (wt_uvs ha.len) (wt_uvs ha.len) ?_
  (conv => whnf); repeat ((first | with_reducible refine CondG.tt ?_ | with_reducible refine CondG.ff ?_); conv => whnf)
  refine CondG.split (fun h => absurd h (by simp)) (fun _ => ?_)
  (conv => whnf); repeat ((first | with_reducible refine CondG.tt ?_ | with_reducible refine CondG.ff ?_); conv => whnf)
  refine CondG.ff ?_
  (conv => whnf); repeat ((first | with_reducible refine CondG.tt ?_ | with_reducible refine CondG.ff ?_); conv => whnf)
  refine CondG.ff ?_
  (conv => whnf); repeat ((first | with_reducible refine CondG.tt ?_ | with_reducible refine CondG.ff ?_); conv => whnf)
  refine CondG.ff ?_
  (conv => whnf); repeat ((first | with_reducible refine CondG.tt ?_ | with_reducible refine CondG.ff ?_); conv => whnf)
  refine LoadNG.at (vs := uvs z4) rfl .all ?_
  (conv => whnf); repeat ((first | with_reducible refine CondG.tt ?_ | with_reducible refine CondG.ff ?_); conv => whnf)
  refine BuildG.of (cs := uvs z4) rfl ?_
  (conv => whnf); repeat ((first | with_reducible refine CondG.tt ?_ | with_reducible refine CondG.ff ?_); conv => whnf)
  refine DoesG.eqv 8 (List.replicate 4 (.int .u64)) (by kernel_rfl) (by decide) (by kernel_rfl) (by kernel_rfl) (wt_uvs z4_len) (wt_uvs z4_len) ?_
  (conv => whnf); repeat ((first | with_reducible refine CondG.tt ?_ | with_reducible refine CondG.ff ?_); conv => whnf)
  refine CondG.split (fun h => absurd h (by simp)) (fun _ => ?_)
  (conv => whnf); repeat ((first | with_reducible refine CondG.tt ?_ | with_reducible refine CondG.ff ?_); conv => whnf)
  refine LoadNG.at (vs := uvs b) h4b (.tl (.tl (.tl (.tl (.tl (.tl .all)))))) ?_
  (conv => whnf); repeat ((first | with_reducible refine CondG.tt ?_ | with_reducible refine CondG.ff ?_); conv => whnf)
  refine BuildG.of (cs := uvs z4) rfl ?_
  (conv => whnf); repeat ((first | with_reducible refine CondG.tt ?_ | with_reducible refine CondG.ff ?_); conv => whnf)
  refine DoesG.eqv 8 (List.replicate 4 (.int .u64)) (by kernel_rfl) (by decide) (by kernel_rfl) (by kernel_rfl) (wt_uvs hb.len) (wt_uvs z4_len) ?_
  (conv => whnf); repeat ((first | with_reducible refine CondG.tt ?_ | with_reducible refine CondG.ff ?_); conv => whnf)
  have hbu : uvs b = uvs z4 ↔ b = z4 := uvs_inj
  by_cases hbz : b = z4
  rw [if_pos hbz]
  refine CondG.split (fun h => absurd h (by simp [hbz])) (fun _ => ?_)
  (conv => whnf); repeat ((first | with_reducible refine CondG.tt ?_ | with_reducible refine CondG.ff ?_); conv => whnf)
  refine CondG.ff ?_
  rotate_left
  rw [if_neg hbz]
  refine CondG.split (fun h => absurd h (by simp [hbu, hbz])) (fun _ => ?_)
  (conv => whnf); repeat ((first | with_reducible refine CondG.tt ?_ | with_reducible refine CondG.ff ?_); conv => whnf)
  refine CondG.tt ?_
  (conv => whnf); repeat ((first | with_reducible refine CondG.tt ?_ | with_reducible refine CondG.ff ?_); conv => whnf)
  refine CondG.ff ?_
  all_goals
    have hcx := (balL_ok V7 k x)
    have hcy := (balL_ok V7 k y)
    have hcxl : (uvs (balL V7 k x).1).length = 4 := by rw [uvs_len, hcx.len]
    have hcyl : (uvs (balL V7 k y).1).length = 4 := by rw [uvs_len, hcy.len]
    (conv => whnf); repeat ((first | with_reducible refine CondG.tt ?_ | with_reducible refine CondG.ff ?_); conv => whnf)
    refine LoadNG.at (vs := bvs x) h20x (.tl (.tl (.tl (.tl (.tl .all))))) ?_
    (conv => whnf); repeat ((first | with_reducible refine CondG.tt ?_ | with_reducible refine CondG.ff ?_); conv => whnf)
    refine CallG.of (pre := [stP 127 s _ (tabFind []) V7 16]) (rest := cel b21 25 (uvs z4) :: cel b16 25 (uvs a) :: cel b10 33 (bvs z) :: cel b9 33 (bvs y) :: cel b8 33 (bvs x) :: cel b7 25 (uvs b) :: cel b6 25 (uvs a) :: (emptyL 154 177 t vb q ob ++ [cel b1 27 (giftC tok lv a b)])) (balance_at _ s _ V7 16 k x hx.1 (hsrc.left [cel b21 25 (uvs z4), cel b16 25 (uvs a)]) tabOk) (Ent.perm (List.Perm.swap _ _ _)) ?_
    rintro _ _ ⟨rfl, rfl⟩
    rw [c]
    (conv => whnf); repeat ((first | with_reducible refine CondG.tt ?_ | with_reducible refine CondG.ff ?_); conv => whnf)
    intro b23
    (conv => whnf); repeat ((first | with_reducible refine CondG.tt ?_ | with_reducible refine CondG.ff ?_); conv => whnf)
    refine StoreG.at hcxl (Upd.whole (by rw [hcxl]; rfl) (uvs_one _)) ?_
    (conv => whnf); repeat ((first | with_reducible refine CondG.tt ?_ | with_reducible refine CondG.ff ?_); conv => whnf)
    refine LoadNG.at (vs := bvs y) h20y (.tl (.tl (.tl (.tl (.tl .all))))) ?_
    (conv => whnf); repeat ((first | with_reducible refine CondG.tt ?_ | with_reducible refine CondG.ff ?_); conv => whnf)
    refine CallG.of (pre := [stP 127 s _ (tabFind []) V7 16]) (rest := cel b23 25 (uvs (balL V7 k x).1) :: cel b21 25 (uvs z4) :: cel b16 25 (uvs a) :: cel b10 33 (bvs z) :: cel b9 33 (bvs y) :: cel b8 33 (bvs x) :: cel b7 25 (uvs b) :: cel b6 25 (uvs a) :: (emptyL 154 177 t vb q ob ++ [cel b1 27 (giftC tok lv a b)])) (balance_at _ s _ V7 16 k y hy.1 (hsrc.left [cel b23 25 (uvs (balL V7 k x).1), cel b21 25 (uvs z4), cel b16 25 (uvs a)]) tabOk) (Ent.perm (List.Perm.swap _ _ _)) ?_
    rintro _ _ ⟨rfl, rfl⟩
    rw [d]
    (conv => whnf); repeat ((first | with_reducible refine CondG.tt ?_ | with_reducible refine CondG.ff ?_); conv => whnf)
    intro b25
    (conv => whnf); repeat ((first | with_reducible refine CondG.tt ?_ | with_reducible refine CondG.ff ?_); conv => whnf)
    refine StoreG.at hcyl (Upd.whole (by rw [hcyl]; rfl) (uvs_one _)) ?_
    (conv => whnf); repeat ((first | with_reducible refine CondG.tt ?_ | with_reducible refine CondG.ff ?_); conv => whnf)
    refine LoadNG.at (vs := bvs x) h20x (.tl (.tl (.tl (.tl (.tl (.tl (.tl .all))))))) ?_
    (conv => whnf); repeat ((first | with_reducible refine CondG.tt ?_ | with_reducible refine CondG.ff ?_); conv => whnf)
    refine LoadNG.at (vs := uvs (balL V7 k x).1) hcxl (.tl (.tl .all)) ?_
    (conv => whnf); repeat ((first | with_reducible refine CondG.tt ?_ | with_reducible refine CondG.ff ?_); conv => whnf)
    refine CallG.of (pre := [stP 127 s _ (tabFind []) V7 16]) (rest := cel b25 25 (uvs (balL V7 k y).1) :: cel b23 25 (uvs (balL V7 k x).1) :: cel b21 25 (uvs z4) :: cel b16 25 (uvs a) :: cel b10 33 (bvs z) :: cel b9 33 (bvs y) :: cel b8 33 (bvs x) :: cel b7 25 (uvs b) :: cel b6 25 (uvs a) :: (emptyL 154 177 t vb q ob ++ [cel b1 27 (giftC tok lv a b)])) (burn_at _ s _ V7 16 k x (balL V7 k x).1 hx.1 hcx (hsrc.left [cel b25 25 (uvs (balL V7 k y).1), cel b23 25 (uvs (balL V7 k x).1), cel b21 25 (uvs z4), cel b16 25 (uvs a)]) tabOk (by decide)) (Ent.perm (List.Perm.swap _ _ _)) ?_
    rintro _ _ ⟨rfl, rfl⟩
    rw [u]
    generalize (burnL V7 k x (balL V7 k x).1).2 = V8 at *
    (conv => whnf); repeat ((first | with_reducible refine CondG.tt ?_ | with_reducible refine CondG.ff ?_); conv => whnf)
    refine LoadNG.at (vs := bvs x) h20x (.tl (.tl (.tl (.tl (.tl (.tl (.tl .all))))))) ?_
    (conv => whnf); repeat ((first | with_reducible refine CondG.tt ?_ | with_reducible refine CondG.ff ?_); conv => whnf)
    refine LoadNG.at (vs := bvs y) h20y (.tl (.tl (.tl (.tl (.tl (.tl .all)))))) ?_
    (conv => whnf); repeat ((first | with_reducible refine CondG.tt ?_ | with_reducible refine CondG.ff ?_); conv => whnf)
    refine DoesG.eqv 8 (List.replicate 20 (.int .u8)) (by kernel_rfl) (by decide) (by kernel_rfl) (by kernel_rfl) (wt_bvs hx.1) (wt_bvs hy.1) ?_
    (conv => whnf); repeat ((first | with_reducible refine CondG.tt ?_ | with_reducible refine CondG.ff ?_); conv => whnf)
    refine CondG.split (fun hxy => ?_) (fun hxy => ?_)
    have hne : x ≠ y := fun e => by rw [e] at hxy; simp at hxy
    rw [if_neg hne] at w
    (conv => whnf); repeat ((first | with_reducible refine CondG.tt ?_ | with_reducible refine CondG.ff ?_); conv => whnf)
    refine LoadNG.at (vs := bvs y) h20y (.tl (.tl (.tl (.tl (.tl (.tl .all)))))) ?_
    (conv => whnf); repeat ((first | with_reducible refine CondG.tt ?_ | with_reducible refine CondG.ff ?_); conv => whnf)
    refine LoadNG.at (vs := uvs (balL V7 k y).1) hcyl (.tl .all) ?_
    (conv => whnf); repeat ((first | with_reducible refine CondG.tt ?_ | with_reducible refine CondG.ff ?_); conv => whnf)
    refine CallG.of (pre := [stP 127 s _ (tabFind []) V8 18]) (rest := cel b25 25 (uvs (balL V7 k y).1) :: cel b23 25 (uvs (balL V7 k x).1) :: cel b21 25 (uvs z4) :: cel b16 25 (uvs a) :: cel b10 33 (bvs z) :: cel b9 33 (bvs y) :: cel b8 33 (bvs x) :: cel b7 25 (uvs b) :: cel b6 25 (uvs a) :: (emptyL 154 177 t vb q ob ++ [cel b1 27 (giftC tok lv a b)])) (burn_at _ s _ V8 18 k y (balL V7 k y).1 hy.1 hcy (hsrc.left [cel b25 25 (uvs (balL V7 k y).1), cel b23 25 (uvs (balL V7 k x).1), cel b21 25 (uvs z4), cel b16 25 (uvs a)]) tabOk (by decide)) (Ent.refl _) ?_
    rintro _ _ ⟨rfl, rfl⟩
    rw [v hne]
    generalize (burnL V8 k y (balL V7 k y).1).2 = V9 at *
    rotate_left
    have heq : x = y := Classical.byContradiction fun hne => by
      have : ¬ bvs x = bvs y := fun e => hne (bvs_inj.1 e)
      simp [this] at hxy
    rw [if_pos heq] at w
    all_goals
      (conv => whnf); repeat ((first | with_reducible refine CondG.tt ?_ | with_reducible refine CondG.ff ?_); conv => whnf)
      refine CallG.of (pre := [stP 127 s _ (tabFind []) _ _]) (rest := cel b25 25 (uvs (balL V7 k y).1) :: cel b23 25 (uvs (balL V7 k x).1) :: cel b21 25 (uvs z4) :: cel b16 25 (uvs a) :: cel b10 33 (bvs z) :: cel b9 33 (bvs y) :: cel b8 33 (bvs x) :: cel b7 25 (uvs b) :: cel b6 25 (uvs a) :: (emptyL 154 177 t vb q ob ++ [cel b1 27 (giftC tok lv a b)])) (token_at _ s _ _ _ k (hsrc.left [cel b25 25 (uvs (balL V7 k y).1), cel b23 25 (uvs (balL V7 k x).1), cel b21 25 (uvs z4), cel b16 25 (uvs a)]) tabOk) (Ent.refl _) ?_
      rintro _ _ ⟨rfl, rfl⟩
      rw [w]
      (conv => whnf); repeat ((first | with_reducible refine CondG.tt ?_ | with_reducible refine CondG.ff ?_); conv => whnf)
      intro b29
      (conv => whnf); repeat ((first | with_reducible refine CondG.tt ?_ | with_reducible refine CondG.ff ?_); conv => whnf)
      refine StoreG.at rfl (Upd.whole rfl (TokD.cells_one ⟨true, false, z4⟩)) ?_
      (conv => whnf); repeat ((first | with_reducible refine CondG.tt ?_ | with_reducible refine CondG.ff ?_); conv => whnf)
      refine CondG.tt ?_
      (conv => whnf); repeat ((first | with_reducible refine CondG.tt ?_ | with_reducible refine CondG.ff ?_); conv => whnf)
      refine CondG.tt ?_
      (conv => whnf); repeat ((first | with_reducible refine CondG.tt ?_ | with_reducible refine CondG.ff ?_); conv => whnf)
      refine CondG.tt ?_
      (conv => whnf); repeat ((first | with_reducible refine CondG.tt ?_ | with_reducible refine CondG.ff ?_); conv => whnf)
      refine CondG.tt ?_
      (conv => whnf); repeat ((first | with_reducible refine CondG.tt ?_ | with_reducible refine CondG.ff ?_); conv => whnf)
      refine CondG.tt ?_
      (conv => whnf); repeat ((first | with_reducible refine CondG.tt ?_ | with_reducible refine CondG.ff ?_); conv => whnf)
      refine LoadNG.at (vs := (TokD.mk true false z4).cells) rfl .all ?_
      (conv => whnf); repeat ((first | with_reducible refine CondG.tt ?_ | with_reducible refine CondG.ff ?_); conv => whnf)
      refine BuildG.of (cs := (TokD.mk true false z4).cells) rfl ?_
      (conv => whnf); repeat ((first | with_reducible refine CondG.tt ?_ | with_reducible refine CondG.ff ?_); conv => whnf)
      refine DoesG.eqv 8 tokK (by kernel_rfl) (by decide) (by kernel_rfl) (by kernel_rfl) (TokD.wt (t := ⟨true, false, z4⟩) rfl) (TokD.wt (t := ⟨true, false, z4⟩) rfl) ?_
      (conv => whnf); repeat ((first | with_reducible refine CondG.tt ?_ | with_reducible refine CondG.ff ?_); conv => whnf)
      exact ⟨[], Ent.nil _, by simp [retV]⟩
end Go.Proofs.YtnbcbdlbejdkpaaDoor
