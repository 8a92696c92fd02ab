import Derived.Test.YtnbcbdlbejdkpaaGreatDoorRe
import Derived.Test.YtnbcbdlbejdkpaaGreatDoorZWh
import Derived.Test.YtnbcbdlbejdkpaaGreatDoorZMk
namespace Go.Proofs.YtnbcbdlbejdkpaaGreatDoor
open Go Go.Sl
theorem nvs_fill {out : List Nat} {zs : List Value} {n i : Nat} (hi : i < n) (ho : out.length = i) (hz : zs.length = n) (x : Nat) : (nvs out ++ zs.drop i).set i (.int .i64 x) = nvs (out ++ [x]) ++ zs.drop (i + 1) := by
 have hl : (nvs out).length = i := by rw [nvs_len, ho]
 rw [List.set_append_right _ _ (by omega), hl, Nat.sub_self, List.drop_eq_getElem_cons (show i < zs.length by omega), List.set_cons_zero]
 simp [nvs]
theorem less2_spec (F : List HP) (va vb : Value) (a b : List Nat) (hA : RdS F va a.length (nvs a)) (hB : RdS F vb b.length (nvs b)) (ha : isBits a) (hb : isBits b) (hal : a.length ≤ 1099511627776) (hbl : b.length ≤ a.length) (hv : val2 b ≤ val2 a) :
  SpecF Tryz.prog 109 [va, vb] F [] (fun r L => ∃ c out, isBits out ∧ val2 out = val2 a - val2 b ∧ out.length = a.length ∧ RdS (cel c 3 (nvs out) :: F) r (cutL out).length (nvs (cutL out)) ∧ L = [cel c 3 (nvs out)]) := by
 obtain ⟨aa, ac, rfl⟩ := hA.len
 obtain ⟨ba, bc, rfl⟩ := hB.len
 refine fun109.spec rfl ?_
 conv=>whnf
 refine LenG.lit ?_
 conv=>whnf
 refine DoesG.makeG intsT .i64 .i64 (by omega) (by simp only [maxLen]; omega) fun b5 zs hz => ?_
 rw [Nat.mul_one] at hz
 conv=>whnf
 refine LoopG.mk (fun mm e L => ∃ (i c : Nat) (out : List Nat), i ≤ a.length ∧ c < 2 ∧ mm = a.length - i ∧ out.length = i ∧ isBits out ∧ val2 (a.take i) + 2 ^ i * c = val2 out + val2 (b.take i) ∧
   e = [(0, .slice aa a.length ac), (1, .slice ba b.length bc), (4, .slice none 0 0), (5, .slice (some ⟨b5, 0, none⟩) a.length a.length), (6, .int .i64 c), (7, .int .i64 i)] ∧ L = [cel b5 3 (nvs out ++ zs.drop i)]) a.length
  [(0, .slice aa a.length ac), (1, .slice ba b.length bc), (4, .slice none 0 0), (5, .slice (some ⟨b5, 0, none⟩) a.length a.length), (6, .int .i64 0), (7, .int .i64 0)] _ ⟨rfl, rfl, rfl, rfl, rfl, rfl, trivial⟩ (Ent.refl _)
  ⟨0, 0, [], by omega, by decide, rfl, rfl, fun x hx => absurd hx (List.not_mem_nil), by simp [val2], rfl, rfl⟩ ?_
 rintro mm e L ⟨i, c, out, hi, hc, rfl, hol, hob, hw, rfl, rfl⟩
 conv=>whnf
 refine LenG.lit ?_
 conv=>whnf
 refine CondG.dec (fun h1 => ?_) (fun h1 => ?_)
 ·have xa := gd_bit ha i
  have xb := gd_bit hb i
  conv=>whnf
  refine IdxG.rd hA (by omega) fun cb o hcb => ?_
  conv=>whnf
  refine LoadG.atF (v := .int .i64 (a.getD i 0 : Nat)) (hcb.one (i := ((i : Nat) : Int).toNat * 1) (by rw [Int.toNat_natCast, Nat.mul_one]; exact nvs_gd (by omega))) ?_
  conv=>whnf
  refine ArithG.i64' (((a.getD i 0 : Nat) : Int) - c) rfl (by omega) ?_
  conv=>whnf
  refine LenG.lit ?_
  conv=>whnf
  by_cases h2 : (i : Int) < (b.length : Int)
  ·refine .decT (by assumption) ?_;(conv=>whnf)
   refine IdxG.rd hB (by omega) fun cb o hcb => ?_
   conv=>whnf
   refine LoadG.atF (v := .int .i64 (b.getD i 0 : Nat)) (hcb.one (i := ((i : Nat) : Int).toNat * 1) (by rw [Int.toNat_natCast, Nat.mul_one]; exact nvs_gd (by omega))) ?_
   conv=>whnf
   obtain ⟨S, hS⟩ : ∃ S : Int, S = ((a.getD i 0 : Nat) : Int) - c - (b.getD i 0 : Nat) := ⟨_, rfl⟩
   refine ArithG.i64' S hS.symm (by omega) ?_
   conv=>whnf
   by_cases h3 : S < 0
   ·refine .decT (by assumption) ?_;(conv=>whnf)
    refine ArithG.i64' (S + 2) (by omega) (by omega) ?_
    conv=>whnf
    refine ⟨b5, 0, a.length, a.length, rfl, by omega, ?_⟩
    conv=>whnf
    refine StoreG.at (cs := [_]) rfl (Upd.here (by rw [List.length_append, nvs_len, List.length_drop, hz]; omega) rfl) ?_
    conv=>whnf
    rw [show 0 + ((i : Nat) : Int).toNat * 1 = i by omega]
    refine ArithG.i64' ((i + 1 : Nat) : Int) (by omega) (by omega) ?_
    conv=>whnf
    have eo : (nvs out ++ zs.drop i).set i (.int .i64 (S + 2)) = nvs (out ++ [(S + 2).toNat]) ++ zs.drop (i + 1) := by
     have e1 : (S + 2) = (((S + 2).toNat : Nat) : Int) := by omega
     rw [e1]
     exact nvs_fill (by omega) hol hz _
    rw [eo]
    exact ⟨a.length - (i + 1), [(0, .slice aa a.length ac), (1, .slice ba b.length bc), (4, .slice none 0 0), (5, .slice (some ⟨b5, 0, none⟩) a.length a.length), (6, .int .i64 ((1 : Nat) : Int)), (7, .int .i64 ((i + 1 : Nat) : Int))], _, by omega, ⟨rfl, rfl, rfl, rfl, rfl, rfl, trivial⟩, Ent.refl _, i + 1, 1, out ++ [(S + 2).toNat], by omega, by omega, rfl, by rw [List.length_append, hol]; rfl, isBits_snoc hob (by omega), by rw [val2_snoc, hol, val2_getD a, val2_getD b]; exact less_step hw (by omega), rfl, rfl⟩
   ·refine .decF (by assumption) ?_;(conv=>whnf)
    conv=>whnf
    refine ⟨b5, 0, a.length, a.length, rfl, by omega, ?_⟩
    conv=>whnf
    refine StoreG.at (cs := [_]) rfl (Upd.here (by rw [List.length_append, nvs_len, List.length_drop, hz]; omega) rfl) ?_
    conv=>whnf
    rw [show 0 + ((i : Nat) : Int).toNat * 1 = i by omega]
    refine ArithG.i64' ((i + 1 : Nat) : Int) (by omega) (by omega) ?_
    conv=>whnf
    have eo : (nvs out ++ zs.drop i).set i (.int .i64 S) = nvs (out ++ [S.toNat]) ++ zs.drop (i + 1) := by
     have e1 : S = ((S.toNat : Nat) : Int) := by omega
     rw [e1]
     exact nvs_fill (by omega) hol hz _
    rw [eo]
    exact ⟨a.length - (i + 1), [(0, .slice aa a.length ac), (1, .slice ba b.length bc), (4, .slice none 0 0), (5, .slice (some ⟨b5, 0, none⟩) a.length a.length), (6, .int .i64 ((0 : Nat) : Int)), (7, .int .i64 ((i + 1 : Nat) : Int))], _, by omega, ⟨rfl, rfl, rfl, rfl, rfl, rfl, trivial⟩, Ent.refl _, i + 1, 0, out ++ [S.toNat], by omega, by omega, rfl, by rw [List.length_append, hol]; rfl, isBits_snoc hob (by omega), by rw [val2_snoc, hol, val2_getD a, val2_getD b]; exact less_step hw (by omega), rfl, rfl⟩
  ·refine .decF (by assumption) ?_;(conv=>whnf)
   have zb := gd_big h2
   obtain ⟨S, hS⟩ : ∃ S : Int, S = ((a.getD i 0 : Nat) : Int) - c := ⟨_, rfl⟩
   rw [← hS]
   by_cases h3 : S < 0
   ·refine .decT (by assumption) ?_;(conv=>whnf)
    refine ArithG.i64' (S + 2) (by omega) (by omega) ?_
    conv=>whnf
    refine ⟨b5, 0, a.length, a.length, rfl, by omega, ?_⟩
    conv=>whnf
    refine StoreG.at (cs := [_]) rfl (Upd.here (by rw [List.length_append, nvs_len, List.length_drop, hz]; omega) rfl) ?_
    conv=>whnf
    rw [show 0 + ((i : Nat) : Int).toNat * 1 = i by omega]
    refine ArithG.i64' ((i + 1 : Nat) : Int) (by omega) (by omega) ?_
    conv=>whnf
    have eo : (nvs out ++ zs.drop i).set i (.int .i64 (S + 2)) = nvs (out ++ [(S + 2).toNat]) ++ zs.drop (i + 1) := by
     have e1 : (S + 2) = (((S + 2).toNat : Nat) : Int) := by omega
     rw [e1]
     exact nvs_fill (by omega) hol hz _
    rw [eo]
    exact ⟨a.length - (i + 1), [(0, .slice aa a.length ac), (1, .slice ba b.length bc), (4, .slice none 0 0), (5, .slice (some ⟨b5, 0, none⟩) a.length a.length), (6, .int .i64 ((1 : Nat) : Int)), (7, .int .i64 ((i + 1 : Nat) : Int))], _, by omega, ⟨rfl, rfl, rfl, rfl, rfl, rfl, trivial⟩, Ent.refl _, i + 1, 1, out ++ [(S + 2).toNat], by omega, by omega, rfl, by rw [List.length_append, hol]; rfl, isBits_snoc hob (by omega), by rw [val2_snoc, hol, val2_getD a, val2_getD b]; exact less_step hw (by omega), rfl, rfl⟩
   ·refine .decF (by assumption) ?_;(conv=>whnf)
    conv=>whnf
    refine ⟨b5, 0, a.length, a.length, rfl, by omega, ?_⟩
    conv=>whnf
    refine StoreG.at (cs := [_]) rfl (Upd.here (by rw [List.length_append, nvs_len, List.length_drop, hz]; omega) rfl) ?_
    conv=>whnf
    rw [show 0 + ((i : Nat) : Int).toNat * 1 = i by omega]
    refine ArithG.i64' ((i + 1 : Nat) : Int) (by omega) (by omega) ?_
    conv=>whnf
    have eo : (nvs out ++ zs.drop i).set i (.int .i64 S) = nvs (out ++ [S.toNat]) ++ zs.drop (i + 1) := by
     have e1 : S = ((S.toNat : Nat) : Int) := by omega
     rw [e1]
     exact nvs_fill (by omega) hol hz _
    rw [eo]
    exact ⟨a.length - (i + 1), [(0, .slice aa a.length ac), (1, .slice ba b.length bc), (4, .slice none 0 0), (5, .slice (some ⟨b5, 0, none⟩) a.length a.length), (6, .int .i64 ((0 : Nat) : Int)), (7, .int .i64 ((i + 1 : Nat) : Int))], _, by omega, ⟨rfl, rfl, rfl, rfl, rfl, rfl, trivial⟩, Ent.refl _, i + 1, 0, out ++ [S.toNat], by omega, by omega, rfl, by rw [List.length_append, hol]; rfl, isBits_snoc hob (by omega), by rw [val2_snoc, hol, val2_getD a, val2_getD b]; exact less_step hw (by omega), rfl, rfl⟩
 ·have hil : i = a.length := by omega
  have hvo : val2 out = val2 a - val2 b := by
   rw [hil, List.take_length, List.take_of_length_le hbl] at hw
   refine less_end hw hc ?_ hv
   have := val2_lt hob
   rw [hol, hil] at this
   exact this
  have e5 : nvs out ++ zs.drop i = nvs out := by rw [hil, List.drop_eq_nil_of_le (by omega), List.append_nil]
  rw [e5]
  conv=>whnf
  have hrd : RdS ([cel b5 3 (nvs out)] ++ F) (.slice (some ⟨b5, 0, none⟩) a.length a.length) out.length (nvs out) := by
   rw [hol, hil]
   exact .mk _ _ _ _ _ (Nat.le_refl _) (.left .all F)
  refine CallG.of (pre := []) (rest := [cel b5 3 (nvs out)]) (rcut_spec _ _ out (by omega) hrd) (Ent.sel (T := []) (A := [_]) [0] rfl) ?_
  rintro r _ ⟨hr, rfl⟩
  conv=>whnf
  exact ret_here ⟨b5, out, hob, hvo, by omega, hr, rfl⟩
theorem numN_ok (n : Nat) : (uvs (numN n)).length = 4 := by
 rw [uvs_len, numN]
 split <;> rfl
theorem bits_of (ws : List Nat) : isBits (cutL (digs2 ws)) := cutL_bits (digs2_bits ws)
theorem add2_spec (F : List HP) (a b : List Nat) (ha : wOk a) (hb : wOk b) : SpecF Tryz.prog 52 [.agg ⟨uvs a⟩, .agg ⟨uvs b⟩] F [] (fun r L => r = .tuple #[.agg ⟨uvs (numN (nat4 a + nat4 b))⟩, .int .i64 (ansE (nat4 a + nat4 b))] ∧ L = []) := by
 have hal : (uvs a).length = 4 := by rw [uvs_len, ha.len]
 have hbl : (uvs b).length = 4 := by rw [uvs_len, hb.len]
 have lc : ∀ ws, (cutL (digs2 ws)).length ≤ 256 := fun ws => by rw [cutL_len]; have := cutN_le (digs2 ws) (digs2 ws).length; rw [digs2_len] at this ⊢; exact this
 have vc : ∀ ws, wOk ws → val2 (cutL (digs2 ws)) = nat4 ws := fun ws h => by rw [cutL_val, val2_digs h]
 have la := lc a
 have lb := lc b
 refine fun52.spec rfl ?_
 conv=>whnf
 intro b2
 conv=>whnf
 intro b3
 conv=>whnf
 intro b4
 conv=>whnf
 refine DrawG.mk 10 [cel b3 38 (uvs b), cel b2 38 (uvs a)] [cel b4 38 (uvs z4)] (Ent.refl _) ?_
 conv=>whnf
 refine .take 0 ?_
 conv=>whnf
 refine ⟨rfl, ?_⟩
 conv=>whnf
 refine LoadNG.at (vs := uvs a) hal (.tl .all) ?_
 conv=>whnf
 refine .take 2 ?_
 conv=>whnf
 refine ⟨rfl, ?_⟩
 conv=>whnf
 refine LoadNG.at (vs := uvs b) hbl .all ?_
 conv=>whnf
 refine .all ?_
 conv=>whnf
 refine ⟨by decide, ?_⟩
 conv=>whnf
 refine CallG.pure (digits_spec _ a ha) ?_
 rintro r1 _ ⟨c1, hr1, rfl⟩
 conv=>whnf
 refine .all ?_
 conv=>whnf
 refine ⟨by decide, ?_⟩
 conv=>whnf
 refine CallG.pure (digits_spec _ b hb) ?_
 rintro r2 _ ⟨c2, hr2, rfl⟩
 conv=>whnf
 refine .all ?_
 conv=>whnf
 refine ⟨by decide, ?_⟩
 conv=>whnf
 refine CallG.pure (plus_spec _ r1 r2 (cutL (digs2 a)) (cutL (digs2 b)) (.tl hr1) hr2 (bits_of a) (bits_of b) (by omega) (by omega)) ?_
 rintro r3 _ ⟨ov, out, hob, hvo, hol, hrd, rfl⟩
 rw [vc a ha, vc b hb] at hvo
 conv=>whnf
 refine .all ?_
 conv=>whnf
 refine ⟨by decide, ?_⟩
 conv=>whnf
 refine CallG.pure (answered_spec _ r3 (cutL out) (by have := cutN_le out out.length; rw [cutL_len]; omega) (hrd _) (cutL_bits hob)) ?_
 rintro _ _ ⟨rfl, rfl⟩
 rw [cutL_val, hvo]
 conv=>whnf
 refine .take 6 ?_
 conv=>whnf
 refine ⟨rfl, ?_⟩
 conv=>whnf
 refine .take 7 ?_
 conv=>whnf
 refine ⟨rfl, ?_⟩
 conv=>whnf
 refine .all ?_
 conv=>whnf
 refine ⟨by decide, ?_⟩
 conv=>whnf
 refine StoreG.at (numN_ok _) (.tl (.tl (.tl (Upd.whole (by rw [numN_ok]; rfl) (uvs_one _))))) ?_
 conv=>whnf
 refine .all ?_
 conv=>whnf
 refine ⟨by decide, ?_⟩
 conv=>whnf
 refine ⟨rfl, ?_⟩
 conv=>whnf
 refine LoadNG.at (vs := uvs (numN (nat4 a + nat4 b))) (numN_ok _) (.tl (.tl (.tl .all))) ?_
 conv=>whnf
 exact ⟨[], Ent.nil _, rfl, rfl⟩
theorem sub2_spec (F : List HP) (a b : List Nat) (ha : wOk a) (hb : wOk b) : SpecF Tryz.prog 53 [.agg ⟨uvs a⟩, .agg ⟨uvs b⟩] F [] (fun r L => r = (if nat4 a < nat4 b then .tuple #[.agg ⟨uvs z4⟩, .int .i64 23] else .tuple #[.agg ⟨uvs (w4 (nat4 a - nat4 b))⟩, .int .i64 0]) ∧ L = []) := by
 have hal : (uvs a).length = 4 := by rw [uvs_len, ha.len]
 have hbl : (uvs b).length = 4 := by rw [uvs_len, hb.len]
 have lc : ∀ ws, (cutL (digs2 ws)).length ≤ 256 := fun ws => by rw [cutL_len]; have := cutN_le (digs2 ws) (digs2 ws).length; rw [digs2_len] at this ⊢; exact this
 have vc : ∀ ws, wOk ws → val2 (cutL (digs2 ws)) = nat4 ws := fun ws h => by rw [cutL_val, val2_digs h]
 have la := lc a
 have lb := lc b
 refine fun53.spec rfl ?_
 conv=>whnf
 intro b2
 conv=>whnf
 intro b3
 conv=>whnf
 intro b4
 conv=>whnf
 refine LoadNG.at (vs := uvs a) hal (.tl (.tl .all)) ?_
 conv=>whnf
 refine LoadNG.at (vs := uvs b) hbl (.tl .all) ?_
 conv=>whnf
 refine CallG.pure (cmp_spec _ a b ha hb) ?_
 rintro _ _ ⟨rfl, rfl⟩
 conv=>whnf
 by_cases hlt : nat4 a < nat4 b
 ·have ec : cmpN (nat4 a) (nat4 b) < 0 := by rw [cmpN, if_pos hlt]; decide
  rw [if_pos hlt]
  refine .decT (by assumption) ?_;(conv=>whnf)
  refine BuildG.of (cs := uvs z4) rfl ?_
  conv=>whnf
  refine StoreG.at rfl (Upd.whole rfl (uvs_one z4)) ?_
  conv=>whnf
  refine LoadNG.at (vs := uvs z4) rfl .all ?_
  conv=>whnf
  exact ⟨[], Ent.nil _, rfl, rfl⟩
 ·have ec : ¬ cmpN (nat4 a) (nat4 b) < 0 := by
   rw [cmpN, if_neg hlt]
   split <;> decide
  rw [if_neg hlt]
  refine .decF (by assumption) ?_;(conv=>whnf)
  refine DrawG.mk 10 [cel b3 38 (uvs b), cel b2 38 (uvs a)] [cel b4 38 (uvs z4)] (Ent.refl _) ?_
  conv=>whnf
  refine .take 0 ?_
  conv=>whnf
  refine ⟨rfl, ?_⟩
  conv=>whnf
  refine LoadNG.at (vs := uvs a) hal (.tl .all) ?_
  conv=>whnf
  refine .take 2 ?_
  conv=>whnf
  refine ⟨rfl, ?_⟩
  conv=>whnf
  refine LoadNG.at (vs := uvs b) hbl .all ?_
  conv=>whnf
  refine .all ?_
  conv=>whnf
  refine ⟨by decide, ?_⟩
  conv=>whnf
  refine CallG.pure (digits_spec _ a ha) ?_
  rintro r1 _ ⟨c1, hr1, rfl⟩
  conv=>whnf
  refine .all ?_
  conv=>whnf
  refine ⟨by decide, ?_⟩
  conv=>whnf
  refine CallG.pure (digits_spec _ b hb) ?_
  rintro r2 _ ⟨c2, hr2, rfl⟩
  conv=>whnf
  refine .all ?_
  conv=>whnf
  refine ⟨by decide, ?_⟩
  conv=>whnf
  have hge : (cutL (digs2 b)).length ≤ (cutL (digs2 a)).length := by
   refine Nat.le_of_not_lt fun h => ?_
   have := longer (bits_of a) h
   rw [vc a ha, vc b hb] at this
   exact hlt this
  refine CallG.pure (less2_spec _ r1 r2 (cutL (digs2 a)) (cutL (digs2 b)) (.tl hr1) hr2 (bits_of a) (bits_of b) (by omega) hge (by rw [vc a ha, vc b hb]; omega)) ?_
  rintro r3 _ ⟨c, out, hob, hvo, hol, hrd, rfl⟩
  rw [vc a ha, vc b hb] at hvo
  have hN : nat4 a - nat4 b < 2 ^ 256 := Nat.lt_of_le_of_lt (Nat.sub_le _ _) (nat4_lt ha)
  have eN : numN (nat4 a - nat4 b) = w4 (nat4 a - nat4 b) := by rw [numN, if_pos hN]
  have eA : ansE (nat4 a - nat4 b) = 0 := by rw [ansE, if_pos hN]
  have hvb : isBits (cutL out) := cutL_bits hob
  conv=>whnf
  refine .all ?_
  conv=>whnf
  refine ⟨by decide, ?_⟩
  conv=>whnf
  refine CallG.pure (answered_spec _ r3 (cutL out) (by have := cutN_le out out.length; rw [cutL_len]; omega) hrd hvb) ?_
  rintro _ _ ⟨rfl, rfl⟩
  rw [cutL_val, hvo, eA, eN]
  conv=>whnf
  refine .take 6 ?_
  conv=>whnf
  refine ⟨rfl, ?_⟩
  conv=>whnf
  refine .take 7 ?_
  conv=>whnf
  refine ⟨rfl, ?_⟩
  conv=>whnf
  refine .all ?_
  conv=>whnf
  refine ⟨by decide, ?_⟩
  conv=>whnf
  refine StoreG.at (show _ = 4 from rfl) (.tl (.tl (.tl (Upd.whole rfl (uvs_one _))))) ?_
  conv=>whnf
  refine .all ?_
  conv=>whnf
  refine ⟨by decide, ?_⟩
  conv=>whnf
  refine ⟨rfl, ?_⟩
  conv=>whnf
  refine LoadNG.at (vs := uvs (w4 (nat4 a - nat4 b))) (show _ = 4 from rfl) (.tl (.tl (.tl .all))) ?_
  conv=>whnf
  exact ⟨[], Ent.nil _, rfl, rfl⟩
end Go.Proofs.YtnbcbdlbejdkpaaGreatDoor
namespace Go.Proofs.YtnbcbdlbejdkpaaGreatDoor
open Go Go.Sl
theorem ofB {a b : List Nat} (h : a = b) : bvs a = bvs b := by rw [h]
theorem ofBn {a b : List Nat} (h : a ≠ b) : bvs a ≠ bvs b := fun e => h (bvs_inj.1 e)
theorem turns_spec (F : List HP) (x : StepD) (hx : x.wf) (t : Int) (a : List Nat) (ha : adr a) (g : Bool) (ht : x.tok = t) (h : if g = true then grows (pickN x.what 13) x a else shrinks (pickN x.what 13) x a) :
  SpecF Tryz.prog 54 [.agg ⟨x.cells⟩, .int .i64 t, .agg ⟨bvs a⟩, .bool g] F [] (fun r L => r = .bool true ∧ L = []) := by
 have h20 : (bvs a).length = 20 := by rw [bvs_len, ha.1]
 have h20a : (bvs x.a).length = 20 := by rw [bvs_len, hx.a.1]
 have h20b : (bvs x.b).length = 20 := by rw [bvs_len, hx.b.1]
 have h20c : (bvs x.c).length = 20 := by rw [bvs_len, hx.c.1]
 refine fun54.spec rfl ?_
 conv=>whnf
 intro b4
 conv=>whnf
 intro b6
 conv=>whnf
 refine LoadG.at (v := .int .i64 x.tok) (.tl (.here rfl)) ?_
 conv=>whnf
 refine CondG.ndec (fun h => absurd ht h) (fun _ => ?_)
 conv=>whnf
 refine LoadG.at (v := .int .i64 x.what) (.tl (.here rfl)) ?_
 conv=>whnf
 refine CallG.pure (lpick_spec _ x.what 13 hx.w1 hx.w2 (by decide)) ?_
 rintro _ _ ⟨rfl, rfl⟩
 generalize pickN x.what 13 = k at h
 conv=>whnf
 cases g with
 | true =>
  rw [if_pos rfl] at h
  rcases h with ⟨hk, h1⟩ | ⟨hk, h1, h2⟩ | ⟨hk, h1, h2⟩
  ·have hc : (k : Int) = 3 := by omega
   have e1 := ofB h1
   repeat((first|(with_reducible first|refine .tt ?_|refine .ff ?_|refine .ntt ?_|refine .nff ?_)|refine .decT (by assumption) ?_|refine .decF (by assumption) ?_);conv=>whnf)
   refine LoadNG.at (vs := bvs x.a) h20a (.tl (.here (StepD.a_at x))) ?_
   (conv=>whnf);refine .tt ?_;(conv=>whnf)
   refine LoadNG.at (vs := bvs a) h20 .all ?_
   (conv=>whnf);refine .tt ?_;(conv=>whnf)
   refine DoesG.eqv 8 (List.replicate 20 (.int .u8)) (by kernel_rfl) (by decide) (by kernel_rfl) (by kernel_rfl) (wt_bvs hx.a.1) (wt_bvs ha.1) ?_
   (conv=>whnf);refine .tt ?_;(conv=>whnf)
   exact ⟨[], Ent.nil _, congrArg Value.bool (by simp [e1]), rfl⟩
  ·have hc : (k : Int) = 5 := by omega
   have c3 : ¬ (k : Int) = 3 := by omega
   have c4 : ¬ (k : Int) = 4 := by omega
   have e1 := ofB h1
   have e2 := ofBn h2
   repeat((first|(with_reducible first|refine .tt ?_|refine .ff ?_|refine .ntt ?_|refine .nff ?_)|refine .decT (by assumption) ?_|refine .decF (by assumption) ?_);conv=>whnf)
   refine LoadNG.at (vs := bvs x.b) h20b (.tl (.here (StepD.b_at hx))) ?_
   (conv=>whnf);refine .tt ?_;(conv=>whnf)
   refine LoadNG.at (vs := bvs a) h20 .all ?_
   (conv=>whnf);refine .tt ?_;(conv=>whnf)
   refine DoesG.eqv 8 (List.replicate 20 (.int .u8)) (by kernel_rfl) (by decide) (by kernel_rfl) (by kernel_rfl) (wt_bvs hx.b.1) (wt_bvs ha.1) ?_
   (conv=>whnf);refine .tt ?_;(conv=>whnf)
   refine CondG.split (fun _ => ?_) (fun h => absurd h (by simp [e1]))
   (conv=>whnf);refine .tt ?_;(conv=>whnf)
   refine LoadNG.at (vs := bvs x.a) h20a (.tl (.here (StepD.a_at x))) ?_
   (conv=>whnf);refine .tt ?_;(conv=>whnf)
   refine LoadNG.at (vs := bvs a) h20 .all ?_
   (conv=>whnf);refine .tt ?_;(conv=>whnf)
   refine DoesG.eqv 8 (List.replicate 20 (.int .u8)) (by kernel_rfl) (by decide) (by kernel_rfl) (by kernel_rfl) (wt_bvs hx.a.1) (wt_bvs ha.1) ?_
   (conv=>whnf);refine .tt ?_;(conv=>whnf)
   refine CondG.split (fun _ => ?_) (fun h => absurd h (by simp [e2]))
   (conv=>whnf);refine .tt ?_;(conv=>whnf);refine .tt ?_;(conv=>whnf);refine .tt ?_;(conv=>whnf);refine .tt ?_;(conv=>whnf);refine .tt ?_;(conv=>whnf);refine .tt ?_;(conv=>whnf)
   exact ⟨[], Ent.nil _, congrArg Value.bool (by simp [e2]), rfl⟩
  ·have hc : (k : Int) = 7 := by omega
   have c3 : ¬ (k : Int) = 3 := by omega
   have c4 : ¬ (k : Int) = 4 := by omega
   have c5 : ¬ (k : Int) = 5 := by omega
   have e1 := ofB h1
   have e2 := ofBn h2
   repeat((first|(with_reducible first|refine .tt ?_|refine .ff ?_|refine .ntt ?_|refine .nff ?_)|refine .decT (by assumption) ?_|refine .decF (by assumption) ?_);conv=>whnf)
   refine LoadNG.at (vs := bvs x.c) h20c (.tl (.here (StepD.c_at hx))) ?_
   (conv=>whnf);refine .tt ?_;(conv=>whnf)
   refine LoadNG.at (vs := bvs a) h20 .all ?_
   (conv=>whnf);refine .tt ?_;(conv=>whnf)
   refine DoesG.eqv 8 (List.replicate 20 (.int .u8)) (by kernel_rfl) (by decide) (by kernel_rfl) (by kernel_rfl) (wt_bvs hx.c.1) (wt_bvs ha.1) ?_
   (conv=>whnf);refine .tt ?_;(conv=>whnf)
   refine CondG.split (fun _ => ?_) (fun h => absurd h (by simp [e1]))
   (conv=>whnf);refine .tt ?_;(conv=>whnf)
   refine LoadNG.at (vs := bvs x.b) h20b (.tl (.here (StepD.b_at hx))) ?_
   (conv=>whnf);refine .tt ?_;(conv=>whnf)
   refine LoadNG.at (vs := bvs a) h20 .all ?_
   (conv=>whnf);refine .tt ?_;(conv=>whnf)
   refine DoesG.eqv 8 (List.replicate 20 (.int .u8)) (by kernel_rfl) (by decide) (by kernel_rfl) (by kernel_rfl) (wt_bvs hx.b.1) (wt_bvs ha.1) ?_
   (conv=>whnf);refine .tt ?_;(conv=>whnf)
   refine CondG.split (fun _ => ?_) (fun h => absurd h (by simp [e2]))
   (conv=>whnf);refine .tt ?_;(conv=>whnf);refine .tt ?_;(conv=>whnf);refine .tt ?_;(conv=>whnf);refine .tt ?_;(conv=>whnf);refine .tt ?_;(conv=>whnf);refine .tt ?_;(conv=>whnf)
   exact ⟨[], Ent.nil _, congrArg Value.bool (by simp [e2]), rfl⟩
 | false =>
  rw [if_neg (by decide)] at h
  rcases h with ⟨hk, h1⟩ | ⟨hk, h1, h2⟩ | ⟨hk, h1, h2⟩
  ·have hc : (k : Int) = 4 := by omega
   have c3 : ¬ (k : Int) = 3 := by omega
   have e1 := ofB h1
   repeat((first|(with_reducible first|refine .tt ?_|refine .ff ?_|refine .ntt ?_|refine .nff ?_)|refine .decT (by assumption) ?_|refine .decF (by assumption) ?_);conv=>whnf)
   refine LoadNG.at (vs := bvs x.a) h20a (.tl (.here (StepD.a_at x))) ?_
   (conv=>whnf);refine .tt ?_;(conv=>whnf)
   refine LoadNG.at (vs := bvs a) h20 .all ?_
   (conv=>whnf);refine .tt ?_;(conv=>whnf)
   refine DoesG.eqv 8 (List.replicate 20 (.int .u8)) (by kernel_rfl) (by decide) (by kernel_rfl) (by kernel_rfl) (wt_bvs hx.a.1) (wt_bvs ha.1) ?_
   (conv=>whnf);refine .tt ?_;(conv=>whnf)
   exact ⟨[], Ent.nil _, congrArg Value.bool (by simp [e1]), rfl⟩
  ·have hc : (k : Int) = 5 := by omega
   have c3 : ¬ (k : Int) = 3 := by omega
   have c4 : ¬ (k : Int) = 4 := by omega
   have e1 := ofB h1
   have e2 := ofBn h2
   repeat((first|(with_reducible first|refine .tt ?_|refine .ff ?_|refine .ntt ?_|refine .nff ?_)|refine .decT (by assumption) ?_|refine .decF (by assumption) ?_);conv=>whnf)
   refine LoadNG.at (vs := bvs x.a) h20a (.tl (.here (StepD.a_at x))) ?_
   (conv=>whnf);refine .tt ?_;(conv=>whnf)
   refine LoadNG.at (vs := bvs a) h20 .all ?_
   (conv=>whnf);refine .tt ?_;(conv=>whnf)
   refine DoesG.eqv 8 (List.replicate 20 (.int .u8)) (by kernel_rfl) (by decide) (by kernel_rfl) (by kernel_rfl) (wt_bvs hx.a.1) (wt_bvs ha.1) ?_
   (conv=>whnf);repeat((with_reducible first|refine .tt ?_|refine .ff ?_);conv=>whnf)
   refine CondG.split (fun _ => ?_) (fun h => absurd h (by simp [e1]))
   (conv=>whnf);refine .tt ?_;(conv=>whnf)
   refine LoadNG.at (vs := bvs x.b) h20b (.tl (.here (StepD.b_at hx))) ?_
   (conv=>whnf);refine .tt ?_;(conv=>whnf)
   refine LoadNG.at (vs := bvs a) h20 .all ?_
   (conv=>whnf);refine .tt ?_;(conv=>whnf)
   refine DoesG.eqv 8 (List.replicate 20 (.int .u8)) (by kernel_rfl) (by decide) (by kernel_rfl) (by kernel_rfl) (wt_bvs hx.b.1) (wt_bvs ha.1) ?_
   (conv=>whnf);repeat((with_reducible first|refine .tt ?_|refine .ff ?_);conv=>whnf)
   exact ⟨[], Ent.nil _, congrArg Value.bool (by simp [e2]), rfl⟩
  ·have hc : (k : Int) = 7 := by omega
   have c3 : ¬ (k : Int) = 3 := by omega
   have c4 : ¬ (k : Int) = 4 := by omega
   have c5 : ¬ (k : Int) = 5 := by omega
   have e1 := ofB h1
   have e2 := ofBn h2
   repeat((first|(with_reducible first|refine .tt ?_|refine .ff ?_|refine .ntt ?_|refine .nff ?_)|refine .decT (by assumption) ?_|refine .decF (by assumption) ?_);conv=>whnf)
   refine LoadNG.at (vs := bvs x.b) h20b (.tl (.here (StepD.b_at hx))) ?_
   (conv=>whnf);refine .tt ?_;(conv=>whnf)
   refine LoadNG.at (vs := bvs a) h20 .all ?_
   (conv=>whnf);refine .tt ?_;(conv=>whnf)
   refine DoesG.eqv 8 (List.replicate 20 (.int .u8)) (by kernel_rfl) (by decide) (by kernel_rfl) (by kernel_rfl) (wt_bvs hx.b.1) (wt_bvs ha.1) ?_
   (conv=>whnf);repeat((with_reducible first|refine .tt ?_|refine .ff ?_);conv=>whnf)
   refine CondG.split (fun _ => ?_) (fun h => absurd h (by simp [e1]))
   (conv=>whnf);refine .tt ?_;(conv=>whnf)
   refine LoadNG.at (vs := bvs x.c) h20c (.tl (.here (StepD.c_at hx))) ?_
   (conv=>whnf);refine .tt ?_;(conv=>whnf)
   refine LoadNG.at (vs := bvs a) h20 .all ?_
   (conv=>whnf);refine .tt ?_;(conv=>whnf)
   refine DoesG.eqv 8 (List.replicate 20 (.int .u8)) (by kernel_rfl) (by decide) (by kernel_rfl) (by kernel_rfl) (wt_bvs hx.c.1) (wt_bvs ha.1) ?_
   (conv=>whnf);repeat((with_reducible first|refine .tt ?_|refine .ff ?_);conv=>whnf)
   exact ⟨[], Ent.nil _, congrArg Value.bool (by simp [e2]), rfl⟩
theorem w4_eq {p q : Nat} (hp : p < m256) (hq : q < m256) : uvs (w4 p) = uvs (w4 q) ↔ p = q := by
 rw [uvs_inj]
 exact ⟨fun h => by rw [← nat4_w4 hp, h, nat4_w4 hq], fun h => by rw [h]⟩
theorem sub_get (a b : Nat) : ∃ (w : List Nat) (e : Int), w.length = 4 ∧ (if a < b then Value.tuple #[.agg ⟨uvs z4⟩, .int .i64 23] else .tuple #[.agg ⟨uvs (w4 (a - b))⟩, .int .i64 0]) = .tuple #[.agg ⟨uvs w⟩, .int .i64 e] ∧ (b ≤ a → w = w4 (a - b) ∧ e = 0) := by
 by_cases h : a < b
 ·exact ⟨z4, 23, rfl, by rw [if_pos h], fun h2 => by omega⟩
 ·exact ⟨w4 (a - b), 0, rfl, by rw [if_neg h], fun _ => ⟨rfl, rfl⟩⟩
theorem balance_spec (F : List HP) (x : StepD) (hx : x.wf) (t : Int) (a : List Nat) (ha : adr a) (p q : Nat) (hp : p < m256) (hq : q < m256) (h : mayB (pickN x.what 13) x t a p q) :
  SpecF Tryz.prog 16 [.agg ⟨x.cells⟩, .int .i64 t, .agg ⟨bvs a⟩, .agg ⟨uvs (w4 p)⟩, .agg ⟨uvs (w4 q)⟩] F [] (fun r L => r = .bool true ∧ L = []) := by
 have h20 : (bvs a).length = 20 := by rw [bvs_len, ha.1]
 have h66 : x.cells.length = 66 := StepD.cells_len hx
 have h4w : (uvs x.amt).length = 4 := by rw [uvs_len, hx.amt.len]
 refine fun16.spec rfl ?_
 conv=>whnf
 intro b5
 conv=>whnf
 intro b7
 conv=>whnf
 intro b8
 conv=>whnf
 intro b9
 conv=>whnf
 refine LoadNG.at (vs := uvs (w4 p)) rfl (.tl .all) ?_
 conv=>whnf
 refine LoadNG.at (vs := uvs (w4 q)) rfl .all ?_
 conv=>whnf
 refine DoesG.eqv 8 (List.replicate 4 (.int .u64)) (by kernel_rfl) (by decide) (by kernel_rfl) (by kernel_rfl) (wt_uvs rfl) (wt_uvs rfl) ?_
 conv=>whnf
 refine CondG.split (fun _ => ?_) (fun hne => ?_)
 ·conv=>whnf
  exact ⟨[], Ent.nil _, rfl, rfl⟩
 have hpq : q ≠ p := fun e => by simp [e] at hne
 obtain ⟨ht, h⟩ := h.resolve_left hpq
 obtain ⟨n, hn⟩ : ∃ n, n = nat4 x.amt := ⟨_, rfl⟩
 rw [← hn] at h
 conv=>whnf
 refine LoadNG.at (vs := uvs (w4 p)) rfl (.tl .all) ?_
 conv=>whnf
 refine LoadNG.at (vs := uvs x.amt) h4w (.tl (.tl (.tl (.here (StepD.amt_at hx))))) ?_
 conv=>whnf
 refine CallG.pure (add2_spec _ (w4 p) x.amt (w4_ok p) hx.amt) ?_
 rintro _ _ ⟨rfl, rfl⟩
 rw [nat4_w4 hp, ← hn]
 conv=>whnf
 intro b11
 conv=>whnf
 refine StoreG.at (numN_ok _) (Upd.whole (by rw [numN_ok]; rfl) (uvs_one _)) ?_
 conv=>whnf
 refine LoadNG.at (vs := uvs (w4 p)) rfl (.tl (.tl .all)) ?_
 conv=>whnf
 refine LoadNG.at (vs := uvs x.amt) h4w (.tl (.tl (.tl (.tl (.here (StepD.amt_at hx)))))) ?_
 conv=>whnf
 refine CallG.pure (sub2_spec _ (w4 p) x.amt (w4_ok p) hx.amt) ?_
 rintro _ _ ⟨rfl, rfl⟩
 rw [nat4_w4 hp, ← hn]
 obtain ⟨w, e, hw4, hwe, hwn⟩ := sub_get p n
 have hu4 : (uvs w).length = 4 := by rw [uvs_len, hw4]
 rw [hwe]
 conv=>whnf
 intro b13
 conv=>whnf
 refine StoreG.at hu4 (Upd.whole (by rw [hu4]; rfl) (uvs_one _)) ?_
 conv=>whnf
 have h2 : m256 = 2 ^ 256 := by decide
 have nl : (numN (p + n)).length = 4 := by rw [← uvs_len]; exact numN_ok _
 rcases h with ⟨hg, hqe⟩ | ⟨hs, hle, hqe⟩
 ·have hlt : p + n < 2 ^ 256 := by rw [← hqe, ← h2]; exact hq
  have eA : ansE (p + n) = 0 := by rw [ansE, if_pos hlt]
  have e1 : uvs (w4 q) = uvs (numN (p + n)) := by rw [numN, if_pos hlt, hqe]
  refine CondG.decT eA ?_
  conv=>whnf
  refine LoadNG.at (vs := uvs (w4 q)) rfl (.tl (.tl .all)) ?_
  (conv=>whnf);refine .tt ?_;(conv=>whnf)
  refine LoadNG.at (vs := uvs (numN (p + n))) (numN_ok _) (.tl .all) ?_
  (conv=>whnf);refine .tt ?_;(conv=>whnf)
  refine DoesG.eqv 8 (List.replicate 4 (.int .u64)) (by kernel_rfl) (by decide) (by kernel_rfl) (by kernel_rfl) (wt_uvs rfl) (wt_uvs nl) ?_
  (conv=>whnf);refine .tt ?_;(conv=>whnf)
  refine CondG.split (fun _ => ?_) (fun h => absurd h (by simp [e1]))
  conv=>whnf
  refine LoadNG.at (vs := x.cells) h66 (.tl (.tl (.tl (.tl (.tl .all))))) ?_
  (conv=>whnf);refine .tt ?_;(conv=>whnf);refine .tt ?_;(conv=>whnf)
  refine LoadNG.at (vs := bvs a) h20 (.tl (.tl (.tl (.tl .all)))) ?_
  (conv=>whnf);refine .tt ?_;(conv=>whnf)
  refine CallG.pure (turns_spec _ x hx t a ha true ht hg) ?_
  rintro _ _ ⟨rfl, rfl⟩
  (conv=>whnf);refine .tt ?_;(conv=>whnf);refine .tt ?_;(conv=>whnf);refine .tt ?_;(conv=>whnf);refine .tt ?_;(conv=>whnf);refine .tt ?_;(conv=>whnf);refine .tt ?_;(conv=>whnf);refine .tt ?_;(conv=>whnf);refine .tt ?_;(conv=>whnf)
  exact ⟨[], Ent.nil _, rfl, rfl⟩
 ·obtain ⟨rfl, rfl⟩ := hwn hle
  have e1 : uvs (w4 q) = uvs (w4 (p - n)) := by rw [hqe]
  by_cases hov : p + n < 2 ^ 256
  ·have eA : ansE (p + n) = 0 := by rw [ansE, if_pos hov]
   have e2 : uvs (w4 q) ≠ uvs (numN (p + n)) := by
    rw [numN, if_pos hov, Ne, w4_eq hq (by rw [h2]; exact hov)]
    omega
   refine CondG.decT eA ?_
   conv=>whnf
   refine LoadNG.at (vs := uvs (w4 q)) rfl (.tl (.tl .all)) ?_
   (conv=>whnf);refine .tt ?_;(conv=>whnf)
   refine LoadNG.at (vs := uvs (numN (p + n))) (numN_ok _) (.tl .all) ?_
   (conv=>whnf);refine .tt ?_;(conv=>whnf)
   refine DoesG.eqv 8 (List.replicate 4 (.int .u64)) (by kernel_rfl) (by decide) (by kernel_rfl) (by kernel_rfl) (wt_uvs rfl) (wt_uvs nl) ?_
   (conv=>whnf);refine .tt ?_;(conv=>whnf)
   refine CondG.split (fun h => absurd h (by simp [e2])) (fun _ => ?_)
   (conv=>whnf);refine .ff ?_;(conv=>whnf);refine .ff ?_;(conv=>whnf);refine .ff ?_;(conv=>whnf);refine .ff ?_;(conv=>whnf);refine .ff ?_;(conv=>whnf);refine .ff ?_;(conv=>whnf);refine .ff ?_;(conv=>whnf)
   refine CondG.decT rfl ?_
   conv=>whnf
   refine LoadNG.at (vs := uvs (w4 q)) rfl (.tl (.tl .all)) ?_
   (conv=>whnf);refine .tt ?_;(conv=>whnf)
   refine LoadNG.at (vs := uvs (w4 (p - n))) rfl .all ?_
   (conv=>whnf);refine .tt ?_;(conv=>whnf)
   refine DoesG.eqv 8 (List.replicate 4 (.int .u64)) (by kernel_rfl) (by decide) (by kernel_rfl) (by kernel_rfl) (wt_uvs rfl) (wt_uvs rfl) ?_
   (conv=>whnf);repeat((with_reducible first|refine .tt ?_|refine .ff ?_);conv=>whnf)
   refine CondG.split (fun _ => ?_) (fun h => absurd h (by simp [e1]))
   conv=>whnf
   refine LoadNG.at (vs := x.cells) h66 (.tl (.tl (.tl (.tl (.tl .all))))) ?_
   (conv=>whnf);refine .tt ?_;(conv=>whnf);refine .tt ?_;(conv=>whnf)
   refine LoadNG.at (vs := bvs a) h20 (.tl (.tl (.tl (.tl .all)))) ?_
   (conv=>whnf);refine .tt ?_;(conv=>whnf)
   refine CallG.pure (turns_spec _ x hx t a ha false ht (by simpa using hs)) ?_
   rintro _ _ ⟨rfl, rfl⟩
   (conv=>whnf);repeat((with_reducible first|refine .tt ?_|refine .ff ?_);conv=>whnf)
   exact ⟨[], Ent.nil _, rfl, rfl⟩
  ·have eA : ¬ ansE (p + n) = 0 := by rw [ansE, if_neg hov]; decide
   refine CondG.decF eA ?_
   (conv=>whnf);refine .ff ?_;(conv=>whnf);refine .ff ?_;(conv=>whnf);refine .ff ?_;(conv=>whnf);refine .ff ?_;(conv=>whnf);refine .ff ?_;(conv=>whnf);refine .ff ?_;(conv=>whnf);refine .ff ?_;(conv=>whnf);refine .ff ?_;(conv=>whnf);refine .ff ?_;(conv=>whnf);refine .ff ?_;(conv=>whnf);refine .ff ?_;(conv=>whnf)
   refine CondG.decT rfl ?_
   conv=>whnf
   refine LoadNG.at (vs := uvs (w4 q)) rfl (.tl (.tl .all)) ?_
   (conv=>whnf);refine .tt ?_;(conv=>whnf)
   refine LoadNG.at (vs := uvs (w4 (p - n))) rfl .all ?_
   (conv=>whnf);refine .tt ?_;(conv=>whnf)
   refine DoesG.eqv 8 (List.replicate 4 (.int .u64)) (by kernel_rfl) (by decide) (by kernel_rfl) (by kernel_rfl) (wt_uvs rfl) (wt_uvs rfl) ?_
   (conv=>whnf);repeat((with_reducible first|refine .tt ?_|refine .ff ?_);conv=>whnf)
   refine CondG.split (fun _ => ?_) (fun h => absurd h (by simp [e1]))
   conv=>whnf
   refine LoadNG.at (vs := x.cells) h66 (.tl (.tl (.tl (.tl (.tl .all))))) ?_
   (conv=>whnf);refine .tt ?_;(conv=>whnf);refine .tt ?_;(conv=>whnf)
   refine LoadNG.at (vs := bvs a) h20 (.tl (.tl (.tl (.tl .all)))) ?_
   (conv=>whnf);refine .tt ?_;(conv=>whnf)
   refine CallG.pure (turns_spec _ x hx t a ha false ht (by simpa using hs)) ?_
   rintro _ _ ⟨rfl, rfl⟩
   (conv=>whnf);repeat((with_reducible first|refine .tt ?_|refine .ff ?_);conv=>whnf)
   exact ⟨[], Ent.nil _, rfl, rfl⟩
theorem allowance_spec (F : List HP) (x : StepD) (hx : x.wf) (t : Int) (o s : List Nat) (ho : adr o) (hs : adr s) (p q : Nat) (hp : p < m256) (hq : q < m256) (h : mayA (pickN x.what 13) x t o s p q) :
  SpecF Tryz.prog 17 [.agg ⟨x.cells⟩, .int .i64 t, .agg ⟨bvs o⟩, .agg ⟨bvs s⟩, .agg ⟨uvs (w4 p)⟩, .agg ⟨uvs (w4 q)⟩] F [] (fun r L => r = .bool true ∧ L = []) := by
 have h20o : (bvs o).length = 20 := by rw [bvs_len, ho.1]
 have h20s : (bvs s).length = 20 := by rw [bvs_len, hs.1]
 have h20a : (bvs x.a).length = 20 := by rw [bvs_len, hx.a.1]
 have h20b : (bvs x.b).length = 20 := by rw [bvs_len, hx.b.1]
 have h4w : (uvs x.amt).length = 4 := by rw [uvs_len, hx.amt.len]
 refine fun17.spec rfl ?_
 conv=>whnf
 intro b6
 conv=>whnf
 intro b8
 conv=>whnf
 intro b9
 conv=>whnf
 intro b10
 conv=>whnf
 intro b11
 conv=>whnf
 refine LoadG.at (v := .int .i64 x.what) (.tl (.tl (.tl (.tl (.here rfl))))) ?_
 conv=>whnf
 refine CallG.pure (lpick_spec _ x.what 13 hx.w1 hx.w2 (by decide)) ?_
 rintro _ _ ⟨rfl, rfl⟩
 generalize pickN x.what 13 = k at h
 conv=>whnf
 refine LoadNG.at (vs := uvs (w4 p)) rfl (.tl .all) ?_
 conv=>whnf
 refine LoadNG.at (vs := uvs (w4 q)) rfl .all ?_
 conv=>whnf
 refine DoesG.eqv 8 (List.replicate 4 (.int .u64)) (by kernel_rfl) (by decide) (by kernel_rfl) (by kernel_rfl) (wt_uvs rfl) (wt_uvs rfl) ?_
 conv=>whnf
 refine CondG.split (fun _ => ?_) (fun hne => ?_)
 ·conv=>whnf
  exact ⟨[], Ent.nil _, rfl, rfl⟩
 have hpq : q ≠ p := fun e => by simp [e] at hne
 obtain ⟨ht, h⟩ := h.resolve_left hpq
 conv=>whnf
 refine LoadG.at (v := .int .i64 x.tok) (.tl (.tl (.tl (.tl (.here rfl))))) ?_
 conv=>whnf
 refine CondG.ndec (fun h => absurd ht h) (fun _ => ?_)
 conv=>whnf
 refine LoadNG.at (vs := uvs (w4 p)) rfl (.tl .all) ?_
 conv=>whnf
 refine LoadNG.at (vs := uvs x.amt) h4w (.tl (.tl (.tl (.tl (.here (StepD.amt_at hx)))))) ?_
 conv=>whnf
 refine CallG.pure (sub2_spec _ (w4 p) x.amt (w4_ok p) hx.amt) ?_
 rintro _ _ ⟨rfl, rfl⟩
 rw [nat4_w4 hp]
 obtain ⟨w, e, hw4, hwe, hwn⟩ := sub_get p (nat4 x.amt)
 have hu4 : (uvs w).length = 4 := by rw [uvs_len, hw4]
 rw [hwe]
 conv=>whnf
 intro b14
 conv=>whnf
 refine StoreG.at hu4 (Upd.whole (by rw [hu4]; rfl) (uvs_one _)) ?_
 conv=>whnf
 rcases h with ⟨hk, e1, e2, hqe⟩ | ⟨hk, e1, e2, hle, hqe⟩
 ·have c6 : (k : Int) = 6 := by omega
  have c7 : ¬ (k : Int) = 7 := by omega
  have f1 := ofB e1
  have f2 := ofB e2
  have f3 : uvs (w4 q) = uvs x.amt := by rw [hqe, w4_nat4 hx.amt]
  repeat((first|(with_reducible first|refine .tt ?_|refine .ff ?_|refine .ntt ?_|refine .nff ?_)|refine .decT (by assumption) ?_|refine .decF (by assumption) ?_);conv=>whnf)
  refine LoadNG.at (vs := bvs x.a) h20a (.tl (.tl (.tl (.tl (.tl (.here (StepD.a_at x))))))) ?_
  (conv=>whnf);refine .tt ?_;(conv=>whnf)
  refine LoadNG.at (vs := bvs o) h20o (.tl (.tl (.tl (.tl .all)))) ?_
  (conv=>whnf);refine .tt ?_;(conv=>whnf)
  refine DoesG.eqv 8 (List.replicate 20 (.int .u8)) (by kernel_rfl) (by decide) (by kernel_rfl) (by kernel_rfl) (wt_bvs hx.a.1) (wt_bvs ho.1) ?_
  (conv=>whnf);refine .tt ?_;(conv=>whnf)
  refine CondG.split (fun _ => ?_) (fun h => absurd h (by simp [f1]))
  (conv=>whnf);refine .tt ?_;(conv=>whnf)
  refine LoadNG.at (vs := bvs x.b) h20b (.tl (.tl (.tl (.tl (.tl (.here (StepD.b_at hx))))))) ?_
  (conv=>whnf);refine .tt ?_;(conv=>whnf)
  refine LoadNG.at (vs := bvs s) h20s (.tl (.tl (.tl .all))) ?_
  (conv=>whnf);refine .tt ?_;(conv=>whnf)
  refine DoesG.eqv 8 (List.replicate 20 (.int .u8)) (by kernel_rfl) (by decide) (by kernel_rfl) (by kernel_rfl) (wt_bvs hx.b.1) (wt_bvs hs.1) ?_
  (conv=>whnf);refine .tt ?_;(conv=>whnf)
  refine CondG.split (fun _ => ?_) (fun h => absurd h (by simp [f2]))
  conv=>whnf
  refine LoadNG.at (vs := uvs (w4 q)) rfl (.tl .all) ?_
  (conv=>whnf);refine .tt ?_;(conv=>whnf);refine .tt ?_;(conv=>whnf)
  refine LoadNG.at (vs := uvs x.amt) h4w (.tl (.tl (.tl (.tl (.tl (.here (StepD.amt_at hx))))))) ?_
  (conv=>whnf);refine .tt ?_;(conv=>whnf)
  refine DoesG.eqv 8 (List.replicate 4 (.int .u64)) (by kernel_rfl) (by decide) (by kernel_rfl) (by kernel_rfl) (wt_uvs rfl) (wt_uvs hx.amt.len) ?_
  (conv=>whnf);refine .tt ?_;(conv=>whnf)
  repeat((first|(with_reducible first|refine .tt ?_|refine .ff ?_|refine .ntt ?_|refine .nff ?_)|refine .decT (by assumption) ?_|refine .decF (by assumption) ?_);conv=>whnf)
  refine CondG.split (fun _ => ?_) (fun h => absurd h (by simp [f3]))
  (conv=>whnf);refine .tt ?_;(conv=>whnf)
  exact ⟨[], Ent.nil _, rfl, rfl⟩
 ·have c7 : (k : Int) = 7 := by omega
  have c6 : ¬ (k : Int) = 6 := by omega
  have f1 := ofB e1
  have f2 := ofB e2
  obtain ⟨rfl, rfl⟩ := hwn hle
  have f3 : uvs (w4 q) = uvs (w4 (p - nat4 x.amt)) := by rw [hqe]
  repeat((first|(with_reducible first|refine .tt ?_|refine .ff ?_|refine .ntt ?_|refine .nff ?_)|refine .decT (by assumption) ?_|refine .decF (by assumption) ?_);conv=>whnf)
  refine LoadNG.at (vs := bvs x.a) h20a (.tl (.tl (.tl (.tl (.tl (.here (StepD.a_at x))))))) ?_
  (conv=>whnf);refine .tt ?_;(conv=>whnf)
  refine LoadNG.at (vs := bvs s) h20s (.tl (.tl (.tl .all))) ?_
  (conv=>whnf);refine .tt ?_;(conv=>whnf)
  refine DoesG.eqv 8 (List.replicate 20 (.int .u8)) (by kernel_rfl) (by decide) (by kernel_rfl) (by kernel_rfl) (wt_bvs hx.a.1) (wt_bvs hs.1) ?_
  (conv=>whnf);refine .tt ?_;(conv=>whnf)
  refine CondG.split (fun _ => ?_) (fun h => absurd h (by simp [f1]))
  (conv=>whnf);refine .tt ?_;(conv=>whnf)
  refine LoadNG.at (vs := bvs x.b) h20b (.tl (.tl (.tl (.tl (.tl (.here (StepD.b_at hx))))))) ?_
  (conv=>whnf);refine .tt ?_;(conv=>whnf)
  refine LoadNG.at (vs := bvs o) h20o (.tl (.tl (.tl (.tl .all)))) ?_
  (conv=>whnf);refine .tt ?_;(conv=>whnf)
  refine DoesG.eqv 8 (List.replicate 20 (.int .u8)) (by kernel_rfl) (by decide) (by kernel_rfl) (by kernel_rfl) (wt_bvs hx.b.1) (wt_bvs ho.1) ?_
  (conv=>whnf);refine .tt ?_;(conv=>whnf)
  refine CondG.split (fun _ => ?_) (fun h => absurd h (by simp [f2]))
  (conv=>whnf);refine .tt ?_;(conv=>whnf);refine .tt ?_;(conv=>whnf)
  refine CondG.decT rfl ?_
  conv=>whnf
  refine LoadNG.at (vs := uvs (w4 q)) rfl (.tl .all) ?_
  (conv=>whnf);refine .tt ?_;(conv=>whnf)
  refine LoadNG.at (vs := uvs (w4 (p - nat4 x.amt))) rfl .all ?_
  (conv=>whnf);refine .tt ?_;(conv=>whnf)
  refine DoesG.eqv 8 (List.replicate 4 (.int .u64)) (by kernel_rfl) (by decide) (by kernel_rfl) (by kernel_rfl) (wt_uvs rfl) (wt_uvs rfl) ?_
  (conv=>whnf);repeat((with_reducible first|refine .tt ?_|refine .ff ?_);conv=>whnf)
  exact ⟨[], Ent.nil _, congrArg Value.bool (by simp [f3]), rfl⟩
end Go.Proofs.YtnbcbdlbejdkpaaGreatDoor
namespace Go.Proofs.YtnbcbdlbejdkpaaGreatDoor
open Go Go.Sl
theorem flat_some {α : Type} {f : α → List Value} {k : Nat} {l : List α} (hk : ∀ a ∈ l, (f a).length = k) {i : Nat} {a : α} (h : l[i]? = some a) : ((l.flatMap f).drop (i * k)).take k = f a := by
 obtain ⟨hi, rfl⟩ := List.getElem?_eq_some_iff.1 h
 exact flat_get hk hi
section
variable {find : ByteArray → List Nat × Int}
theorem whose_loop (F : List HP) (K : List W32) (hk64 : K.length = 64) (hK : CelN F 0 0 (wvs K)) (pv : Value) (ls : List PairD) (hr : RdS F pv ls.length (pairsC ls)) (hl : ls.length ≤ 3518437208882) (hok : ∀ p ∈ ls, RdS F p.v p.bs.length (bvs p.bs) ∧ ∀ b ∈ p.bs, b < 256)
  (lv : Value) (xs : List StepD) (hx : ∀ x ∈ xs, x.wf) (hxr : RdS F lv xs.length (xs.flatMap StepD.cells)) :
  SpecF Tryz.prog 3 [pv, lv] F [] (fun r L => r = .bool true) := by
 refine fun3.spec rfl ?_
 conv=>whnf
 refine CallG.pure (lknown_spec _) ?_
 rintro _ _ ⟨rfl, rfl⟩
 conv=>whnf
 refine CallG.pure (clean_spec _ pv ls (.right hr _) (by omega) (fun p hp => .right (hok p hp).1 _)) ?_
 rintro cv _ ⟨out, S, hcv, rfl, hol, hS, have_, hfit, hout⟩
 have hoc : ∀ p ∈ out, cleanP p = true := fun p hp => by rw [hout] at hp; exact (List.mem_filter.1 hp).2
 have hom : ∀ p ∈ out, (∀ b ∈ p.bs, b < 256) ∧ mayI p.key p.bs.length = 0 := fun p hp => by
  rw [hout] at hp
  have h1 : p.e ∈ fitB [] (ls.map PairD.e) := by rw [← hfit]; exact List.mem_map_of_mem (List.mem_filter.1 hp).1
  rcases fitB_mem h1 with h2 | ⟨h2, h3, _⟩
  ·cases h2
  ·obtain ⟨q, hq, e⟩ := List.mem_map.1 h2
   have eb : q.bs = p.bs := congrArg Prod.snd e
   exact ⟨by rw [← eb]; exact (hok q hq).2, h3⟩
 have eF : own 2 cv out.length (pairsC out) :: shs S ++ ([] ++ []) ++ F = own 2 cv out.length (pairsC out) :: (shs S ++ F) := by simp
 conv=>whnf
 refine CallG.pure (F := F) (over_pairs hk64 _ (hK.right _) cv out (own_rd hcv (pairsC_len _)) (by omega) (fun p hp => ⟨by have h := (ShG.here (S := S) (L := F)).tl (p := own 2 cv out.length (pairsC out)) p.v (bvs p.bs) (hS p hp); rw [bvs_len] at h; rw [eF]; exact h, hom p hp⟩)) ?_
 rintro _ _ ⟨s, t, c, rfl, hcw, hck, rfl⟩
 (conv=>whnf);repeat((with_reducible first|refine .ff ?_|refine .nff ?_);conv=>whnf)
 refine CallG.pure (some_spec _ lv xs 12 (by decide) (.right hxr _)) ?_
 rintro _ _ ⟨rfl, rfl⟩
 obtain ⟨lv', hlv'⟩ : ∃ v, v = someV 12 lv := ⟨_, rfl⟩
 have hxr' := someV_rd hx 12 hxr
 have hx' : ∀ x ∈ xs.take 12, x.wf := fun x h => hx x (List.mem_of_mem_take h)
 have hxl : (xs.take 12).length ≤ 12 := by rw [List.length_take]; omega
 rw [← hlv'] at hxr'
 rw [← hlv']
 clear hxr hx hlv'
 generalize xs.take 12 = xs at *
 conv=>whnf
 refine CallG.pure (people_spec _ lv' xs hx' (by omega) (.right hxr' _)) ?_
 rintro wv _ ⟨W, hwv, hnd, hall, hadr, hWl, rfl⟩
 conv=>whnf
 refine CallG.pure (numbers_spec _ lv' xs hx' (by omega) (.right hxr' _)) ?_
 rintro tv _ ⟨T, htv, ht, hTl, rfl⟩
 obtain ⟨src, hsrc⟩ : ∃ src, src = Value.iface 99 (.pointer (some ⟨t, 0, none⟩)) := ⟨_, rfl⟩
 obtain ⟨find, hfind⟩ : ∃ find, find = tabFind c.vals := ⟨_, rfl⟩
 have ho : SrcOk find := by rw [hfind]; exact tab_srcOk hcw
 obtain ⟨R, hR⟩ : ∃ R, R = own 1 tv T.length (nvs T) :: own 20 wv W.length (W.flatMap bvs) :: c.pieces 151 176 212 t := ⟨_, rfl⟩
 have hs : SrcG Tryz.prog (R ++ F) src find := by
  rw [hR, hsrc, hfind]
  exact (tab_srcD F t c hcw).left [own 1 tv T.length (nvs T), own 20 wv W.length (W.flatMap bvs)]
 have hrt : RdS R tv T.length (nvs T) := by
  rw [hR]
  exact own_rd htv (by rw [nvs_len, Nat.mul_one])
 have hrw : RdS R wv W.length (W.flatMap bvs) := by
  rw [hR]
  exact (own_rd hwv (flat_len (fun a h => by rw [bvs_len, (hadr a h).1]))).tl
 have hled : Led ⟨fun k => (tabFind c.vals k).1, []⟩ md0 := led0 hck hoc
 rw [← hsrc, ← hfind]
 rw [← hfind] at hled
 conv=>whnf
 refine LoopG.mk (fun mm e L => ∃ (i : Nat) (V : View) (n : Nat), i ≤ xs.length ∧ mm = xs.length - i ∧ OkV W V ∧ V.hist.length ≤ i ∧ n ≤ 3 * i ∧
   e = [(1, lv'), (4, .bool false), (6, .pointer (some ⟨s, 0, none⟩)), (7, wv), (8, tv), (9, .int .i64 i)] ∧ L = stP 118 s src find V n :: R) xs.length
  [(1, lv'), (4, .bool false), (6, .pointer (some ⟨s, 0, none⟩)), (7, wv), (8, tv), (9, .int .i64 0)] (stP 118 s src find ⟨fun k => (find k).1, []⟩ 0 :: R) ⟨rfl, rfl, rfl, rfl, rfl, rfl, trivial⟩ ?_
  ⟨0, _, 0, by omega, rfl, ⟨⟨md0, hled, inv0 W⟩, fun f hf => by cases hf⟩, Nat.le_refl _, Nat.le_refl _, rfl, rfl⟩ ?_
 ·rw [hR]
  exact (Ent.sel (T := c.pieces 151 176 212 t ++ (own 2 cv out.length (pairsC out) :: shs S ++ ([] ++ []))) (A := [_, _, _]) [2, 0, 1] rfl).trans (Ent.under (Ent.dropL _ _) [_, _, _])
 clear hR
 rintro mm e L ⟨i, V, n, hi, rfl, hV, hh, hn, rfl, rfl⟩
 conv=>whnf
 refine LenG.rd hxr' ?_
 conv=>whnf
 refine CondG.dec (fun h1 => ?_) (fun h1 => ?_)
 ·have hil : i < xs.length := by omega
  obtain ⟨x, hxi⟩ : ∃ x, x = xs[i] := ⟨_, rfl⟩
  have hxm : x ∈ xs := by rw [hxi]; exact List.getElem_mem hil
  have hxw : x.wf := hx' _ hxm
  have h66 : x.cells.length = 66 := StepD.cells_len hxw
  have hT12 : (stepL V x).1.cells.length = 12 := ToldD.cells_len (stepL_len V x).1 (stepL_len V x).2
  obtain ⟨hne, hV2⟩ := step_ok hnd hV hxw (hall x hxm _ (by simp [who3])) (hall x hxm _ (by simp [who3])) (hall x hxm _ (by simp [who3]))
  have hhist := stepL_hist V x
  obtain ⟨m, hm, _⟩ := hV.now.led (U := V) rfl
  obtain ⟨m0, hm0, _⟩ := hV2.now.led (U := (stepL V x).2) rfl
  have hpart : ∀ cb o, CelN F cb o (xs.flatMap StepD.cells) → CelN F cb (o + ((i : Nat) : Int).toNat * 66) x.cells := fun cb o hcc => hcc.part (by rw [h66, Int.toNat_natCast, hxi]; exact flat_get (fun y h => StepD.cells_len (hx' y h)) hil)
  conv=>whnf
  refine IdxG.rd hxr' (by omega) fun cb o hcc => ?_
  have hxc := hpart cb o hcc
  clear hcc
  conv=>whnf
  refine LoadG.atF (v := .int .i64 x.what) (hxc.one (i := 0) rfl) ?_
  clear hxc
  conv=>whnf
  refine CallG.pure (lpick_spec _ x.what 13 hxw.w1 hxw.w2 (by decide)) ?_
  rintro _ _ ⟨rfl, rfl⟩
  conv=>whnf
  refine CallG.of (pre := [stP 118 s src find V n]) (rest := R) (read_at _ s src V n hs ho hm W T wv tv (hrw.left F) (hrt.left F) hadr ht (by omega) (by omega)) (Ent.refl _) ?_
  rintro _ _ ⟨v1, v2, v3, hv1, hv2, hv3, hBl, hAl, rfl, rfl⟩
  have hone : ∀ u ∈ [v1, v2, v3, Value.bool true], u.oneCell' = true := by
   obtain ⟨a1, c1, e1⟩ := hv1.len
   obtain ⟨a2, c2, e2⟩ := hv2.len
   obtain ⟨a3, c3, e3⟩ := hv3.len
   rw [e1, e2, e3]
   simp [Value.oneCell']
  conv=>whnf
  intro b11
  conv=>whnf
  refine StoreG.at rfl (Upd.whole rfl hone) ?_
  conv=>whnf
  refine IdxG.rd hxr' (by omega) fun cb o hcc => ?_
  have hxc := hpart cb o hcc
  clear hcc
  conv=>whnf
  refine LoadNG.atF (vs := x.cells) h66 hxc ?_
  clear hxc
  conv=>whnf
  refine CallG.of (pre := [stP 118 s src find V n]) (rest := cel b11 44 [v1, v2, v3, .bool true] :: own 6 v1 (bookT V T).length ((bookT V T).flatMap TokD.cells) :: own 4 v2 (bookB V T W).length ((bookB V T W).flatMap uvs) :: own 4 v3 (bookA V T W).length ((bookA V T W).flatMap uvs) :: R)
   (stepped_at _ s src V n x hxw (hs.left [_, _, _, _]) ho (by omega) (by omega)) (Ent.front 1 rfl) ?_
  rintro _ _ ⟨rfl, rfl⟩
  conv=>whnf
  intro b12
  conv=>whnf
  refine StoreG.at hT12 (Upd.whole (by rw [hT12]; rfl) (ToldD.cells_one _)) ?_
  conv=>whnf
  refine CallG.of (pre := [stP 118 s src find (stepL V x).2 (n + 3)]) (rest := cel b12 50 (stepL V x).1.cells :: cel b11 44 [v1, v2, v3, .bool true] :: own 6 v1 (bookT V T).length ((bookT V T).flatMap TokD.cells) :: own 4 v2 (bookB V T W).length ((bookB V T W).flatMap uvs) :: own 4 v3 (bookA V T W).length ((bookA V T W).flatMap uvs) :: R)
   (read_at _ s src _ (n + 3) (hs.left [_, _, _, _, _]) ho hm0 W T wv tv (.tl (.tl (.tl (.tl (.tl (hrw.left F)))))) (.tl (.tl (.tl (.tl (.tl (hrt.left F)))))) hadr ht (by omega) (by omega)) (Ent.front 1 rfl) ?_
  rintro _ _ ⟨u1, u2, u3, hu1, hu2, hu3, _, _, rfl, rfl⟩
  have hone2 : ∀ u ∈ [u1, u2, u3, Value.bool true], u.oneCell' = true := by
   obtain ⟨a1, c1, e1⟩ := hu1.len
   obtain ⟨a2, c2, e2⟩ := hu2.len
   obtain ⟨a3, c3, e3⟩ := hu3.len
   rw [e1, e2, e3]
   simp [Value.oneCell']
  conv=>whnf
  intro b13
  conv=>whnf
  refine StoreG.at rfl (Upd.whole rfl hone2) ?_
  conv=>whnf
  obtain ⟨M, hM⟩ : ∃ M, M = cel b13 44 [u1, u2, u3, .bool true] :: stP 118 s src find (stepL V x).2 (n + 3) :: own 6 u1 (bookT (stepL V x).2 T).length ((bookT (stepL V x).2 T).flatMap TokD.cells) :: own 4 u2 (bookB (stepL V x).2 T W).length ((bookB (stepL V x).2 T W).flatMap uvs) :: own 4 u3 (bookA (stepL V x).2 T W).length ((bookA (stepL V x).2 T W).flatMap uvs) ::
   cel b12 50 (stepL V x).1.cells :: cel b11 44 [v1, v2, v3, .bool true] :: own 6 v1 (bookT V T).length ((bookT V T).flatMap TokD.cells) :: own 4 v2 (bookB V T W).length ((bookB V T W).flatMap uvs) :: own 4 v3 (bookA V T W).length ((bookA V T W).flatMap uvs) :: R := ⟨_, rfl⟩
  have l6 : ∀ V : View, ∀ d ∈ bookT V T, d.cells.length = 6 := fun V d h => TokD.cells_len (bookT_sup V T d h)
  have l4 : ∀ V : View, ∀ d ∈ bookB V T W, (uvs d).length = 4 := fun V d h => by rw [uvs_len, bookB_four V T W d h]
  have k4 : ∀ V : View, ∀ d ∈ bookA V T W, (uvs d).length = 4 := fun V d h => by rw [uvs_len, bookA_four V T W d h]
  have hE : Ent M (stP 118 s src find (stepL V x).2 (n + 3) :: R) := by rw [hM]; exact Ent.sel (T := R) (A := [_, _, _, _, _, _, _, _, _, _]) [1] rfl
  have c13 : CelN M b13 0 [u1, u2, u3, .bool true] := by rw [hM]; exact .all
  have c12 : CelN M b12 0 (stepL V x).1.cells := by rw [hM]; exact .tl (.tl (.tl (.tl (.tl .all))))
  have c11 : CelN M b11 0 [v1, v2, v3, .bool true] := by rw [hM]; exact .tl (.tl (.tl (.tl (.tl (.tl .all)))))
  have q1 : RdS M u1 (bookT (stepL V x).2 T).length ((bookT (stepL V x).2 T).flatMap TokD.cells) := by rw [hM]; exact .tl (.tl (own_rd hu1 (flat_len (l6 _))))
  have q2 : RdS M u2 (bookB (stepL V x).2 T W).length ((bookB (stepL V x).2 T W).flatMap uvs) := by rw [hM]; exact .tl (.tl (.tl (own_rd hu2 (flat_len (l4 _)))))
  have q3 : RdS M u3 (bookA (stepL V x).2 T W).length ((bookA (stepL V x).2 T W).flatMap uvs) := by rw [hM]; exact .tl (.tl (.tl (.tl (own_rd hu3 (flat_len (k4 _))))))
  have r1 : RdS M v1 (bookT V T).length ((bookT V T).flatMap TokD.cells) := by rw [hM]; exact .tl (.tl (.tl (.tl (.tl (.tl (.tl (own_rd hv1 (flat_len (l6 _)))))))))
  have r2 : RdS M v2 (bookB V T W).length ((bookB V T W).flatMap uvs) := by rw [hM]; exact .tl (.tl (.tl (.tl (.tl (.tl (.tl (.tl (own_rd hv2 (flat_len (l4 _))))))))))
  have r3 : RdS M v3 (bookA V T W).length ((bookA V T W).flatMap uvs) := by rw [hM]; exact .tl (.tl (.tl (.tl (.tl (.tl (.tl (.tl (.tl (own_rd hv3 (flat_len (k4 _)))))))))))
  have hrwM : RdS M wv W.length (W.flatMap bvs) := by rw [hM]; exact .tl (.tl (.tl (.tl (.tl (.tl (.tl (.tl (.tl (.tl hrw)))))))))
  have hrtM : RdS M tv T.length (nvs T) := by rw [hM]; exact .tl (.tl (.tl (.tl (.tl (.tl (.tl (.tl (.tl (.tl hrt)))))))))
  have hLM := (fun (L : List HP) (h : L = M) => (h ▸ Ent.refl _ : Ent L M)) _ hM.symm
  clear hM hone hone2 hu1 hu2 hu3 hv1 hv2 hv3
  by_cases hk : pickN x.what 13 = 12
  ·refine CondG.decT (by omega) ?_
   conv=>whnf
   refine ArithG.i64' ((i + 1 : Nat) : Int) (by omega) (by omega) ?_
   conv=>whnf
   exact ⟨xs.length - (i + 1), [(1, lv'), (4, .bool false), (6, .pointer (some ⟨s, 0, none⟩)), (7, wv), (8, tv), (9, .int .i64 ((i + 1 : Nat) : Int))], _, by omega, ⟨rfl, rfl, rfl, rfl, rfl, rfl, trivial⟩, hLM.trans hE, i + 1, _, n + 3, by omega, rfl, hV2, by omega, by omega, rfl, rfl⟩
  refine CondG.decF (by omega) ?_
  obtain ⟨m2, hm2, hrel, hcode⟩ := step_rel hm hxw hk
  obtain ⟨L0, hL0⟩ : ∃ L0, L0 = (stepL V x).2 := ⟨_, rfl⟩
  rw [← hL0] at hm2 q1 q2 q3 hcode
  conv=>whnf
  refine LoadG.ent hLM (LoadG.at (c11.one (i := 3) rfl) ?_)
  (conv=>whnf);repeat((with_reducible first|refine .ff ?_|refine .nff ?_);conv=>whnf)
  refine LoadG.ent hLM (LoadG.at (c13.one (i := 3) rfl) ?_)
  (conv=>whnf);repeat((with_reducible first|refine .ff ?_|refine .nff ?_);conv=>whnf)
  refine LoadG.ent hLM (LoadG.at (v := .int .i64 (stepL V x).1.code) (c12.one (i := 0) rfl) ?_)
  (conv=>whnf);refine .ff ?_;(conv=>whnf);refine .ff ?_;(conv=>whnf)
  refine CondG.ndec (fun hc => ?_) (fun hc => ?_)
  ·obtain ⟨e1, e2, e3⟩ := books_now (hcode hc) T W
   conv=>whnf
   refine LoadNG.ent hLM (LoadNG.at (vs := [v1, v2, v3, .bool true]) rfl c11 ?_)
   (conv=>whnf);refine .tt ?_;(conv=>whnf)
   refine LoadNG.ent hLM (LoadNG.at (vs := [u1, u2, u3, .bool true]) rfl c13 ?_)
   (conv=>whnf);refine .tt ?_;(conv=>whnf)
   refine CallG.of (pre := []) (rest := M) (same_spec _ v1 v2 v3 u1 u2 u3 (bookT V T) (bookB V T W) (bookA V T W) (bookT_sup V T) (bookB_four V T W) (bookA_four V T W) (by rw [bookT_len]; omega) (by omega) (by omega) (r1.left F) (r2.left F) (r3.left F) (by rw [← e1]; exact q1.left F) (by rw [← e2]; exact q2.left F) (by rw [← e3]; exact q3.left F)) hLM ?_
   rintro _ _ ⟨rfl, rfl⟩
   (conv=>whnf);repeat((with_reducible first|refine .tt ?_|refine .ff ?_|refine .nff ?_);conv=>whnf)
   refine LoopG.mk (fun mm e L => ∃ ti : Nat, ti ≤ T.length ∧ mm = T.length - ti ∧ e = [(1, lv'), (4, .bool false), (6, .pointer (some ⟨s, 0, none⟩)), (7, wv), (8, tv), (9, .int .i64 i), (11, .pointer (some ⟨b11, 0, none⟩)), (13, .pointer (some ⟨b13, 0, none⟩)), (14, .int .i64 ti)] ∧ M = L) T.length
    [(1, lv'), (4, .bool false), (6, .pointer (some ⟨s, 0, none⟩)), (7, wv), (8, tv), (9, .int .i64 i), (11, .pointer (some ⟨b11, 0, none⟩)), (13, .pointer (some ⟨b13, 0, none⟩)), (14, .int .i64 0)] M ⟨rfl, rfl, rfl, rfl, rfl, rfl, rfl, rfl, rfl, trivial⟩ (Ent.refl _) ⟨0, by omega, rfl, rfl, rfl⟩ ?_
   rintro mm e L ⟨ti, hti, rfl, rfl, hLe⟩
   subst hLe
   conv=>whnf
   refine LenG.rd hrtM ?_
   conv=>whnf
   refine CondG.dec (fun h2 => ?_) (fun h2 => ?_)
   ·have htl : ti < T.length := by omega
    obtain ⟨tk, htk⟩ : ∃ tk, tk = T[ti] := ⟨_, rfl⟩
    have ht64 : tk < 64 := by rw [htk]; exact ht _ (List.getElem_mem htl)
    have hbeg : begE (tk : Int) = 0 := by unfold begE; rw [if_neg (by omega)]
    obtain ⟨kk, hkk⟩ : ∃ kk, kk = ti * W.length := ⟨_, rfl⟩
    have hk1 : kk ≤ 432 := by rw [hkk]; exact Nat.mul_le_mul (show ti ≤ 12 by omega) (show W.length ≤ 36 by omega)
    have hk2 : kk + W.length ≤ (bookB V T W).length := by
     have : (ti + 1) * W.length ≤ T.length * W.length := Nat.mul_le_mul_right _ (by omega)
     rw [bookB_count, hkk]
     rw [Nat.succ_mul] at this
     omega
    have hk3 : (bookB L0 T W).length = (bookB V T W).length := by rw [bookB_count, bookB_count]
    conv=>whnf
    refine LoopG.mk (fun mm e L => ∃ tj : Nat, tj ≤ W.length ∧ mm = W.length - tj ∧ e = [(1, lv'), (4, .bool false), (6, .pointer (some ⟨s, 0, none⟩)), (7, wv), (8, tv), (9, .int .i64 i), (11, .pointer (some ⟨b11, 0, none⟩)), (13, .pointer (some ⟨b13, 0, none⟩)), (14, .int .i64 ti), (15, .int .i64 tj)] ∧ M = L) W.length
     [(1, lv'), (4, .bool false), (6, .pointer (some ⟨s, 0, none⟩)), (7, wv), (8, tv), (9, .int .i64 i), (11, .pointer (some ⟨b11, 0, none⟩)), (13, .pointer (some ⟨b13, 0, none⟩)), (14, .int .i64 ti), (15, .int .i64 0)] M ⟨rfl, rfl, rfl, rfl, rfl, rfl, rfl, rfl, rfl, rfl, trivial⟩ (Ent.refl _) ⟨0, by omega, rfl, rfl, rfl⟩ ?_
    rintro mm e L ⟨tj, htj, rfl, rfl, hLe⟩
    subst hLe
    conv=>whnf
    refine LenG.rd hrwM ?_
    conv=>whnf
    refine CondG.dec (fun h3 => ?_) (fun h3 => ?_)
    ·have hjl : tj < W.length := by omega
     have haj : adr W[tj] := hadr _ (List.getElem_mem hjl)
     have h20 : (bvs W[tj]).length = 20 := by rw [bvs_len, haj.1]
     obtain ⟨p, hp⟩ : ∃ p, p = m.B tk W[tj] := ⟨_, rfl⟩
     obtain ⟨q, hq⟩ : ∃ q, q = m2.B tk W[tj] := ⟨_, rfl⟩
     have hpl : p < m256 := by rw [hp]; exact hm.balLt tk _ ht64 haj
     have hql : q < m256 := by rw [hq]; exact hm2.balLt tk _ ht64 haj
     have hB : (bookB V T W)[kk + tj]? = some (w4 p) := by
      rw [hkk, bookB_at V htl hjl, ← htk, hm.balM _ haj, Sl.balM, if_neg (by rw [hbeg]; decide), Int.toNat_natCast, hp]
     have hB2 : (bookB L0 T W)[kk + tj]? = some (w4 q) := by
      rw [hkk, bookB_at L0 htl hjl, ← htk, hm2.balM _ haj, Sl.balM, if_neg (by rw [hbeg]; decide), Int.toNat_natCast, hq]
     obtain ⟨hmay, hlive⟩ := hrel.bal tk W[tj] ht64
     rw [← hp, ← hq] at hmay hlive
     conv=>whnf
     refine LoadG.at (c11.one (i := 1) rfl) ?_
     conv=>whnf
     refine LenG.rd hrwM ?_
     conv=>whnf
     refine ArithG.i64' ((kk : Nat) : Int) (by rw [hkk, Int.natCast_mul]) (by omega) ?_
     conv=>whnf
     refine ArithG.i64' ((kk + tj : Nat) : Int) (by omega) (by omega) ?_
     conv=>whnf
     refine IdxG.rd r2 (by omega) fun cb o hcc => ?_
     conv=>whnf
     refine LoadNG.at (vs := uvs (w4 p)) rfl (hcc.part (by rw [Int.toNat_natCast]; exact flat_some (l4 V) hB)) ?_
     clear hcc
     conv=>whnf
     intro b16
     conv=>whnf
     refine StoreG.at rfl (Upd.whole rfl (uvs_one _)) ?_
     conv=>whnf
     refine LoadG.at (.tl (c13.one (i := 1) rfl)) ?_
     conv=>whnf
     refine LenG.rd hrwM ?_
     conv=>whnf
     refine ArithG.i64' ((kk : Nat) : Int) (by rw [hkk, Int.natCast_mul]) (by omega) ?_
     conv=>whnf
     refine ArithG.i64' ((kk + tj : Nat) : Int) (by omega) (by omega) ?_
     conv=>whnf
     refine IdxG.rd q2 (by omega) fun cb o hcc => ?_
     conv=>whnf
     refine LoadNG.at (vs := uvs (w4 q)) rfl (.tl (hcc.part (by rw [Int.toNat_natCast]; exact flat_some (l4 L0) hB2))) ?_
     clear hcc
     conv=>whnf
     intro b17
     conv=>whnf
     refine StoreG.at rfl (Upd.whole rfl (uvs_one _)) ?_
     conv=>whnf
     refine DrawG.mk 38 (cel b17 38 (uvs (w4 q)) :: cel b16 38 (uvs (w4 p)) :: M) [] (Ent.refl _) ?_
     conv=>whnf
     refine .take 0 ?_
     conv=>whnf
     refine ⟨rfl, ?_⟩
     conv=>whnf
     refine .take 1 ?_
     conv=>whnf
     refine ⟨rfl, ?_⟩
     conv=>whnf
     refine .take 2 ?_
     conv=>whnf
     refine ⟨rfl, ?_⟩
     conv=>whnf
     refine IdxG.rd hxr' (by omega) fun cb o hcc => ?_
     have hxc := hpart cb o hcc
     clear hcc
     conv=>whnf
     refine .take 3 ?_
     conv=>whnf
     refine ⟨rfl, ?_⟩
     conv=>whnf
     refine LoadNG.atF (vs := x.cells) h66 hxc ?_
     clear hxc
     conv=>whnf
     refine .take 4 ?_
     conv=>whnf
     refine ⟨rfl, ?_⟩
     conv=>whnf
     refine .take 5 ?_
     conv=>whnf
     refine ⟨rfl, ?_⟩
     conv=>whnf
     refine .take 6 ?_
     conv=>whnf
     refine ⟨rfl, ?_⟩
     conv=>whnf
     refine IdxG.rd hrtM (by omega) fun cb o hcc => ?_
     conv=>whnf
     refine .take 7 ?_
     conv=>whnf
     refine ⟨rfl, ?_⟩
     conv=>whnf
     refine LoadG.at (v := .int .i64 tk) (.tl (.tl (hcc.one (i := ((ti : Nat) : Int).toNat * 1) (by rw [Int.toNat_natCast, Nat.mul_one, htk]; exact nvs_get htl)))) ?_
     clear hcc
     conv=>whnf
     refine .take 8 ?_
     conv=>whnf
     refine ⟨rfl, ?_⟩
     conv=>whnf
     refine .take 9 ?_
     conv=>whnf
     refine ⟨rfl, ?_⟩
     conv=>whnf
     refine .take 10 ?_
     conv=>whnf
     refine ⟨rfl, ?_⟩
     conv=>whnf
     refine IdxG.rd hrwM (by omega) fun cb o hcc => ?_
     conv=>whnf
     refine .take 11 ?_
     conv=>whnf
     refine ⟨rfl, ?_⟩
     conv=>whnf
     refine LoadNG.at (vs := bvs W[tj]) h20 (.tl (.tl (hcc.part (by rw [h20, Int.toNat_natCast]; exact flat_get (fun a h => by rw [bvs_len, (hadr a h).1]) hjl)))) ?_
     clear hcc
     conv=>whnf
     refine .take 12 ?_
     conv=>whnf
     refine ⟨rfl, ?_⟩
     conv=>whnf
     refine LoadNG.at (vs := uvs (w4 p)) rfl (.tl .all) ?_
     conv=>whnf
     refine .take 13 ?_
     conv=>whnf
     refine ⟨rfl, ?_⟩
     conv=>whnf
     refine LoadNG.at (vs := uvs (w4 q)) rfl .all ?_
     conv=>whnf
     refine .all ?_
     conv=>whnf
     refine ⟨by decide, ?_⟩
     conv=>whnf
     refine CallG.pure (balance_spec _ x hxw tk W[tj] haj p q hpl hql hmay) ?_
     rintro _ _ ⟨rfl, rfl⟩
     conv=>whnf
     refine .take 15 ?_
     conv=>whnf
     refine ⟨rfl, ?_⟩
     conv=>whnf
     refine .take 16 ?_
     conv=>whnf
     refine ⟨rfl, ?_⟩
     conv=>whnf
     refine .take 17 ?_
     conv=>whnf
     refine ⟨rfl, ?_⟩
     (conv=>whnf);refine .nff ?_;(conv=>whnf)
     refine LoadNG.at (vs := uvs (w4 p)) rfl (.tl .all) ?_
     conv=>whnf
     refine .take 18 ?_
     conv=>whnf
     refine ⟨rfl, ?_⟩
     (conv=>whnf);refine .ff ?_;(conv=>whnf)
     refine LoadNG.at (vs := uvs (w4 q)) rfl .all ?_
     conv=>whnf
     refine .all ?_
     conv=>whnf
     refine ⟨by decide, ?_⟩
     (conv=>whnf);refine .ff ?_;(conv=>whnf)
     refine DoesG.eqv 8 (List.replicate 4 (.int .u64)) (by kernel_rfl) (by decide) (by kernel_rfl) (by kernel_rfl) (wt_uvs rfl) (wt_uvs rfl) ?_
     conv=>whnf
     refine .take 20 ?_
     conv=>whnf
     refine ⟨rfl, ?_⟩
     (conv=>whnf);refine .ff ?_;(conv=>whnf)
     by_cases hpq : q = p
     ·have e1 : uvs (w4 p) = uvs (w4 q) := by rw [hpq]
      refine .take 21 ?_
      conv=>whnf
      refine ⟨rfl, ?_⟩
      conv=>whnf
      refine CondG.split (fun h => absurd h (by simp [e1])) (fun _ => ?_)
      conv=>whnf
      refine .take 22 ?_
      conv=>whnf
      refine ⟨rfl, ?_⟩
      (conv=>whnf);refine .ff ?_;(conv=>whnf)
      refine .take 23 ?_
      conv=>whnf
      refine ⟨rfl, ?_⟩
      (conv=>whnf);refine .ff ?_;(conv=>whnf)
      refine .take 24 ?_
      conv=>whnf
      refine ⟨rfl, ?_⟩
      (conv=>whnf);refine .ff ?_;(conv=>whnf)
      refine .take 25 ?_
      conv=>whnf
      refine ⟨rfl, ?_⟩
      (conv=>whnf);refine .ff ?_;(conv=>whnf)
      refine .take 26 ?_
      conv=>whnf
      refine ⟨rfl, ?_⟩
      (conv=>whnf);refine .ff ?_;(conv=>whnf)
      refine .take 27 ?_
      conv=>whnf
      refine ⟨rfl, ?_⟩
      (conv=>whnf);refine .ff ?_;(conv=>whnf)
      refine .take 28 ?_
      conv=>whnf
      refine ⟨rfl, ?_⟩
      (conv=>whnf);refine .ff ?_;(conv=>whnf)
      refine .take 29 ?_
      conv=>whnf
      refine ⟨rfl, ?_⟩
      conv=>whnf
      refine .take 30 ?_
      conv=>whnf
      refine ⟨rfl, ?_⟩
      conv=>whnf
      refine .take 31 ?_
      conv=>whnf
      refine ⟨rfl, ?_⟩
      conv=>whnf
      refine .take 32 ?_
      conv=>whnf
      refine ⟨rfl, ?_⟩
      conv=>whnf
      refine .take 33 ?_
      conv=>whnf
      refine ⟨rfl, ?_⟩
      conv=>whnf
      refine .take 34 ?_
      conv=>whnf
      refine ⟨rfl, ?_⟩
      conv=>whnf
      refine .take 35 ?_
      conv=>whnf
      refine ⟨rfl, ?_⟩
      (conv=>whnf);refine .ff ?_;(conv=>whnf)
      refine .take 36 ?_
      conv=>whnf
      refine ⟨rfl, ?_⟩
      (conv=>whnf);refine .ff ?_;(conv=>whnf);refine .ff ?_;(conv=>whnf)
      refine .all ?_
      conv=>whnf
      refine ⟨by decide, ?_⟩
      (conv=>whnf);refine .ff ?_;(conv=>whnf)
      refine ⟨rfl, ?_⟩
      (conv=>whnf);refine .ff ?_;(conv=>whnf)
      refine LoopG.mk (fun mm e L => ∃ tn : Nat, tn ≤ W.length ∧ mm = W.length - tn ∧ e = [(1, lv'), (4, .bool false), (6, .pointer (some ⟨s, 0, none⟩)), (7, wv), (8, tv), (9, .int .i64 i), (11, .pointer (some ⟨b11, 0, none⟩)), (13, .pointer (some ⟨b13, 0, none⟩)), (14, .int .i64 ti), (15, .int .i64 tj), (18, .int .i64 tn)] ∧ M = L) W.length
       [(1, lv'), (4, .bool false), (6, .pointer (some ⟨s, 0, none⟩)), (7, wv), (8, tv), (9, .int .i64 i), (11, .pointer (some ⟨b11, 0, none⟩)), (13, .pointer (some ⟨b13, 0, none⟩)), (14, .int .i64 ti), (15, .int .i64 tj), (18, .int .i64 0)] M ⟨rfl, rfl, rfl, rfl, rfl, rfl, rfl, rfl, rfl, rfl, rfl, trivial⟩ ((Ent.drop _).trans (Ent.drop _)) ⟨0, by omega, rfl, rfl, rfl⟩ ?_
      rintro mm e L ⟨tn, htn, rfl, rfl, hLe⟩
      subst hLe
      conv=>whnf
      refine LenG.rd hrwM ?_
      conv=>whnf
      refine CondG.dec (fun h4 => ?_) (fun h4 => ?_)
      ·have hnl : tn < W.length := by omega
       have han : adr W[tn] := hadr _ (List.getElem_mem hnl)
       have k20 : (bvs W[tn]).length = 20 := by rw [bvs_len, han.1]
       obtain ⟨kj, hkj⟩ : ∃ kj, kj = (kk + tj) * W.length := ⟨_, rfl⟩
       have hj1 : kj ≤ 468 * 36 := by rw [hkj]; exact Nat.mul_le_mul (by omega) (by omega)
       have hj2 : kj + W.length ≤ (bookA V T W).length := by
        have h5 : (kk + tj + 1) * W.length ≤ (T.length * W.length) * W.length := Nat.mul_le_mul_right _ (by rw [← bookB_count V]; omega)
        rw [bookA_count, ← Nat.mul_assoc, hkj]
        rw [Nat.succ_mul] at h5
        exact h5
       have hj3 : (bookA L0 T W).length = (bookA V T W).length := by rw [bookA_count, bookA_count]
       obtain ⟨p, hp⟩ : ∃ p, p = m.A tk W[tj] W[tn] := ⟨_, rfl⟩
       obtain ⟨q, hq⟩ : ∃ q, q = m2.A tk W[tj] W[tn] := ⟨_, rfl⟩
       have hpl : p < m256 := by rw [hp]; exact hm.allLt tk _ _ ht64 haj han
       have hql : q < m256 := by rw [hq]; exact hm2.allLt tk _ _ ht64 haj han
       have hA1 : (bookA V T W)[kj + tn]? = some (w4 p) := by
        rw [hkj, hkk, bookA_at V htl hjl hnl, ← htk, hm.allowedM _ haj han, Sl.allowedM, if_neg (by rw [hbeg]; decide), Int.toNat_natCast, hp]
       have hA2 : (bookA L0 T W)[kj + tn]? = some (w4 q) := by
        rw [hkj, hkk, bookA_at L0 htl hjl hnl, ← htk, hm2.allowedM _ haj han, Sl.allowedM, if_neg (by rw [hbeg]; decide), Int.toNat_natCast, hq]
       have hmayA := hrel.all tk W[tj] W[tn]
       rw [← hp, ← hq] at hmayA
       conv=>whnf
       refine LenG.rd hrwM ?_
       conv=>whnf
       refine ArithG.i64' ((kk : Nat) : Int) (by rw [hkk, Int.natCast_mul]) (by omega) ?_
       conv=>whnf
       refine ArithG.i64' ((kk + tj : Nat) : Int) (by omega) (by omega) ?_
       conv=>whnf
       refine LenG.rd hrwM ?_
       conv=>whnf
       refine ArithG.i64' ((kj : Nat) : Int) (by rw [hkj, Int.natCast_mul]) (by omega) ?_
       conv=>whnf
       refine ArithG.i64' ((kj + tn : Nat) : Int) (by omega) (by omega) ?_
       conv=>whnf
       refine DrawG.mk 28 M [] (Ent.refl _) ?_
       conv=>whnf
       refine .take 0 ?_
       conv=>whnf
       refine ⟨rfl, ?_⟩
       conv=>whnf
       refine .take 1 ?_
       conv=>whnf
       refine ⟨rfl, ?_⟩
       conv=>whnf
       refine .take 2 ?_
       conv=>whnf
       refine ⟨rfl, ?_⟩
       conv=>whnf
       refine IdxG.rd hxr' (by omega) fun cb o hcc => ?_
       have hxc := hpart cb o hcc
       clear hcc
       conv=>whnf
       refine .take 3 ?_
       conv=>whnf
       refine ⟨rfl, ?_⟩
       conv=>whnf
       refine LoadNG.atF (vs := x.cells) h66 hxc ?_
       clear hxc
       conv=>whnf
       refine .take 4 ?_
       conv=>whnf
       refine ⟨rfl, ?_⟩
       conv=>whnf
       refine .take 5 ?_
       conv=>whnf
       refine ⟨rfl, ?_⟩
       conv=>whnf
       refine .take 6 ?_
       conv=>whnf
       refine ⟨rfl, ?_⟩
       conv=>whnf
       refine IdxG.rd hrtM (by omega) fun cb o hcc => ?_
       conv=>whnf
       refine .take 7 ?_
       conv=>whnf
       refine ⟨rfl, ?_⟩
       conv=>whnf
       refine LoadG.at (v := .int .i64 tk) (hcc.one (i := ((ti : Nat) : Int).toNat * 1) (by rw [Int.toNat_natCast, Nat.mul_one, htk]; exact nvs_get htl)) ?_
       clear hcc
       conv=>whnf
       refine .take 8 ?_
       conv=>whnf
       refine ⟨rfl, ?_⟩
       conv=>whnf
       refine .take 9 ?_
       conv=>whnf
       refine ⟨rfl, ?_⟩
       conv=>whnf
       refine .take 10 ?_
       conv=>whnf
       refine ⟨rfl, ?_⟩
       conv=>whnf
       refine IdxG.rd hrwM (by omega) fun cb o hcc => ?_
       conv=>whnf
       refine .take 11 ?_
       conv=>whnf
       refine ⟨rfl, ?_⟩
       conv=>whnf
       refine LoadNG.at (vs := bvs W[tj]) h20 (hcc.part (by rw [h20, Int.toNat_natCast]; exact flat_get (fun a h => by rw [bvs_len, (hadr a h).1]) hjl)) ?_
       clear hcc
       conv=>whnf
       refine .take 12 ?_
       conv=>whnf
       refine ⟨rfl, ?_⟩
       conv=>whnf
       refine .take 13 ?_
       conv=>whnf
       refine ⟨rfl, ?_⟩
       conv=>whnf
       refine .take 14 ?_
       conv=>whnf
       refine ⟨rfl, ?_⟩
       conv=>whnf
       refine IdxG.rd hrwM (by omega) fun cb o hcc => ?_
       conv=>whnf
       refine .take 15 ?_
       conv=>whnf
       refine ⟨rfl, ?_⟩
       conv=>whnf
       refine LoadNG.at (vs := bvs W[tn]) k20 (hcc.part (by rw [k20, Int.toNat_natCast]; exact flat_get (fun a h => by rw [bvs_len, (hadr a h).1]) hnl)) ?_
       clear hcc
       conv=>whnf
       refine .take 16 ?_
       conv=>whnf
       refine ⟨rfl, ?_⟩
       conv=>whnf
       refine .take 17 ?_
       conv=>whnf
       refine ⟨rfl, ?_⟩
       conv=>whnf
       refine LoadG.at (c11.one (i := 2) rfl) ?_
       conv=>whnf
       refine .take 18 ?_
       conv=>whnf
       refine ⟨rfl, ?_⟩
       conv=>whnf
       refine .take 19 ?_
       conv=>whnf
       refine ⟨rfl, ?_⟩
       conv=>whnf
       refine IdxG.rd r3 (by omega) fun cb o hcc => ?_
       conv=>whnf
       refine .take 20 ?_
       conv=>whnf
       refine ⟨rfl, ?_⟩
       conv=>whnf
       refine LoadNG.at (vs := uvs (w4 p)) rfl (hcc.part (by rw [Int.toNat_natCast]; exact flat_some (k4 V) hA1)) ?_
       clear hcc
       conv=>whnf
       refine .take 21 ?_
       conv=>whnf
       refine ⟨rfl, ?_⟩
       conv=>whnf
       refine .take 22 ?_
       conv=>whnf
       refine ⟨rfl, ?_⟩
       conv=>whnf
       refine LoadG.at (c13.one (i := 2) rfl) ?_
       conv=>whnf
       refine .take 23 ?_
       conv=>whnf
       refine ⟨rfl, ?_⟩
       conv=>whnf
       refine .take 24 ?_
       conv=>whnf
       refine ⟨rfl, ?_⟩
       conv=>whnf
       refine IdxG.rd q3 (by omega) fun cb o hcc => ?_
       conv=>whnf
       refine .take 25 ?_
       conv=>whnf
       refine ⟨rfl, ?_⟩
       conv=>whnf
       refine LoadNG.at (vs := uvs (w4 q)) rfl (hcc.part (by rw [Int.toNat_natCast]; exact flat_some (k4 L0) hA2)) ?_
       clear hcc
       conv=>whnf
       refine .all ?_
       conv=>whnf
       refine ⟨by decide, ?_⟩
       conv=>whnf
       refine CallG.pure (allowance_spec _ x hxw tk W[tj] W[tn] haj han p q hpl hql hmayA) ?_
       rintro _ _ ⟨rfl, rfl⟩
       conv=>whnf
       refine .all ?_
       conv=>whnf
       refine ⟨by decide, ?_⟩
       conv=>whnf
       refine ⟨rfl, ?_⟩
       (conv=>whnf);refine .nff ?_;(conv=>whnf)
       refine ArithG.i64' ((tn + 1 : Nat) : Int) (by omega) (by omega) ?_
       conv=>whnf
       exact ⟨W.length - (tn + 1), [(1, lv'), (4, .bool false), (6, .pointer (some ⟨s, 0, none⟩)), (7, wv), (8, tv), (9, .int .i64 i), (11, .pointer (some ⟨b11, 0, none⟩)), (13, .pointer (some ⟨b13, 0, none⟩)), (14, .int .i64 ti), (15, .int .i64 tj), (18, .int .i64 ((tn + 1 : Nat) : Int))], _, by omega, ⟨rfl, rfl, rfl, rfl, rfl, rfl, rfl, rfl, rfl, rfl, rfl, trivial⟩, Ent.refl _, tn + 1, by omega, rfl, rfl, rfl⟩
      ·conv=>whnf
       refine ArithG.i64' ((tj + 1 : Nat) : Int) (by omega) (by omega) ?_
       conv=>whnf
       exact ⟨W.length - (tj + 1), [(1, lv'), (4, .bool false), (6, .pointer (some ⟨s, 0, none⟩)), (7, wv), (8, tv), (9, .int .i64 i), (11, .pointer (some ⟨b11, 0, none⟩)), (13, .pointer (some ⟨b13, 0, none⟩)), (14, .int .i64 ti), (15, .int .i64 ((tj + 1 : Nat) : Int))], _, by omega, ⟨rfl, rfl, rfl, rfl, rfl, rfl, rfl, rfl, rfl, rfl, trivial⟩, Ent.refl _, tj + 1, by omega, rfl, rfl, rfl⟩
     ·have e1 : uvs (w4 p) ≠ uvs (w4 q) := fun h => hpq ((w4_eq hpl hql).1 h).symm
      obtain ⟨hth, hpa⟩ := hlive hpq
      have hD : (bookT V T)[ti]? = some (m.T tk).d := by
       rw [bookT, List.getElem?_map, List.getElem?_eq_getElem htl]
       show some (tokenL V (T[ti] : Nat)).1 = _
       rw [← htk, hm.tokenM, tokenM, if_neg (by rw [hbeg]; decide), Int.toNat_natCast]
      have hdl : (bookT V T).length = T.length := bookT_len V T
      refine .take 21 ?_
      conv=>whnf
      refine ⟨rfl, ?_⟩
      conv=>whnf
      refine CondG.split (fun _ => ?_) (fun h => absurd h (by simp [e1]))
      conv=>whnf
      refine .take 22 ?_
      conv=>whnf
      refine ⟨rfl, ?_⟩
      (conv=>whnf);refine .tt ?_;(conv=>whnf)
      refine LoadG.at (.tl (.tl (c11.one (i := 0) rfl))) ?_
      conv=>whnf
      refine .take 23 ?_
      conv=>whnf
      refine ⟨rfl, ?_⟩
      (conv=>whnf);refine .tt ?_;(conv=>whnf)
      refine .take 24 ?_
      conv=>whnf
      refine ⟨rfl, ?_⟩
      (conv=>whnf);refine .tt ?_;(conv=>whnf)
      refine IdxG.rd r1 (by omega) fun cb o hcc => ?_
      have hcd : CelN M cb (o + ((ti : Nat) : Int).toNat * 6) (m.T tk).d.cells := hcc.part (by rw [Int.toNat_natCast]; exact flat_some (l6 V) hD)
      clear hcc
      conv=>whnf
      refine .take 25 ?_
      conv=>whnf
      refine ⟨rfl, ?_⟩
      (conv=>whnf);refine .tt ?_;(conv=>whnf)
      refine .take 26 ?_
      conv=>whnf
      refine ⟨rfl, ?_⟩
      (conv=>whnf);refine .tt ?_;(conv=>whnf)
      refine LoadG.at (v := .bool true) (.tl (.tl (hcd.one (i := 0) (by show some (Value.bool (m.T tk).there) = _; rw [hth])))) ?_
      clear hcd
      conv=>whnf
      refine .take 27 ?_
      conv=>whnf
      refine ⟨rfl, ?_⟩
      (conv=>whnf);refine .tt ?_;(conv=>whnf)
      refine .take 28 ?_
      conv=>whnf
      refine ⟨rfl, ?_⟩
      (conv=>whnf);refine .tt ?_;(conv=>whnf)
      refine .take 29 ?_
      conv=>whnf
      refine ⟨rfl, ?_⟩
      (conv=>whnf);refine .nff ?_;(conv=>whnf)
      refine .take 30 ?_
      conv=>whnf
      refine ⟨rfl, ?_⟩
      (conv=>whnf);refine .ff ?_;(conv=>whnf)
      refine LoadG.at (.tl (.tl (c11.one (i := 0) rfl))) ?_
      conv=>whnf
      refine .take 31 ?_
      conv=>whnf
      refine ⟨rfl, ?_⟩
      (conv=>whnf);refine .ff ?_;(conv=>whnf)
      refine .take 32 ?_
      conv=>whnf
      refine ⟨rfl, ?_⟩
      (conv=>whnf);refine .ff ?_;(conv=>whnf)
      refine IdxG.rd r1 (by omega) fun cb o hcc => ?_
      have hcd : CelN M cb (o + ((ti : Nat) : Int).toNat * 6) (m.T tk).d.cells := hcc.part (by rw [Int.toNat_natCast]; exact flat_some (l6 V) hD)
      clear hcc
      conv=>whnf
      refine .take 33 ?_
      conv=>whnf
      refine ⟨rfl, ?_⟩
      (conv=>whnf);refine .ff ?_;(conv=>whnf)
      refine .take 34 ?_
      conv=>whnf
      refine ⟨rfl, ?_⟩
      (conv=>whnf);refine .ff ?_;(conv=>whnf)
      refine LoadG.at (v := .bool false) (.tl (.tl (hcd.one (i := 1) (by show some (Value.bool (m.T tk).paused) = _; rw [hpa])))) ?_
      clear hcd
      conv=>whnf
      refine .take 35 ?_
      conv=>whnf
      refine ⟨rfl, ?_⟩
      (conv=>whnf);repeat((with_reducible first|refine .tt ?_|refine .ff ?_);conv=>whnf)
      refine .take 36 ?_
      conv=>whnf
      refine ⟨rfl, ?_⟩
      (conv=>whnf);repeat((with_reducible first|refine .tt ?_|refine .ff ?_);conv=>whnf)
      refine .all ?_
      conv=>whnf
      refine ⟨by decide, ?_⟩
      (conv=>whnf);refine .ff ?_;(conv=>whnf)
      refine ⟨rfl, ?_⟩
      (conv=>whnf);refine .ff ?_;(conv=>whnf)
      refine LoopG.mk (fun mm e L => ∃ tn : Nat, tn ≤ W.length ∧ mm = W.length - tn ∧ e = [(1, lv'), (4, .bool false), (6, .pointer (some ⟨s, 0, none⟩)), (7, wv), (8, tv), (9, .int .i64 i), (11, .pointer (some ⟨b11, 0, none⟩)), (13, .pointer (some ⟨b13, 0, none⟩)), (14, .int .i64 ti), (15, .int .i64 tj), (18, .int .i64 tn)] ∧ M = L) W.length
       [(1, lv'), (4, .bool false), (6, .pointer (some ⟨s, 0, none⟩)), (7, wv), (8, tv), (9, .int .i64 i), (11, .pointer (some ⟨b11, 0, none⟩)), (13, .pointer (some ⟨b13, 0, none⟩)), (14, .int .i64 ti), (15, .int .i64 tj), (18, .int .i64 0)] M ⟨rfl, rfl, rfl, rfl, rfl, rfl, rfl, rfl, rfl, rfl, rfl, trivial⟩ ((Ent.drop _).trans (Ent.drop _)) ⟨0, by omega, rfl, rfl, rfl⟩ ?_
      rintro mm e L ⟨tn, htn, rfl, rfl, hLe⟩
      subst hLe
      conv=>whnf
      refine LenG.rd hrwM ?_
      conv=>whnf
      refine CondG.dec (fun h4 => ?_) (fun h4 => ?_)
      ·have hnl : tn < W.length := by omega
       have han : adr W[tn] := hadr _ (List.getElem_mem hnl)
       have k20 : (bvs W[tn]).length = 20 := by rw [bvs_len, han.1]
       obtain ⟨kj, hkj⟩ : ∃ kj, kj = (kk + tj) * W.length := ⟨_, rfl⟩
       have hj1 : kj ≤ 468 * 36 := by rw [hkj]; exact Nat.mul_le_mul (by omega) (by omega)
       have hj2 : kj + W.length ≤ (bookA V T W).length := by
        have h5 : (kk + tj + 1) * W.length ≤ (T.length * W.length) * W.length := Nat.mul_le_mul_right _ (by rw [← bookB_count V]; omega)
        rw [bookA_count, ← Nat.mul_assoc, hkj]
        rw [Nat.succ_mul] at h5
        exact h5
       have hj3 : (bookA L0 T W).length = (bookA V T W).length := by rw [bookA_count, bookA_count]
       obtain ⟨p, hp⟩ : ∃ p, p = m.A tk W[tj] W[tn] := ⟨_, rfl⟩
       obtain ⟨q, hq⟩ : ∃ q, q = m2.A tk W[tj] W[tn] := ⟨_, rfl⟩
       have hpl : p < m256 := by rw [hp]; exact hm.allLt tk _ _ ht64 haj han
       have hql : q < m256 := by rw [hq]; exact hm2.allLt tk _ _ ht64 haj han
       have hA1 : (bookA V T W)[kj + tn]? = some (w4 p) := by
        rw [hkj, hkk, bookA_at V htl hjl hnl, ← htk, hm.allowedM _ haj han, Sl.allowedM, if_neg (by rw [hbeg]; decide), Int.toNat_natCast, hp]
       have hA2 : (bookA L0 T W)[kj + tn]? = some (w4 q) := by
        rw [hkj, hkk, bookA_at L0 htl hjl hnl, ← htk, hm2.allowedM _ haj han, Sl.allowedM, if_neg (by rw [hbeg]; decide), Int.toNat_natCast, hq]
       have hmayA := hrel.all tk W[tj] W[tn]
       rw [← hp, ← hq] at hmayA
       conv=>whnf
       refine LenG.rd hrwM ?_
       conv=>whnf
       refine ArithG.i64' ((kk : Nat) : Int) (by rw [hkk, Int.natCast_mul]) (by omega) ?_
       conv=>whnf
       refine ArithG.i64' ((kk + tj : Nat) : Int) (by omega) (by omega) ?_
       conv=>whnf
       refine LenG.rd hrwM ?_
       conv=>whnf
       refine ArithG.i64' ((kj : Nat) : Int) (by rw [hkj, Int.natCast_mul]) (by omega) ?_
       conv=>whnf
       refine ArithG.i64' ((kj + tn : Nat) : Int) (by omega) (by omega) ?_
       conv=>whnf
       refine DrawG.mk 28 M [] (Ent.refl _) ?_
       conv=>whnf
       refine .take 0 ?_
       conv=>whnf
       refine ⟨rfl, ?_⟩
       conv=>whnf
       refine .take 1 ?_
       conv=>whnf
       refine ⟨rfl, ?_⟩
       conv=>whnf
       refine .take 2 ?_
       conv=>whnf
       refine ⟨rfl, ?_⟩
       conv=>whnf
       refine IdxG.rd hxr' (by omega) fun cb o hcc => ?_
       have hxc := hpart cb o hcc
       clear hcc
       conv=>whnf
       refine .take 3 ?_
       conv=>whnf
       refine ⟨rfl, ?_⟩
       conv=>whnf
       refine LoadNG.atF (vs := x.cells) h66 hxc ?_
       clear hxc
       conv=>whnf
       refine .take 4 ?_
       conv=>whnf
       refine ⟨rfl, ?_⟩
       conv=>whnf
       refine .take 5 ?_
       conv=>whnf
       refine ⟨rfl, ?_⟩
       conv=>whnf
       refine .take 6 ?_
       conv=>whnf
       refine ⟨rfl, ?_⟩
       conv=>whnf
       refine IdxG.rd hrtM (by omega) fun cb o hcc => ?_
       conv=>whnf
       refine .take 7 ?_
       conv=>whnf
       refine ⟨rfl, ?_⟩
       conv=>whnf
       refine LoadG.at (v := .int .i64 tk) (hcc.one (i := ((ti : Nat) : Int).toNat * 1) (by rw [Int.toNat_natCast, Nat.mul_one, htk]; exact nvs_get htl)) ?_
       clear hcc
       conv=>whnf
       refine .take 8 ?_
       conv=>whnf
       refine ⟨rfl, ?_⟩
       conv=>whnf
       refine .take 9 ?_
       conv=>whnf
       refine ⟨rfl, ?_⟩
       conv=>whnf
       refine .take 10 ?_
       conv=>whnf
       refine ⟨rfl, ?_⟩
       conv=>whnf
       refine IdxG.rd hrwM (by omega) fun cb o hcc => ?_
       conv=>whnf
       refine .take 11 ?_
       conv=>whnf
       refine ⟨rfl, ?_⟩
       conv=>whnf
       refine LoadNG.at (vs := bvs W[tj]) h20 (hcc.part (by rw [h20, Int.toNat_natCast]; exact flat_get (fun a h => by rw [bvs_len, (hadr a h).1]) hjl)) ?_
       clear hcc
       conv=>whnf
       refine .take 12 ?_
       conv=>whnf
       refine ⟨rfl, ?_⟩
       conv=>whnf
       refine .take 13 ?_
       conv=>whnf
       refine ⟨rfl, ?_⟩
       conv=>whnf
       refine .take 14 ?_
       conv=>whnf
       refine ⟨rfl, ?_⟩
       conv=>whnf
       refine IdxG.rd hrwM (by omega) fun cb o hcc => ?_
       conv=>whnf
       refine .take 15 ?_
       conv=>whnf
       refine ⟨rfl, ?_⟩
       conv=>whnf
       refine LoadNG.at (vs := bvs W[tn]) k20 (hcc.part (by rw [k20, Int.toNat_natCast]; exact flat_get (fun a h => by rw [bvs_len, (hadr a h).1]) hnl)) ?_
       clear hcc
       conv=>whnf
       refine .take 16 ?_
       conv=>whnf
       refine ⟨rfl, ?_⟩
       conv=>whnf
       refine .take 17 ?_
       conv=>whnf
       refine ⟨rfl, ?_⟩
       conv=>whnf
       refine LoadG.at (c11.one (i := 2) rfl) ?_
       conv=>whnf
       refine .take 18 ?_
       conv=>whnf
       refine ⟨rfl, ?_⟩
       conv=>whnf
       refine .take 19 ?_
       conv=>whnf
       refine ⟨rfl, ?_⟩
       conv=>whnf
       refine IdxG.rd r3 (by omega) fun cb o hcc => ?_
       conv=>whnf
       refine .take 20 ?_
       conv=>whnf
       refine ⟨rfl, ?_⟩
       conv=>whnf
       refine LoadNG.at (vs := uvs (w4 p)) rfl (hcc.part (by rw [Int.toNat_natCast]; exact flat_some (k4 V) hA1)) ?_
       clear hcc
       conv=>whnf
       refine .take 21 ?_
       conv=>whnf
       refine ⟨rfl, ?_⟩
       conv=>whnf
       refine .take 22 ?_
       conv=>whnf
       refine ⟨rfl, ?_⟩
       conv=>whnf
       refine LoadG.at (c13.one (i := 2) rfl) ?_
       conv=>whnf
       refine .take 23 ?_
       conv=>whnf
       refine ⟨rfl, ?_⟩
       conv=>whnf
       refine .take 24 ?_
       conv=>whnf
       refine ⟨rfl, ?_⟩
       conv=>whnf
       refine IdxG.rd q3 (by omega) fun cb o hcc => ?_
       conv=>whnf
       refine .take 25 ?_
       conv=>whnf
       refine ⟨rfl, ?_⟩
       conv=>whnf
       refine LoadNG.at (vs := uvs (w4 q)) rfl (hcc.part (by rw [Int.toNat_natCast]; exact flat_some (k4 L0) hA2)) ?_
       clear hcc
       conv=>whnf
       refine .all ?_
       conv=>whnf
       refine ⟨by decide, ?_⟩
       conv=>whnf
       refine CallG.pure (allowance_spec _ x hxw tk W[tj] W[tn] haj han p q hpl hql hmayA) ?_
       rintro _ _ ⟨rfl, rfl⟩
       conv=>whnf
       refine .all ?_
       conv=>whnf
       refine ⟨by decide, ?_⟩
       conv=>whnf
       refine ⟨rfl, ?_⟩
       (conv=>whnf);refine .nff ?_;(conv=>whnf)
       refine ArithG.i64' ((tn + 1 : Nat) : Int) (by omega) (by omega) ?_
       conv=>whnf
       exact ⟨W.length - (tn + 1), [(1, lv'), (4, .bool false), (6, .pointer (some ⟨s, 0, none⟩)), (7, wv), (8, tv), (9, .int .i64 i), (11, .pointer (some ⟨b11, 0, none⟩)), (13, .pointer (some ⟨b13, 0, none⟩)), (14, .int .i64 ti), (15, .int .i64 tj), (18, .int .i64 ((tn + 1 : Nat) : Int))], _, by omega, ⟨rfl, rfl, rfl, rfl, rfl, rfl, rfl, rfl, rfl, rfl, rfl, trivial⟩, Ent.refl _, tn + 1, by omega, rfl, rfl, rfl⟩
      ·conv=>whnf
       refine ArithG.i64' ((tj + 1 : Nat) : Int) (by omega) (by omega) ?_
       conv=>whnf
       exact ⟨W.length - (tj + 1), [(1, lv'), (4, .bool false), (6, .pointer (some ⟨s, 0, none⟩)), (7, wv), (8, tv), (9, .int .i64 i), (11, .pointer (some ⟨b11, 0, none⟩)), (13, .pointer (some ⟨b13, 0, none⟩)), (14, .int .i64 ti), (15, .int .i64 ((tj + 1 : Nat) : Int))], _, by omega, ⟨rfl, rfl, rfl, rfl, rfl, rfl, rfl, rfl, rfl, rfl, trivial⟩, Ent.refl _, tj + 1, by omega, rfl, rfl, rfl⟩
    ·conv=>whnf
     refine ArithG.i64' ((ti + 1 : Nat) : Int) (by omega) (by omega) ?_
     conv=>whnf
     exact ⟨T.length - (ti + 1), [(1, lv'), (4, .bool false), (6, .pointer (some ⟨s, 0, none⟩)), (7, wv), (8, tv), (9, .int .i64 i), (11, .pointer (some ⟨b11, 0, none⟩)), (13, .pointer (some ⟨b13, 0, none⟩)), (14, .int .i64 ((ti + 1 : Nat) : Int))], _, by omega, ⟨rfl, rfl, rfl, rfl, rfl, rfl, rfl, rfl, rfl, trivial⟩, Ent.refl _, ti + 1, by omega, rfl, rfl, rfl⟩
   ·conv=>whnf
    refine ArithG.i64' ((i + 1 : Nat) : Int) (by omega) (by omega) ?_
    conv=>whnf
    exact ⟨xs.length - (i + 1), [(1, lv'), (4, .bool false), (6, .pointer (some ⟨s, 0, none⟩)), (7, wv), (8, tv), (9, .int .i64 ((i + 1 : Nat) : Int))], _, by omega, ⟨rfl, rfl, rfl, rfl, rfl, rfl, trivial⟩, hE, i + 1, _, n + 3, by omega, rfl, hV2, by omega, by omega, rfl, rfl⟩
  ·(conv=>whnf);refine .ff ?_;(conv=>whnf);refine .ff ?_;(conv=>whnf);refine .ff ?_;(conv=>whnf);refine .ff ?_;(conv=>whnf);refine .ff ?_;(conv=>whnf);refine .ff ?_;(conv=>whnf);refine .ff ?_;(conv=>whnf)
   refine LoopG.mk (fun mm e L => ∃ ti : Nat, ti ≤ T.length ∧ mm = T.length - ti ∧ e = [(1, lv'), (4, .bool false), (6, .pointer (some ⟨s, 0, none⟩)), (7, wv), (8, tv), (9, .int .i64 i), (11, .pointer (some ⟨b11, 0, none⟩)), (13, .pointer (some ⟨b13, 0, none⟩)), (14, .int .i64 ti)] ∧ M = L) T.length
    [(1, lv'), (4, .bool false), (6, .pointer (some ⟨s, 0, none⟩)), (7, wv), (8, tv), (9, .int .i64 i), (11, .pointer (some ⟨b11, 0, none⟩)), (13, .pointer (some ⟨b13, 0, none⟩)), (14, .int .i64 0)] M ⟨rfl, rfl, rfl, rfl, rfl, rfl, rfl, rfl, rfl, trivial⟩ hLM ⟨0, by omega, rfl, rfl, rfl⟩ ?_
   rintro mm e L ⟨ti, hti, rfl, rfl, hLe⟩
   subst hLe
   conv=>whnf
   refine LenG.rd hrtM ?_
   conv=>whnf
   refine CondG.dec (fun h2 => ?_) (fun h2 => ?_)
   ·have htl : ti < T.length := by omega
    obtain ⟨tk, htk⟩ : ∃ tk, tk = T[ti] := ⟨_, rfl⟩
    have ht64 : tk < 64 := by rw [htk]; exact ht _ (List.getElem_mem htl)
    have hbeg : begE (tk : Int) = 0 := by unfold begE; rw [if_neg (by omega)]
    obtain ⟨kk, hkk⟩ : ∃ kk, kk = ti * W.length := ⟨_, rfl⟩
    have hk1 : kk ≤ 432 := by rw [hkk]; exact Nat.mul_le_mul (show ti ≤ 12 by omega) (show W.length ≤ 36 by omega)
    have hk2 : kk + W.length ≤ (bookB V T W).length := by
     have : (ti + 1) * W.length ≤ T.length * W.length := Nat.mul_le_mul_right _ (by omega)
     rw [bookB_count, hkk]
     rw [Nat.succ_mul] at this
     omega
    have hk3 : (bookB L0 T W).length = (bookB V T W).length := by rw [bookB_count, bookB_count]
    conv=>whnf
    refine LoopG.mk (fun mm e L => ∃ tj : Nat, tj ≤ W.length ∧ mm = W.length - tj ∧ e = [(1, lv'), (4, .bool false), (6, .pointer (some ⟨s, 0, none⟩)), (7, wv), (8, tv), (9, .int .i64 i), (11, .pointer (some ⟨b11, 0, none⟩)), (13, .pointer (some ⟨b13, 0, none⟩)), (14, .int .i64 ti), (15, .int .i64 tj)] ∧ M = L) W.length
     [(1, lv'), (4, .bool false), (6, .pointer (some ⟨s, 0, none⟩)), (7, wv), (8, tv), (9, .int .i64 i), (11, .pointer (some ⟨b11, 0, none⟩)), (13, .pointer (some ⟨b13, 0, none⟩)), (14, .int .i64 ti), (15, .int .i64 0)] M ⟨rfl, rfl, rfl, rfl, rfl, rfl, rfl, rfl, rfl, rfl, trivial⟩ (Ent.refl _) ⟨0, by omega, rfl, rfl, rfl⟩ ?_
    rintro mm e L ⟨tj, htj, rfl, rfl, hLe⟩
    subst hLe
    conv=>whnf
    refine LenG.rd hrwM ?_
    conv=>whnf
    refine CondG.dec (fun h3 => ?_) (fun h3 => ?_)
    ·have hjl : tj < W.length := by omega
     have haj : adr W[tj] := hadr _ (List.getElem_mem hjl)
     have h20 : (bvs W[tj]).length = 20 := by rw [bvs_len, haj.1]
     obtain ⟨p, hp⟩ : ∃ p, p = m.B tk W[tj] := ⟨_, rfl⟩
     obtain ⟨q, hq⟩ : ∃ q, q = m2.B tk W[tj] := ⟨_, rfl⟩
     have hpl : p < m256 := by rw [hp]; exact hm.balLt tk _ ht64 haj
     have hql : q < m256 := by rw [hq]; exact hm2.balLt tk _ ht64 haj
     have hB : (bookB V T W)[kk + tj]? = some (w4 p) := by
      rw [hkk, bookB_at V htl hjl, ← htk, hm.balM _ haj, Sl.balM, if_neg (by rw [hbeg]; decide), Int.toNat_natCast, hp]
     have hB2 : (bookB L0 T W)[kk + tj]? = some (w4 q) := by
      rw [hkk, bookB_at L0 htl hjl, ← htk, hm2.balM _ haj, Sl.balM, if_neg (by rw [hbeg]; decide), Int.toNat_natCast, hq]
     obtain ⟨hmay, hlive⟩ := hrel.bal tk W[tj] ht64
     rw [← hp, ← hq] at hmay hlive
     conv=>whnf
     refine LoadG.at (c11.one (i := 1) rfl) ?_
     conv=>whnf
     refine LenG.rd hrwM ?_
     conv=>whnf
     refine ArithG.i64' ((kk : Nat) : Int) (by rw [hkk, Int.natCast_mul]) (by omega) ?_
     conv=>whnf
     refine ArithG.i64' ((kk + tj : Nat) : Int) (by omega) (by omega) ?_
     conv=>whnf
     refine IdxG.rd r2 (by omega) fun cb o hcc => ?_
     conv=>whnf
     refine LoadNG.at (vs := uvs (w4 p)) rfl (hcc.part (by rw [Int.toNat_natCast]; exact flat_some (l4 V) hB)) ?_
     clear hcc
     conv=>whnf
     intro b16
     conv=>whnf
     refine StoreG.at rfl (Upd.whole rfl (uvs_one _)) ?_
     conv=>whnf
     refine LoadG.at (.tl (c13.one (i := 1) rfl)) ?_
     conv=>whnf
     refine LenG.rd hrwM ?_
     conv=>whnf
     refine ArithG.i64' ((kk : Nat) : Int) (by rw [hkk, Int.natCast_mul]) (by omega) ?_
     conv=>whnf
     refine ArithG.i64' ((kk + tj : Nat) : Int) (by omega) (by omega) ?_
     conv=>whnf
     refine IdxG.rd q2 (by omega) fun cb o hcc => ?_
     conv=>whnf
     refine LoadNG.at (vs := uvs (w4 q)) rfl (.tl (hcc.part (by rw [Int.toNat_natCast]; exact flat_some (l4 L0) hB2))) ?_
     clear hcc
     conv=>whnf
     intro b17
     conv=>whnf
     refine StoreG.at rfl (Upd.whole rfl (uvs_one _)) ?_
     conv=>whnf
     refine DrawG.mk 38 (cel b17 38 (uvs (w4 q)) :: cel b16 38 (uvs (w4 p)) :: M) [] (Ent.refl _) ?_
     conv=>whnf
     refine .take 0 ?_
     conv=>whnf
     refine ⟨rfl, ?_⟩
     conv=>whnf
     refine .take 1 ?_
     conv=>whnf
     refine ⟨rfl, ?_⟩
     conv=>whnf
     refine .take 2 ?_
     conv=>whnf
     refine ⟨rfl, ?_⟩
     conv=>whnf
     refine IdxG.rd hxr' (by omega) fun cb o hcc => ?_
     have hxc := hpart cb o hcc
     clear hcc
     conv=>whnf
     refine .take 3 ?_
     conv=>whnf
     refine ⟨rfl, ?_⟩
     conv=>whnf
     refine LoadNG.atF (vs := x.cells) h66 hxc ?_
     clear hxc
     conv=>whnf
     refine .take 4 ?_
     conv=>whnf
     refine ⟨rfl, ?_⟩
     conv=>whnf
     refine .take 5 ?_
     conv=>whnf
     refine ⟨rfl, ?_⟩
     conv=>whnf
     refine .take 6 ?_
     conv=>whnf
     refine ⟨rfl, ?_⟩
     conv=>whnf
     refine IdxG.rd hrtM (by omega) fun cb o hcc => ?_
     conv=>whnf
     refine .take 7 ?_
     conv=>whnf
     refine ⟨rfl, ?_⟩
     conv=>whnf
     refine LoadG.at (v := .int .i64 tk) (.tl (.tl (hcc.one (i := ((ti : Nat) : Int).toNat * 1) (by rw [Int.toNat_natCast, Nat.mul_one, htk]; exact nvs_get htl)))) ?_
     clear hcc
     conv=>whnf
     refine .take 8 ?_
     conv=>whnf
     refine ⟨rfl, ?_⟩
     conv=>whnf
     refine .take 9 ?_
     conv=>whnf
     refine ⟨rfl, ?_⟩
     conv=>whnf
     refine .take 10 ?_
     conv=>whnf
     refine ⟨rfl, ?_⟩
     conv=>whnf
     refine IdxG.rd hrwM (by omega) fun cb o hcc => ?_
     conv=>whnf
     refine .take 11 ?_
     conv=>whnf
     refine ⟨rfl, ?_⟩
     conv=>whnf
     refine LoadNG.at (vs := bvs W[tj]) h20 (.tl (.tl (hcc.part (by rw [h20, Int.toNat_natCast]; exact flat_get (fun a h => by rw [bvs_len, (hadr a h).1]) hjl)))) ?_
     clear hcc
     conv=>whnf
     refine .take 12 ?_
     conv=>whnf
     refine ⟨rfl, ?_⟩
     conv=>whnf
     refine LoadNG.at (vs := uvs (w4 p)) rfl (.tl .all) ?_
     conv=>whnf
     refine .take 13 ?_
     conv=>whnf
     refine ⟨rfl, ?_⟩
     conv=>whnf
     refine LoadNG.at (vs := uvs (w4 q)) rfl .all ?_
     conv=>whnf
     refine .all ?_
     conv=>whnf
     refine ⟨by decide, ?_⟩
     conv=>whnf
     refine CallG.pure (balance_spec _ x hxw tk W[tj] haj p q hpl hql hmay) ?_
     rintro _ _ ⟨rfl, rfl⟩
     conv=>whnf
     refine .take 15 ?_
     conv=>whnf
     refine ⟨rfl, ?_⟩
     conv=>whnf
     refine .take 16 ?_
     conv=>whnf
     refine ⟨rfl, ?_⟩
     conv=>whnf
     refine .take 17 ?_
     conv=>whnf
     refine ⟨rfl, ?_⟩
     (conv=>whnf);refine .nff ?_;(conv=>whnf)
     refine LoadNG.at (vs := uvs (w4 p)) rfl (.tl .all) ?_
     conv=>whnf
     refine .take 18 ?_
     conv=>whnf
     refine ⟨rfl, ?_⟩
     (conv=>whnf);refine .ff ?_;(conv=>whnf)
     refine LoadNG.at (vs := uvs (w4 q)) rfl .all ?_
     conv=>whnf
     refine .all ?_
     conv=>whnf
     refine ⟨by decide, ?_⟩
     (conv=>whnf);refine .ff ?_;(conv=>whnf)
     refine DoesG.eqv 8 (List.replicate 4 (.int .u64)) (by kernel_rfl) (by decide) (by kernel_rfl) (by kernel_rfl) (wt_uvs rfl) (wt_uvs rfl) ?_
     conv=>whnf
     refine .take 20 ?_
     conv=>whnf
     refine ⟨rfl, ?_⟩
     (conv=>whnf);refine .ff ?_;(conv=>whnf)
     by_cases hpq : q = p
     ·have e1 : uvs (w4 p) = uvs (w4 q) := by rw [hpq]
      refine .take 21 ?_
      conv=>whnf
      refine ⟨rfl, ?_⟩
      conv=>whnf
      refine CondG.split (fun h => absurd h (by simp [e1])) (fun _ => ?_)
      conv=>whnf
      refine .take 22 ?_
      conv=>whnf
      refine ⟨rfl, ?_⟩
      (conv=>whnf);refine .ff ?_;(conv=>whnf)
      refine .take 23 ?_
      conv=>whnf
      refine ⟨rfl, ?_⟩
      (conv=>whnf);refine .ff ?_;(conv=>whnf)
      refine .take 24 ?_
      conv=>whnf
      refine ⟨rfl, ?_⟩
      (conv=>whnf);refine .ff ?_;(conv=>whnf)
      refine .take 25 ?_
      conv=>whnf
      refine ⟨rfl, ?_⟩
      (conv=>whnf);refine .ff ?_;(conv=>whnf)
      refine .take 26 ?_
      conv=>whnf
      refine ⟨rfl, ?_⟩
      (conv=>whnf);refine .ff ?_;(conv=>whnf)
      refine .take 27 ?_
      conv=>whnf
      refine ⟨rfl, ?_⟩
      (conv=>whnf);refine .ff ?_;(conv=>whnf)
      refine .take 28 ?_
      conv=>whnf
      refine ⟨rfl, ?_⟩
      (conv=>whnf);refine .ff ?_;(conv=>whnf)
      refine .take 29 ?_
      conv=>whnf
      refine ⟨rfl, ?_⟩
      conv=>whnf
      refine .take 30 ?_
      conv=>whnf
      refine ⟨rfl, ?_⟩
      conv=>whnf
      refine .take 31 ?_
      conv=>whnf
      refine ⟨rfl, ?_⟩
      conv=>whnf
      refine .take 32 ?_
      conv=>whnf
      refine ⟨rfl, ?_⟩
      conv=>whnf
      refine .take 33 ?_
      conv=>whnf
      refine ⟨rfl, ?_⟩
      conv=>whnf
      refine .take 34 ?_
      conv=>whnf
      refine ⟨rfl, ?_⟩
      conv=>whnf
      refine .take 35 ?_
      conv=>whnf
      refine ⟨rfl, ?_⟩
      (conv=>whnf);refine .ff ?_;(conv=>whnf)
      refine .take 36 ?_
      conv=>whnf
      refine ⟨rfl, ?_⟩
      (conv=>whnf);refine .ff ?_;(conv=>whnf);refine .ff ?_;(conv=>whnf)
      refine .all ?_
      conv=>whnf
      refine ⟨by decide, ?_⟩
      (conv=>whnf);refine .ff ?_;(conv=>whnf)
      refine ⟨rfl, ?_⟩
      (conv=>whnf);refine .ff ?_;(conv=>whnf)
      refine LoopG.mk (fun mm e L => ∃ tn : Nat, tn ≤ W.length ∧ mm = W.length - tn ∧ e = [(1, lv'), (4, .bool false), (6, .pointer (some ⟨s, 0, none⟩)), (7, wv), (8, tv), (9, .int .i64 i), (11, .pointer (some ⟨b11, 0, none⟩)), (13, .pointer (some ⟨b13, 0, none⟩)), (14, .int .i64 ti), (15, .int .i64 tj), (18, .int .i64 tn)] ∧ M = L) W.length
       [(1, lv'), (4, .bool false), (6, .pointer (some ⟨s, 0, none⟩)), (7, wv), (8, tv), (9, .int .i64 i), (11, .pointer (some ⟨b11, 0, none⟩)), (13, .pointer (some ⟨b13, 0, none⟩)), (14, .int .i64 ti), (15, .int .i64 tj), (18, .int .i64 0)] M ⟨rfl, rfl, rfl, rfl, rfl, rfl, rfl, rfl, rfl, rfl, rfl, trivial⟩ ((Ent.drop _).trans (Ent.drop _)) ⟨0, by omega, rfl, rfl, rfl⟩ ?_
      rintro mm e L ⟨tn, htn, rfl, rfl, hLe⟩
      subst hLe
      conv=>whnf
      refine LenG.rd hrwM ?_
      conv=>whnf
      refine CondG.dec (fun h4 => ?_) (fun h4 => ?_)
      ·have hnl : tn < W.length := by omega
       have han : adr W[tn] := hadr _ (List.getElem_mem hnl)
       have k20 : (bvs W[tn]).length = 20 := by rw [bvs_len, han.1]
       obtain ⟨kj, hkj⟩ : ∃ kj, kj = (kk + tj) * W.length := ⟨_, rfl⟩
       have hj1 : kj ≤ 468 * 36 := by rw [hkj]; exact Nat.mul_le_mul (by omega) (by omega)
       have hj2 : kj + W.length ≤ (bookA V T W).length := by
        have h5 : (kk + tj + 1) * W.length ≤ (T.length * W.length) * W.length := Nat.mul_le_mul_right _ (by rw [← bookB_count V]; omega)
        rw [bookA_count, ← Nat.mul_assoc, hkj]
        rw [Nat.succ_mul] at h5
        exact h5
       have hj3 : (bookA L0 T W).length = (bookA V T W).length := by rw [bookA_count, bookA_count]
       obtain ⟨p, hp⟩ : ∃ p, p = m.A tk W[tj] W[tn] := ⟨_, rfl⟩
       obtain ⟨q, hq⟩ : ∃ q, q = m2.A tk W[tj] W[tn] := ⟨_, rfl⟩
       have hpl : p < m256 := by rw [hp]; exact hm.allLt tk _ _ ht64 haj han
       have hql : q < m256 := by rw [hq]; exact hm2.allLt tk _ _ ht64 haj han
       have hA1 : (bookA V T W)[kj + tn]? = some (w4 p) := by
        rw [hkj, hkk, bookA_at V htl hjl hnl, ← htk, hm.allowedM _ haj han, Sl.allowedM, if_neg (by rw [hbeg]; decide), Int.toNat_natCast, hp]
       have hA2 : (bookA L0 T W)[kj + tn]? = some (w4 q) := by
        rw [hkj, hkk, bookA_at L0 htl hjl hnl, ← htk, hm2.allowedM _ haj han, Sl.allowedM, if_neg (by rw [hbeg]; decide), Int.toNat_natCast, hq]
       have hmayA := hrel.all tk W[tj] W[tn]
       rw [← hp, ← hq] at hmayA
       conv=>whnf
       refine LenG.rd hrwM ?_
       conv=>whnf
       refine ArithG.i64' ((kk : Nat) : Int) (by rw [hkk, Int.natCast_mul]) (by omega) ?_
       conv=>whnf
       refine ArithG.i64' ((kk + tj : Nat) : Int) (by omega) (by omega) ?_
       conv=>whnf
       refine LenG.rd hrwM ?_
       conv=>whnf
       refine ArithG.i64' ((kj : Nat) : Int) (by rw [hkj, Int.natCast_mul]) (by omega) ?_
       conv=>whnf
       refine ArithG.i64' ((kj + tn : Nat) : Int) (by omega) (by omega) ?_
       conv=>whnf
       refine DrawG.mk 28 M [] (Ent.refl _) ?_
       conv=>whnf
       refine .take 0 ?_
       conv=>whnf
       refine ⟨rfl, ?_⟩
       conv=>whnf
       refine .take 1 ?_
       conv=>whnf
       refine ⟨rfl, ?_⟩
       conv=>whnf
       refine .take 2 ?_
       conv=>whnf
       refine ⟨rfl, ?_⟩
       conv=>whnf
       refine IdxG.rd hxr' (by omega) fun cb o hcc => ?_
       have hxc := hpart cb o hcc
       clear hcc
       conv=>whnf
       refine .take 3 ?_
       conv=>whnf
       refine ⟨rfl, ?_⟩
       conv=>whnf
       refine LoadNG.atF (vs := x.cells) h66 hxc ?_
       clear hxc
       conv=>whnf
       refine .take 4 ?_
       conv=>whnf
       refine ⟨rfl, ?_⟩
       conv=>whnf
       refine .take 5 ?_
       conv=>whnf
       refine ⟨rfl, ?_⟩
       conv=>whnf
       refine .take 6 ?_
       conv=>whnf
       refine ⟨rfl, ?_⟩
       conv=>whnf
       refine IdxG.rd hrtM (by omega) fun cb o hcc => ?_
       conv=>whnf
       refine .take 7 ?_
       conv=>whnf
       refine ⟨rfl, ?_⟩
       conv=>whnf
       refine LoadG.at (v := .int .i64 tk) (hcc.one (i := ((ti : Nat) : Int).toNat * 1) (by rw [Int.toNat_natCast, Nat.mul_one, htk]; exact nvs_get htl)) ?_
       clear hcc
       conv=>whnf
       refine .take 8 ?_
       conv=>whnf
       refine ⟨rfl, ?_⟩
       conv=>whnf
       refine .take 9 ?_
       conv=>whnf
       refine ⟨rfl, ?_⟩
       conv=>whnf
       refine .take 10 ?_
       conv=>whnf
       refine ⟨rfl, ?_⟩
       conv=>whnf
       refine IdxG.rd hrwM (by omega) fun cb o hcc => ?_
       conv=>whnf
       refine .take 11 ?_
       conv=>whnf
       refine ⟨rfl, ?_⟩
       conv=>whnf
       refine LoadNG.at (vs := bvs W[tj]) h20 (hcc.part (by rw [h20, Int.toNat_natCast]; exact flat_get (fun a h => by rw [bvs_len, (hadr a h).1]) hjl)) ?_
       clear hcc
       conv=>whnf
       refine .take 12 ?_
       conv=>whnf
       refine ⟨rfl, ?_⟩
       conv=>whnf
       refine .take 13 ?_
       conv=>whnf
       refine ⟨rfl, ?_⟩
       conv=>whnf
       refine .take 14 ?_
       conv=>whnf
       refine ⟨rfl, ?_⟩
       conv=>whnf
       refine IdxG.rd hrwM (by omega) fun cb o hcc => ?_
       conv=>whnf
       refine .take 15 ?_
       conv=>whnf
       refine ⟨rfl, ?_⟩
       conv=>whnf
       refine LoadNG.at (vs := bvs W[tn]) k20 (hcc.part (by rw [k20, Int.toNat_natCast]; exact flat_get (fun a h => by rw [bvs_len, (hadr a h).1]) hnl)) ?_
       clear hcc
       conv=>whnf
       refine .take 16 ?_
       conv=>whnf
       refine ⟨rfl, ?_⟩
       conv=>whnf
       refine .take 17 ?_
       conv=>whnf
       refine ⟨rfl, ?_⟩
       conv=>whnf
       refine LoadG.at (c11.one (i := 2) rfl) ?_
       conv=>whnf
       refine .take 18 ?_
       conv=>whnf
       refine ⟨rfl, ?_⟩
       conv=>whnf
       refine .take 19 ?_
       conv=>whnf
       refine ⟨rfl, ?_⟩
       conv=>whnf
       refine IdxG.rd r3 (by omega) fun cb o hcc => ?_
       conv=>whnf
       refine .take 20 ?_
       conv=>whnf
       refine ⟨rfl, ?_⟩
       conv=>whnf
       refine LoadNG.at (vs := uvs (w4 p)) rfl (hcc.part (by rw [Int.toNat_natCast]; exact flat_some (k4 V) hA1)) ?_
       clear hcc
       conv=>whnf
       refine .take 21 ?_
       conv=>whnf
       refine ⟨rfl, ?_⟩
       conv=>whnf
       refine .take 22 ?_
       conv=>whnf
       refine ⟨rfl, ?_⟩
       conv=>whnf
       refine LoadG.at (c13.one (i := 2) rfl) ?_
       conv=>whnf
       refine .take 23 ?_
       conv=>whnf
       refine ⟨rfl, ?_⟩
       conv=>whnf
       refine .take 24 ?_
       conv=>whnf
       refine ⟨rfl, ?_⟩
       conv=>whnf
       refine IdxG.rd q3 (by omega) fun cb o hcc => ?_
       conv=>whnf
       refine .take 25 ?_
       conv=>whnf
       refine ⟨rfl, ?_⟩
       conv=>whnf
       refine LoadNG.at (vs := uvs (w4 q)) rfl (hcc.part (by rw [Int.toNat_natCast]; exact flat_some (k4 L0) hA2)) ?_
       clear hcc
       conv=>whnf
       refine .all ?_
       conv=>whnf
       refine ⟨by decide, ?_⟩
       conv=>whnf
       refine CallG.pure (allowance_spec _ x hxw tk W[tj] W[tn] haj han p q hpl hql hmayA) ?_
       rintro _ _ ⟨rfl, rfl⟩
       conv=>whnf
       refine .all ?_
       conv=>whnf
       refine ⟨by decide, ?_⟩
       conv=>whnf
       refine ⟨rfl, ?_⟩
       (conv=>whnf);refine .nff ?_;(conv=>whnf)
       refine ArithG.i64' ((tn + 1 : Nat) : Int) (by omega) (by omega) ?_
       conv=>whnf
       exact ⟨W.length - (tn + 1), [(1, lv'), (4, .bool false), (6, .pointer (some ⟨s, 0, none⟩)), (7, wv), (8, tv), (9, .int .i64 i), (11, .pointer (some ⟨b11, 0, none⟩)), (13, .pointer (some ⟨b13, 0, none⟩)), (14, .int .i64 ti), (15, .int .i64 tj), (18, .int .i64 ((tn + 1 : Nat) : Int))], _, by omega, ⟨rfl, rfl, rfl, rfl, rfl, rfl, rfl, rfl, rfl, rfl, rfl, trivial⟩, Ent.refl _, tn + 1, by omega, rfl, rfl, rfl⟩
      ·conv=>whnf
       refine ArithG.i64' ((tj + 1 : Nat) : Int) (by omega) (by omega) ?_
       conv=>whnf
       exact ⟨W.length - (tj + 1), [(1, lv'), (4, .bool false), (6, .pointer (some ⟨s, 0, none⟩)), (7, wv), (8, tv), (9, .int .i64 i), (11, .pointer (some ⟨b11, 0, none⟩)), (13, .pointer (some ⟨b13, 0, none⟩)), (14, .int .i64 ti), (15, .int .i64 ((tj + 1 : Nat) : Int))], _, by omega, ⟨rfl, rfl, rfl, rfl, rfl, rfl, rfl, rfl, rfl, rfl, trivial⟩, Ent.refl _, tj + 1, by omega, rfl, rfl, rfl⟩
     ·have e1 : uvs (w4 p) ≠ uvs (w4 q) := fun h => hpq ((w4_eq hpl hql).1 h).symm
      obtain ⟨hth, hpa⟩ := hlive hpq
      have hD : (bookT V T)[ti]? = some (m.T tk).d := by
       rw [bookT, List.getElem?_map, List.getElem?_eq_getElem htl]
       show some (tokenL V (T[ti] : Nat)).1 = _
       rw [← htk, hm.tokenM, tokenM, if_neg (by rw [hbeg]; decide), Int.toNat_natCast]
      have hdl : (bookT V T).length = T.length := bookT_len V T
      refine .take 21 ?_
      conv=>whnf
      refine ⟨rfl, ?_⟩
      conv=>whnf
      refine CondG.split (fun _ => ?_) (fun h => absurd h (by simp [e1]))
      conv=>whnf
      refine .take 22 ?_
      conv=>whnf
      refine ⟨rfl, ?_⟩
      (conv=>whnf);refine .tt ?_;(conv=>whnf)
      refine LoadG.at (.tl (.tl (c11.one (i := 0) rfl))) ?_
      conv=>whnf
      refine .take 23 ?_
      conv=>whnf
      refine ⟨rfl, ?_⟩
      (conv=>whnf);refine .tt ?_;(conv=>whnf)
      refine .take 24 ?_
      conv=>whnf
      refine ⟨rfl, ?_⟩
      (conv=>whnf);refine .tt ?_;(conv=>whnf)
      refine IdxG.rd r1 (by omega) fun cb o hcc => ?_
      have hcd : CelN M cb (o + ((ti : Nat) : Int).toNat * 6) (m.T tk).d.cells := hcc.part (by rw [Int.toNat_natCast]; exact flat_some (l6 V) hD)
      clear hcc
      conv=>whnf
      refine .take 25 ?_
      conv=>whnf
      refine ⟨rfl, ?_⟩
      (conv=>whnf);refine .tt ?_;(conv=>whnf)
      refine .take 26 ?_
      conv=>whnf
      refine ⟨rfl, ?_⟩
      (conv=>whnf);refine .tt ?_;(conv=>whnf)
      refine LoadG.at (v := .bool true) (.tl (.tl (hcd.one (i := 0) (by show some (Value.bool (m.T tk).there) = _; rw [hth])))) ?_
      clear hcd
      conv=>whnf
      refine .take 27 ?_
      conv=>whnf
      refine ⟨rfl, ?_⟩
      (conv=>whnf);refine .tt ?_;(conv=>whnf)
      refine .take 28 ?_
      conv=>whnf
      refine ⟨rfl, ?_⟩
      (conv=>whnf);refine .tt ?_;(conv=>whnf)
      refine .take 29 ?_
      conv=>whnf
      refine ⟨rfl, ?_⟩
      (conv=>whnf);refine .nff ?_;(conv=>whnf)
      refine .take 30 ?_
      conv=>whnf
      refine ⟨rfl, ?_⟩
      (conv=>whnf);refine .ff ?_;(conv=>whnf)
      refine LoadG.at (.tl (.tl (c11.one (i := 0) rfl))) ?_
      conv=>whnf
      refine .take 31 ?_
      conv=>whnf
      refine ⟨rfl, ?_⟩
      (conv=>whnf);refine .ff ?_;(conv=>whnf)
      refine .take 32 ?_
      conv=>whnf
      refine ⟨rfl, ?_⟩
      (conv=>whnf);refine .ff ?_;(conv=>whnf)
      refine IdxG.rd r1 (by omega) fun cb o hcc => ?_
      have hcd : CelN M cb (o + ((ti : Nat) : Int).toNat * 6) (m.T tk).d.cells := hcc.part (by rw [Int.toNat_natCast]; exact flat_some (l6 V) hD)
      clear hcc
      conv=>whnf
      refine .take 33 ?_
      conv=>whnf
      refine ⟨rfl, ?_⟩
      (conv=>whnf);refine .ff ?_;(conv=>whnf)
      refine .take 34 ?_
      conv=>whnf
      refine ⟨rfl, ?_⟩
      (conv=>whnf);refine .ff ?_;(conv=>whnf)
      refine LoadG.at (v := .bool false) (.tl (.tl (hcd.one (i := 1) (by show some (Value.bool (m.T tk).paused) = _; rw [hpa])))) ?_
      clear hcd
      conv=>whnf
      refine .take 35 ?_
      conv=>whnf
      refine ⟨rfl, ?_⟩
      (conv=>whnf);repeat((with_reducible first|refine .tt ?_|refine .ff ?_);conv=>whnf)
      refine .take 36 ?_
      conv=>whnf
      refine ⟨rfl, ?_⟩
      (conv=>whnf);repeat((with_reducible first|refine .tt ?_|refine .ff ?_);conv=>whnf)
      refine .all ?_
      conv=>whnf
      refine ⟨by decide, ?_⟩
      (conv=>whnf);refine .ff ?_;(conv=>whnf)
      refine ⟨rfl, ?_⟩
      (conv=>whnf);refine .ff ?_;(conv=>whnf)
      refine LoopG.mk (fun mm e L => ∃ tn : Nat, tn ≤ W.length ∧ mm = W.length - tn ∧ e = [(1, lv'), (4, .bool false), (6, .pointer (some ⟨s, 0, none⟩)), (7, wv), (8, tv), (9, .int .i64 i), (11, .pointer (some ⟨b11, 0, none⟩)), (13, .pointer (some ⟨b13, 0, none⟩)), (14, .int .i64 ti), (15, .int .i64 tj), (18, .int .i64 tn)] ∧ M = L) W.length
       [(1, lv'), (4, .bool false), (6, .pointer (some ⟨s, 0, none⟩)), (7, wv), (8, tv), (9, .int .i64 i), (11, .pointer (some ⟨b11, 0, none⟩)), (13, .pointer (some ⟨b13, 0, none⟩)), (14, .int .i64 ti), (15, .int .i64 tj), (18, .int .i64 0)] M ⟨rfl, rfl, rfl, rfl, rfl, rfl, rfl, rfl, rfl, rfl, rfl, trivial⟩ ((Ent.drop _).trans (Ent.drop _)) ⟨0, by omega, rfl, rfl, rfl⟩ ?_
      rintro mm e L ⟨tn, htn, rfl, rfl, hLe⟩
      subst hLe
      conv=>whnf
      refine LenG.rd hrwM ?_
      conv=>whnf
      refine CondG.dec (fun h4 => ?_) (fun h4 => ?_)
      ·have hnl : tn < W.length := by omega
       have han : adr W[tn] := hadr _ (List.getElem_mem hnl)
       have k20 : (bvs W[tn]).length = 20 := by rw [bvs_len, han.1]
       obtain ⟨kj, hkj⟩ : ∃ kj, kj = (kk + tj) * W.length := ⟨_, rfl⟩
       have hj1 : kj ≤ 468 * 36 := by rw [hkj]; exact Nat.mul_le_mul (by omega) (by omega)
       have hj2 : kj + W.length ≤ (bookA V T W).length := by
        have h5 : (kk + tj + 1) * W.length ≤ (T.length * W.length) * W.length := Nat.mul_le_mul_right _ (by rw [← bookB_count V]; omega)
        rw [bookA_count, ← Nat.mul_assoc, hkj]
        rw [Nat.succ_mul] at h5
        exact h5
       have hj3 : (bookA L0 T W).length = (bookA V T W).length := by rw [bookA_count, bookA_count]
       obtain ⟨p, hp⟩ : ∃ p, p = m.A tk W[tj] W[tn] := ⟨_, rfl⟩
       obtain ⟨q, hq⟩ : ∃ q, q = m2.A tk W[tj] W[tn] := ⟨_, rfl⟩
       have hpl : p < m256 := by rw [hp]; exact hm.allLt tk _ _ ht64 haj han
       have hql : q < m256 := by rw [hq]; exact hm2.allLt tk _ _ ht64 haj han
       have hA1 : (bookA V T W)[kj + tn]? = some (w4 p) := by
        rw [hkj, hkk, bookA_at V htl hjl hnl, ← htk, hm.allowedM _ haj han, Sl.allowedM, if_neg (by rw [hbeg]; decide), Int.toNat_natCast, hp]
       have hA2 : (bookA L0 T W)[kj + tn]? = some (w4 q) := by
        rw [hkj, hkk, bookA_at L0 htl hjl hnl, ← htk, hm2.allowedM _ haj han, Sl.allowedM, if_neg (by rw [hbeg]; decide), Int.toNat_natCast, hq]
       have hmayA := hrel.all tk W[tj] W[tn]
       rw [← hp, ← hq] at hmayA
       conv=>whnf
       refine LenG.rd hrwM ?_
       conv=>whnf
       refine ArithG.i64' ((kk : Nat) : Int) (by rw [hkk, Int.natCast_mul]) (by omega) ?_
       conv=>whnf
       refine ArithG.i64' ((kk + tj : Nat) : Int) (by omega) (by omega) ?_
       conv=>whnf
       refine LenG.rd hrwM ?_
       conv=>whnf
       refine ArithG.i64' ((kj : Nat) : Int) (by rw [hkj, Int.natCast_mul]) (by omega) ?_
       conv=>whnf
       refine ArithG.i64' ((kj + tn : Nat) : Int) (by omega) (by omega) ?_
       conv=>whnf
       refine DrawG.mk 28 M [] (Ent.refl _) ?_
       conv=>whnf
       refine .take 0 ?_
       conv=>whnf
       refine ⟨rfl, ?_⟩
       conv=>whnf
       refine .take 1 ?_
       conv=>whnf
       refine ⟨rfl, ?_⟩
       conv=>whnf
       refine .take 2 ?_
       conv=>whnf
       refine ⟨rfl, ?_⟩
       conv=>whnf
       refine IdxG.rd hxr' (by omega) fun cb o hcc => ?_
       have hxc := hpart cb o hcc
       clear hcc
       conv=>whnf
       refine .take 3 ?_
       conv=>whnf
       refine ⟨rfl, ?_⟩
       conv=>whnf
       refine LoadNG.atF (vs := x.cells) h66 hxc ?_
       clear hxc
       conv=>whnf
       refine .take 4 ?_
       conv=>whnf
       refine ⟨rfl, ?_⟩
       conv=>whnf
       refine .take 5 ?_
       conv=>whnf
       refine ⟨rfl, ?_⟩
       conv=>whnf
       refine .take 6 ?_
       conv=>whnf
       refine ⟨rfl, ?_⟩
       conv=>whnf
       refine IdxG.rd hrtM (by omega) fun cb o hcc => ?_
       conv=>whnf
       refine .take 7 ?_
       conv=>whnf
       refine ⟨rfl, ?_⟩
       conv=>whnf
       refine LoadG.at (v := .int .i64 tk) (hcc.one (i := ((ti : Nat) : Int).toNat * 1) (by rw [Int.toNat_natCast, Nat.mul_one, htk]; exact nvs_get htl)) ?_
       clear hcc
       conv=>whnf
       refine .take 8 ?_
       conv=>whnf
       refine ⟨rfl, ?_⟩
       conv=>whnf
       refine .take 9 ?_
       conv=>whnf
       refine ⟨rfl, ?_⟩
       conv=>whnf
       refine .take 10 ?_
       conv=>whnf
       refine ⟨rfl, ?_⟩
       conv=>whnf
       refine IdxG.rd hrwM (by omega) fun cb o hcc => ?_
       conv=>whnf
       refine .take 11 ?_
       conv=>whnf
       refine ⟨rfl, ?_⟩
       conv=>whnf
       refine LoadNG.at (vs := bvs W[tj]) h20 (hcc.part (by rw [h20, Int.toNat_natCast]; exact flat_get (fun a h => by rw [bvs_len, (hadr a h).1]) hjl)) ?_
       clear hcc
       conv=>whnf
       refine .take 12 ?_
       conv=>whnf
       refine ⟨rfl, ?_⟩
       conv=>whnf
       refine .take 13 ?_
       conv=>whnf
       refine ⟨rfl, ?_⟩
       conv=>whnf
       refine .take 14 ?_
       conv=>whnf
       refine ⟨rfl, ?_⟩
       conv=>whnf
       refine IdxG.rd hrwM (by omega) fun cb o hcc => ?_
       conv=>whnf
       refine .take 15 ?_
       conv=>whnf
       refine ⟨rfl, ?_⟩
       conv=>whnf
       refine LoadNG.at (vs := bvs W[tn]) k20 (hcc.part (by rw [k20, Int.toNat_natCast]; exact flat_get (fun a h => by rw [bvs_len, (hadr a h).1]) hnl)) ?_
       clear hcc
       conv=>whnf
       refine .take 16 ?_
       conv=>whnf
       refine ⟨rfl, ?_⟩
       conv=>whnf
       refine .take 17 ?_
       conv=>whnf
       refine ⟨rfl, ?_⟩
       conv=>whnf
       refine LoadG.at (c11.one (i := 2) rfl) ?_
       conv=>whnf
       refine .take 18 ?_
       conv=>whnf
       refine ⟨rfl, ?_⟩
       conv=>whnf
       refine .take 19 ?_
       conv=>whnf
       refine ⟨rfl, ?_⟩
       conv=>whnf
       refine IdxG.rd r3 (by omega) fun cb o hcc => ?_
       conv=>whnf
       refine .take 20 ?_
       conv=>whnf
       refine ⟨rfl, ?_⟩
       conv=>whnf
       refine LoadNG.at (vs := uvs (w4 p)) rfl (hcc.part (by rw [Int.toNat_natCast]; exact flat_some (k4 V) hA1)) ?_
       clear hcc
       conv=>whnf
       refine .take 21 ?_
       conv=>whnf
       refine ⟨rfl, ?_⟩
       conv=>whnf
       refine .take 22 ?_
       conv=>whnf
       refine ⟨rfl, ?_⟩
       conv=>whnf
       refine LoadG.at (c13.one (i := 2) rfl) ?_
       conv=>whnf
       refine .take 23 ?_
       conv=>whnf
       refine ⟨rfl, ?_⟩
       conv=>whnf
       refine .take 24 ?_
       conv=>whnf
       refine ⟨rfl, ?_⟩
       conv=>whnf
       refine IdxG.rd q3 (by omega) fun cb o hcc => ?_
       conv=>whnf
       refine .take 25 ?_
       conv=>whnf
       refine ⟨rfl, ?_⟩
       conv=>whnf
       refine LoadNG.at (vs := uvs (w4 q)) rfl (hcc.part (by rw [Int.toNat_natCast]; exact flat_some (k4 L0) hA2)) ?_
       clear hcc
       conv=>whnf
       refine .all ?_
       conv=>whnf
       refine ⟨by decide, ?_⟩
       conv=>whnf
       refine CallG.pure (allowance_spec _ x hxw tk W[tj] W[tn] haj han p q hpl hql hmayA) ?_
       rintro _ _ ⟨rfl, rfl⟩
       conv=>whnf
       refine .all ?_
       conv=>whnf
       refine ⟨by decide, ?_⟩
       conv=>whnf
       refine ⟨rfl, ?_⟩
       (conv=>whnf);refine .nff ?_;(conv=>whnf)
       refine ArithG.i64' ((tn + 1 : Nat) : Int) (by omega) (by omega) ?_
       conv=>whnf
       exact ⟨W.length - (tn + 1), [(1, lv'), (4, .bool false), (6, .pointer (some ⟨s, 0, none⟩)), (7, wv), (8, tv), (9, .int .i64 i), (11, .pointer (some ⟨b11, 0, none⟩)), (13, .pointer (some ⟨b13, 0, none⟩)), (14, .int .i64 ti), (15, .int .i64 tj), (18, .int .i64 ((tn + 1 : Nat) : Int))], _, by omega, ⟨rfl, rfl, rfl, rfl, rfl, rfl, rfl, rfl, rfl, rfl, rfl, trivial⟩, Ent.refl _, tn + 1, by omega, rfl, rfl, rfl⟩
      ·conv=>whnf
       refine ArithG.i64' ((tj + 1 : Nat) : Int) (by omega) (by omega) ?_
       conv=>whnf
       exact ⟨W.length - (tj + 1), [(1, lv'), (4, .bool false), (6, .pointer (some ⟨s, 0, none⟩)), (7, wv), (8, tv), (9, .int .i64 i), (11, .pointer (some ⟨b11, 0, none⟩)), (13, .pointer (some ⟨b13, 0, none⟩)), (14, .int .i64 ti), (15, .int .i64 ((tj + 1 : Nat) : Int))], _, by omega, ⟨rfl, rfl, rfl, rfl, rfl, rfl, rfl, rfl, rfl, rfl, trivial⟩, Ent.refl _, tj + 1, by omega, rfl, rfl, rfl⟩
    ·conv=>whnf
     refine ArithG.i64' ((ti + 1 : Nat) : Int) (by omega) (by omega) ?_
     conv=>whnf
     exact ⟨T.length - (ti + 1), [(1, lv'), (4, .bool false), (6, .pointer (some ⟨s, 0, none⟩)), (7, wv), (8, tv), (9, .int .i64 i), (11, .pointer (some ⟨b11, 0, none⟩)), (13, .pointer (some ⟨b13, 0, none⟩)), (14, .int .i64 ((ti + 1 : Nat) : Int))], _, by omega, ⟨rfl, rfl, rfl, rfl, rfl, rfl, rfl, rfl, rfl, trivial⟩, Ent.refl _, ti + 1, by omega, rfl, rfl, rfl⟩
   ·conv=>whnf
    refine ArithG.i64' ((i + 1 : Nat) : Int) (by omega) (by omega) ?_
    conv=>whnf
    exact ⟨xs.length - (i + 1), [(1, lv'), (4, .bool false), (6, .pointer (some ⟨s, 0, none⟩)), (7, wv), (8, tv), (9, .int .i64 ((i + 1 : Nat) : Int))], _, by omega, ⟨rfl, rfl, rfl, rfl, rfl, rfl, trivial⟩, hE, i + 1, _, n + 3, by omega, rfl, hV2, by omega, by omega, rfl, rfl⟩
 ·conv=>whnf
  exact ret_here rfl
end
end Go.Proofs.YtnbcbdlbejdkpaaGreatDoor
