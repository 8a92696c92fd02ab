import Derived.Test.YtjacolfhlfogkabGreatDoorRm
import Derived.Test.YtjacolfhlfogkabGreatDoorLz
import Derived.Test.YtjacolfhlfogkabGreatDoorZLq
namespace Go.Proofs.YtjacolfhlfogkabGreatDoor
open Go Go.Sl
section
variable {find : ByteArray → List Nat × Int}
theorem get_p (F : List HP) (s : Nat) (src : Value) (R : RSt) (key : ByteArray) (hs : SrcG Tryz.prog F src find) :
 SpecF Tryz.prog 81 [.pointer (some ⟨s, 0, none⟩), .string key] F [stR 75 s src R] (fun r L => ∃ x, SlV x (gtQ find R key).1.1.length ∧ r = .tuple #[x, .int .i64 (gtQ find R key).1.2] ∧ L = [own 1 x (gtQ find R key).1.1.length (bvs (gtQ find R key).1.1), stR 75 s src (gtQ find R key).2]) :=
 (get_h F s src key (T := []) (Φ := (· = [])) (fun _ _ => hs.h key)).turn fun v L h => by
  obtain ⟨x, T', hb, hx, hr, hL⟩ := h
  rw [behind_nil hb] at hL
  exact ⟨L, ⟨x, hx, hr, hL⟩, Ent.refl _⟩
theorem put_p (F : List HP) (s : Nat) (src : Value) (R : RSt) (key : ByteArray) (v : Value) (bs : List Nat) (hs : SrcG Tryz.prog F src find) (hr : RdS F v bs.length (bvs bs)) (hst : R.steps.length ≤ 4398046511104) :
 SpecF Tryz.prog 77 [.pointer (some ⟨s, 0, none⟩), .string key, v] F [stR 75 s src R] (fun r L => r = .int .i64 (ptQ find R key bs).1 ∧ L = [stR 75 s src (ptQ find R key bs).2]) :=
 (put_h F s src key v bs (T := []) (Φ := (· = [])) (fun _ _ => hs.h key) hr hst).turn fun w L h => by
  obtain ⟨T', hb, hr, hL⟩ := h
  have e : T' = [] := by
   split at hb
   ·exact behind_nil hb
   ·exact hb
  rw [e] at hL
  exact ⟨L, ⟨hr, hL⟩, Ent.refl _⟩
theorem amount_q (F : List HP) (s : Nat) (src : Value) (R : RSt) (key : ByteArray) (hs : SrcG Tryz.prog F src find) :
 SpecF Tryz.prog 107 [.pointer (some ⟨s, 0, none⟩), .string key] F [stR 75 s src R] (fun r L => r = .tuple #[.agg ⟨uvs (amtQ find R key).1.1⟩, .int .i64 (amtQ find R key).1.2] ∧ L = [stR 75 s src (amtQ find R key).2]) := by
 refine fun107.spec rfl ?_
 conv=>whnf
 intro b4
 conv=>whnf
 refine CallG.of (pre := [stR 75 s src R]) (rest := [cel b4 38 (uvs z4)]) (get_p _ s src R key (hs.left _)) (Ent.perm (List.Perm.swap _ _ _)) ?_
 rintro _ _ ⟨x, hx, rfl, rfl⟩
 obtain ⟨g, hg⟩ : ∃ g, g = gtQ find R key := ⟨_, rfl⟩
 have ha : amtQ find R key = amtOf g := by rw [hg]; rfl
 rw [ha]
 rw [← hg] at hx ⊢
 conv=>whnf
 refine CondG.ndec (fun he => ?_) (fun he => ?_)
 ·(conv=>whnf);refine .tt ?_;(conv=>whnf);refine .tt ?_;(conv=>whnf);refine .tt ?_;(conv=>whnf);refine .tt ?_;(conv=>whnf)
  refine BuildG.of rfl ?_
  conv=>whnf
  refine StoreG.at rfl (Upd.tl (Upd.tl (Upd.whole rfl (uvs_one z4)))) ?_
  conv=>whnf
  refine LoadNG.at (vs := uvs z4) rfl (.tl (.tl .all)) ?_
  conv=>whnf
  refine ⟨_, Ent.sel (T := []) (A := [_, _, _]) [1] rfl, ?_⟩
  unfold amtOf
  rw [if_pos he]
  exact ⟨rfl, rfl⟩
 have hao : amtOf g = (amtR g.1.1, g.2) := by unfold amtOf; rw [if_neg (fun h => h he)]
 rw [hao]
 (conv=>whnf);refine .ff ?_;(conv=>whnf)
 refine LenG.sl hx ?_
 (conv=>whnf);refine .ff ?_;(conv=>whnf);refine .ff ?_;(conv=>whnf)
 refine CondG.dec (fun h => ?_) (fun h => ?_)
 ·have e : g.1.1 = [] := List.eq_nil_of_length_eq_zero (by omega)
  conv=>whnf
  refine BuildG.of rfl ?_
  conv=>whnf
  refine StoreG.at rfl (Upd.tl (Upd.tl (Upd.whole rfl (uvs_one z4)))) ?_
  conv=>whnf
  refine LoadNG.at (vs := uvs z4) rfl (.tl (.tl .all)) ?_
  conv=>whnf
  refine ⟨_, Ent.sel (T := []) (A := [_, _, _]) [1] rfl, ?_, rfl⟩
  rw [e]
  show Value.tuple #[_, .int .i64 g.1.2] = _
  rw [he]
  rfl
 have hne : g.1.1 ≠ [] := fun e => h (by rw [e]; rfl)
 by_cases h32 : g.1.1.length = 32
 ·have hx32 : SlV x 32 := by rw [← h32]; exact hx
  conv=>whnf
  refine CallG.pure (wread_spec _ x g.1.1 h32 (.left (by rw [h32]; exact own_rd hx32 (by rw [bvs_len, h32])) F)) ?_
  rintro _ _ ⟨rfl, rfl⟩
  rw [ivs_words]
  have hwl := wordsN_len g.1.1
  conv=>whnf
  intro b8
  conv=>whnf
  refine StoreG.at (by rw [uvs_len, hwl]) (Upd.whole (by rw [uvs_len, hwl]; rfl) (uvs_one _)) ?_
  conv=>whnf
  refine CondG.ff ?_
  conv=>whnf
  refine LoadNG.at (vs := uvs (wordsN g.1.1)) (by rw [uvs_len, hwl]) .all ?_
  (conv=>whnf);refine .ff ?_;(conv=>whnf)
  refine CallG.pure (isZero_spec _ (wordsN g.1.1) hwl) ?_
  rintro _ _ ⟨rfl, rfl⟩
  (conv=>whnf);refine .ff ?_;(conv=>whnf)
  refine CondG.dec (fun hz => ?_) (fun hz => ?_)
  ·conv=>whnf
   refine BuildG.of rfl ?_
   conv=>whnf
   refine StoreG.at rfl (Upd.tl (Upd.tl (Upd.tl (Upd.whole rfl (uvs_one z4))))) ?_
   conv=>whnf
   refine LoadNG.at (vs := uvs z4) rfl (.tl (.tl (.tl .all))) ?_
   conv=>whnf
   refine ⟨_, Ent.sel (T := []) (A := [_, _, _, _]) [2] rfl, ?_, rfl⟩
   rw [amtR, if_neg hne, if_neg (fun hh => hh.2 hz)]
   rfl
  ·conv=>whnf
   refine LoadNG.at (vs := uvs (wordsN g.1.1)) (by rw [uvs_len, hwl]) .all ?_
   conv=>whnf
   refine StoreG.at (by rw [uvs_len, hwl]) (Upd.tl (Upd.tl (Upd.tl (Upd.whole (by rw [uvs_len, hwl]; rfl) (uvs_one _))))) ?_
   conv=>whnf
   refine LoadNG.at (vs := uvs (wordsN g.1.1)) (by rw [uvs_len, hwl]) (.tl (.tl (.tl .all))) ?_
   conv=>whnf
   refine ⟨_, Ent.sel (T := []) (A := [_, _, _, _]) [2] rfl, ?_, rfl⟩
   rw [amtR, if_neg hne, if_pos ⟨h32, hz⟩]
   rfl
 ·conv=>whnf
  refine CallG.pure (wread_no _ x g.1.1 h32 (.left (own_rd hx (by rw [bvs_len, Nat.mul_one])) F)) ?_
  rintro _ _ ⟨rfl, rfl⟩
  conv=>whnf
  intro b8
  conv=>whnf
  refine StoreG.at rfl (Upd.whole rfl (uvs_one z4)) ?_
  conv=>whnf
  refine CondG.tt ?_
  (conv=>whnf);refine .tt ?_;(conv=>whnf);refine .tt ?_;(conv=>whnf);refine .tt ?_;(conv=>whnf)
  refine BuildG.of rfl ?_
  conv=>whnf
  refine StoreG.at rfl (Upd.tl (Upd.tl (Upd.tl (Upd.whole rfl (uvs_one z4))))) ?_
  conv=>whnf
  refine LoadNG.at (vs := uvs z4) rfl (.tl (.tl (.tl .all))) ?_
  conv=>whnf
  refine ⟨_, Ent.sel (T := []) (A := [_, _, _, _]) [2] rfl, ?_, rfl⟩
  rw [amtR, if_neg hne, if_neg (fun hh => h32 hh.1)]
  rfl
theorem lay_q (F : List HP) (s : Nat) (src : Value) (R : RSt) (key : ByteArray) (a : List Nat) (ha : a.length = 4) (hs : SrcG Tryz.prog F src find) (hn : R.steps.length ≤ 4398046511104) :
 SpecF Tryz.prog 109 [.pointer (some ⟨s, 0, none⟩), .string key, .agg ⟨uvs a⟩] F [stR 75 s src R] (fun r L => r = .int .i64 (layQ find R key a).1 ∧ L = [stR 75 s src (layQ find R key a).2]) := by
 have hal : (uvs a).length = 4 := by rw [uvs_len, ha]
 refine fun109.spec rfl ?_
 conv=>whnf
 intro b5
 conv=>whnf
 refine LoadNG.at (vs := uvs a) hal .all ?_
 conv=>whnf
 refine CallG.pure (isZero_spec _ a ha) ?_
 rintro _ _ ⟨rfl, rfl⟩
 conv=>whnf
 refine CondG.dec (fun hz => ?_) (fun hz => ?_)
 ·conv=>whnf
  refine CallG.of (pre := [stR 75 s src R]) (rest := [cel b5 38 (uvs a)]) (put_p _ s src R key (.slice none 0 0) [] (hs.left _) .nil hn) (Ent.perm (List.Perm.swap _ _ _)) ?_
  rintro _ _ ⟨rfl, rfl⟩
  conv=>whnf
  refine ⟨_, Ent.sel (T := []) (A := [_, _]) [0] rfl, ?_⟩
  rw [layQ, amtB, if_pos (show a = z4 from hz)]
  exact ⟨rfl, rfl⟩
 ·conv=>whnf
  refine LoadNG.at (vs := uvs a) hal .all ?_
  conv=>whnf
  refine CallG.pure (wbytes_spec _ a ha) ?_
  rintro r _ ⟨hr, rfl⟩
  have hwl := wide_len a
  conv=>whnf
  refine CallG.of (pre := [stR 75 s src R]) (rest := [own 1 r 32 (bvs (wideB a)), cel b5 38 (uvs a)]) (put_p _ s src R key r (wideB a) (hs.left _) (by rw [hwl]; exact .left (own_rd hr (by rw [bvs_len, hwl])) _) hn) (Ent.sel (T := []) (A := [_, _, _]) [2, 0, 1] rfl) ?_
  rintro _ _ ⟨rfl, rfl⟩
  conv=>whnf
  refine ⟨_, Ent.sel (T := []) (A := [_, _, _]) [0] rfl, ?_⟩
  rw [layQ, amtB, if_neg (show ¬ a = z4 from hz)]
  exact ⟨rfl, rfl⟩
theorem layToken_q (F : List HP) (s : Nat) (src : Value) (R : RSt) (t : Nat) (ht : t < 64) (d : TokD) (hd : d.sup.length = 4) (hs : SrcG Tryz.prog F src find) (hn : R.steps.length ≤ 4398046511104) :
 SpecF Tryz.prog 84 [.pointer (some ⟨s, 0, none⟩), .int .i64 t, .agg ⟨d.cells⟩] F [stR 75 s src R] (fun r L => r = .int .i64 (layTokQ find R t d).1 ∧ L = [stR 75 s src (layTokQ find R t d).2]) := by
 have hdl : d.cells.length = 6 := TokD.cells_len hd
 have hsl : (uvs d.sup).length = 4 := by rw [uvs_len, hd]
 have hwl := wide_len d.sup
 have hsup : (d.cells.drop 2).take (uvs d.sup).length = uvs d.sup := by simp [TokD.cells]
 have htl := tokB_len d
 refine fun84.spec rfl ?_
 conv=>whnf
 intro b5
 conv=>whnf
 refine LoadG.at (v := .bool d.paused) (.here rfl) ?_
 conv=>whnf
 have key : ∀ (f : Nat), f = (if d.paused then 3 else 1) → bvs [f] ++ bvs (wideB d.sup) = bvs (tokB d) := fun f hf => by
  rw [hf]; rfl
 refine CondG.split (fun hp => ?_) (fun hp => ?_)
 all_goals
  conv=>whnf
  refine DrawG.mk 11 [cel b5 61 d.cells] [stR 75 s src R] (Ent.perm (List.Perm.swap _ _ _)) ?_
  conv=>whnf
  refine .take 0 ?_
  conv=>whnf
  refine ⟨rfl, ?_⟩
  conv=>whnf
  refine .take 1 ?_
  conv=>whnf
  refine ⟨rfl, ?_⟩
  conv=>whnf
  refine .take 3 ?_
  conv=>whnf
  refine ⟨rfl, ?_⟩
  conv=>whnf
  refine .take 5 ?_
  conv=>whnf
  refine ⟨rfl, ?_⟩
  conv=>whnf
  refine .take 6 ?_
  conv=>whnf
  refine ⟨rfl, ?_⟩
  conv=>whnf
  refine LoadNG.at (vs := uvs d.sup) hsl (.here hsup) ?_
  conv=>whnf
  refine .all ?_
  conv=>whnf
  refine ⟨by decide, ?_, ?_⟩
  conv=>whnf
  refine CallG.pure (tokenKey_spec _ t ht) ?_
  rintro _ _ ⟨rfl, rfl⟩
  conv=>whnf
  refine .all ?_
  conv=>whnf
  refine ⟨by decide, ?_, ?_⟩
  conv=>whnf
  refine BuildG.of (cs := bvs [_]) rfl ?_
  conv=>whnf
  intro b14
  conv=>whnf
  refine .all ?_
  conv=>whnf
  refine ⟨by decide, ?_⟩
  conv=>whnf
  refine CallG.pure (wbytes_spec _ d.sup hd) ?_
  rintro r _ ⟨hr, rfl⟩
  conv=>whnf
  refine .all ?_
  conv=>whnf
  refine ⟨by decide, ?_⟩
  conv=>whnf
  refine DoesG.ent (M := [cel b14 5 (bvs [_]), own 1 r 32 (bvs (wideB d.sup)), stR 75 s src R]) (Ent.sel (T := []) (A := [_, _, _]) [1, 0, 2] rfl) ?_
  rotate_left
  conv=>whnf
  refine CallG.pure (wbytes_spec _ d.sup hd) ?_
  rintro r _ ⟨hr, rfl⟩
  conv=>whnf
  refine .all ?_
  conv=>whnf
  refine ⟨by decide, ?_⟩
  conv=>whnf
  refine BuildG.of (cs := bvs [_]) rfl ?_
  conv=>whnf
  intro b14
  conv=>whnf
  refine .all ?_
  conv=>whnf
  refine ⟨by decide, ?_⟩
  conv=>whnf
  refine DoesG.ent (M := [cel b14 5 (bvs [_]), own 1 r 32 (bvs (wideB d.sup)), stR 75 s src R]) (Ent.refl _) ?_
  rotate_left
  conv=>whnf
  refine BuildG.of (cs := bvs [_]) rfl ?_
  conv=>whnf
  intro b14
  conv=>whnf
  refine .all ?_
  conv=>whnf
  refine ⟨by decide, ?_⟩
  conv=>whnf
  refine CallG.pure (tokenKey_spec _ t ht) ?_
  rintro _ _ ⟨rfl, rfl⟩
  conv=>whnf
  refine .all ?_
  conv=>whnf
  refine ⟨by decide, ?_⟩
  conv=>whnf
  refine CallG.pure (wbytes_spec _ d.sup hd) ?_
  rintro r _ ⟨hr, rfl⟩
  conv=>whnf
  refine .all ?_
  conv=>whnf
  refine ⟨by decide, ?_⟩
  conv=>whnf
  refine DoesG.ent (M := [cel b14 5 (bvs [_]), own 1 r 32 (bvs (wideB d.sup)), stR 75 s src R]) (Ent.sel (T := []) (A := [_, _, _]) [1, 0, 2] rfl) ?_
  all_goals
   refine DoesG.ent (own_of_cel (n := 1) (sz := 1) rfl (by decide)) ?_
   refine app_own bytesT 97 (m := 32) (ys := bvs (wideB d.sup)) (.tl (.left (own_rd hr (by rw [bvs_len, hwl])) _)) (by rw [bvs_len, hwl]) (bvs_one _) (by decide) (by decide) fun q hq hql _ => ?_
   rw [key _ (by rw [hp]; rfl)] at hql ⊢
   conv=>whnf
   refine .all ?_
   conv=>whnf
   refine ⟨by decide, ?_⟩
   conv=>whnf
   refine CallG.of (pre := [stR 75 s src R]) (rest := [own 1 q 33 (bvs (tokB d)), own 1 r 32 (bvs (wideB d.sup))]) (put_p _ s src R (tokKey t) q (tokB d) ((hs.left _).left _) (by rw [htl]; exact .left (own_rd hq hql) _) hn) (Ent.sel (T := []) (A := [_, _, _]) [2, 0, 1] rfl) ?_
   rintro _ _ ⟨rfl, rfl⟩
   conv=>whnf
   refine .take 10 ?_
   conv=>whnf
   refine ⟨rfl, ?_⟩
   conv=>whnf
   refine ⟨rfl, ?_⟩
   conv=>whnf
   exact ⟨_, Ent.sel (T := []) (A := [_, _, _, _]) [0] rfl, rfl, rfl⟩
end
end Go.Proofs.YtjacolfhlfogkabGreatDoor
namespace Go.Proofs.YtjacolfhlfogkabGreatDoor
open Go Go.Sl
section
variable {find : ByteArray → List Nat × Int}
theorem token_q (F : List HP) (s : Nat) (src : Value) (R : RSt) (t : Int) (hs : SrcG Tryz.prog F src find) :
 SpecF Tryz.prog 61 [.pointer (some ⟨s, 0, none⟩), .int .i64 t] F [stR 75 s src R] (fun r L => r = .tuple #[.agg ⟨(tokenQ find R t).1.1.cells⟩, .int .i64 (tokenQ find R t).1.2] ∧ L = [stR 75 s src (tokenQ find R t).2]) := by
 refine fun61.spec rfl ?_
 conv=>whnf
 intro b4
 conv=>whnf
 refine CallG.pure (begun_spec _ s t) ?_
 rintro _ _ ⟨rfl, rfl⟩
 conv=>whnf
 refine CondG.ndec (fun h1 => ?_) (fun h1 => ?_)
 ·conv=>whnf
  refine BuildG.of rfl ?_
  conv=>whnf
  refine StoreG.at rfl (Upd.whole rfl (TokD.cells_one zTok)) ?_
  conv=>whnf
  refine LoadNG.at (vs := zTok.cells) rfl .all ?_
  conv=>whnf
  refine ⟨_, Ent.sel (T := []) (A := [_, _]) [1] rfl, ?_⟩
  rw [tokenQ, if_pos h1]
  exact ⟨rfl, rfl⟩
 obtain ⟨m, rfl, hm⟩ := begE_nat h1
 have et : tokenQ find R (m : Int) = tokOf (gtQ find R (tokKey m)) := by rw [tokenQ, if_neg (by rw [h1]; decide), Int.toNat_natCast]
 rw [et]
 conv=>whnf
 refine CallG.pure (tokenKey_spec _ m hm) ?_
 rintro _ _ ⟨rfl, rfl⟩
 conv=>whnf
 refine CallG.of (pre := [stR 75 s src R]) (rest := [cel b4 61 zTok.cells]) (get_p _ s src R (tokKey m) (hs.left _)) (Ent.perm (List.Perm.swap _ _ _)) ?_
 rintro _ _ ⟨x, hx, rfl, rfl⟩
 obtain ⟨g, hg⟩ : ∃ g, g = gtQ find R (tokKey m) := ⟨_, rfl⟩
 rw [← hg] at hx ⊢
 conv=>whnf
 refine CondG.ndec (fun he => ?_) (fun he => ?_)
 ·(conv=>whnf);refine .tt ?_;(conv=>whnf);refine .tt ?_;(conv=>whnf);refine .tt ?_;(conv=>whnf);refine .tt ?_;(conv=>whnf)
  refine BuildG.of rfl ?_
  conv=>whnf
  refine StoreG.at rfl (Upd.tl (Upd.tl (Upd.whole rfl (TokD.cells_one zTok)))) ?_
  conv=>whnf
  refine LoadNG.at (vs := zTok.cells) rfl (.tl (.tl .all)) ?_
  conv=>whnf
  refine ⟨_, Ent.sel (T := []) (A := [_, _, _]) [1] rfl, ?_⟩
  unfold tokOf
  rw [if_pos he]
  exact ⟨rfl, rfl⟩
 have hto : tokOf g = (tokR g.1.1, g.2) := by unfold tokOf; rw [if_neg (fun h => h he)]
 rw [hto]
 (conv=>whnf);refine .ff ?_;(conv=>whnf)
 refine LenG.sl hx ?_
 (conv=>whnf);refine .ff ?_;(conv=>whnf);refine .ff ?_;(conv=>whnf)
 refine CondG.dec (fun h => ?_) (fun h => ?_)
 ·have e : g.1.1 = [] := List.eq_nil_of_length_eq_zero (by omega)
  conv=>whnf
  refine BuildG.of rfl ?_
  conv=>whnf
  refine StoreG.at rfl (Upd.tl (Upd.tl (Upd.whole rfl (TokD.cells_one zTok)))) ?_
  conv=>whnf
  refine LoadNG.at (vs := zTok.cells) rfl (.tl (.tl .all)) ?_
  conv=>whnf
  refine ⟨_, Ent.sel (T := []) (A := [_, _, _]) [1] rfl, ?_⟩
  rw [e]
  refine ⟨?_, rfl⟩
  show Value.tuple #[_, .int .i64 g.1.2] = _
  rw [he]
  rfl
 have hrd : RdS (own 1 x g.1.1.length (bvs g.1.1) :: ([stR 75 s src g.2, cel b4 61 zTok.cells] ++ F)) x g.1.1.length (bvs g.1.1) := own_rd hx (by rw [bvs_len, Nat.mul_one])
 generalize hV : g.1.1 = bs at *
 obtain ⟨b, r, rfl⟩ : ∃ b r, bs = b :: r := by
  cases bs with
  | nil => exact absurd rfl h
  | cons b r => exact ⟨b, r, rfl⟩
 conv=>whnf
 refine SlcG.rd hrd fun a cap hva hcap => ?_
 conv=>whnf
 have hlen : (b :: r).length = r.length + 1 := rfl
 refine SideG.of (by omega) ?_
 conv=>whnf
 refine SliceG.rd (by rw [← hva]; exact hrd) (by show 1 ≤ _; omega) (by omega) (by omega) (by omega) fun v1 hv1 _ => ?_
 have e1 : (((b :: r).length : Nat) : Int).toNat - (1 : Int).toNat = r.length := by show _ - 1 = _; omega
 have e2 : ((bvs (b :: r)).drop ((1 : Int).toNat * 1)).take (((((b :: r).length : Nat) : Int).toNat - (1 : Int).toNat) * 1) = bvs r := by
  rw [e1]
  show ((bvs (b :: r)).drop 1).take _ = _
  show (bvs r).take _ = _
  rw [List.take_of_length_le (by rw [bvs_len]; omega)]
 rw [e2, e1] at hv1
 have bad : ∀ (hb : ¬ (r.length = 32 ∧ (b = 1 ∨ b = 3))), tokR (b :: r) = (zTok, 75) := fun hb => by rw [tokR, if_neg hb]
 by_cases h32 : r.length = 32
 ·have hwl := wordsN_len r
  have hwu : (uvs (wordsN r)).length = 4 := by rw [uvs_len, hwl]
  conv=>whnf
  refine CallG.pure (wread_spec _ v1 r h32 (by rw [← h32]; exact hv1)) ?_
  rintro _ _ ⟨rfl, rfl⟩
  rw [ivs_words]
  conv=>whnf
  intro b9
  conv=>whnf
  refine StoreG.at hwu (Upd.whole (by rw [hwu]; rfl) (uvs_one _)) ?_
  conv=>whnf
  refine CondG.ff ?_
  (conv=>whnf);refine .ff ?_;(conv=>whnf)
  have hrd2 := RdS.tl (p := cel b9 38 (uvs (wordsN r))) hrd
  refine IdxG.rd hrd2 (by omega) fun c o hc => ?_
  (conv=>whnf);refine .ff ?_;(conv=>whnf)
  refine LoadG.atG (v := bv b) (hc.one (i := 0) rfl) ?_
  (conv=>whnf);refine .ff ?_;(conv=>whnf);refine .ff ?_;(conv=>whnf)
  have zero : ¬ (b = 1 ∨ b = 3) → tokR (b :: r) = (zTok, 75) := fun hb => bad fun hh => hb hh.2
  have right : (b = 1 ∨ b = 3) → tokR (b :: r) = (⟨true, decide (b = 3), wordsN r⟩, 0) := fun hb => by rw [tokR, if_pos ⟨h32, hb⟩]
  refine CondG.ndec (fun hb1 => ?_) (fun hb1 => ?_)
  (conv=>whnf);refine .tt ?_;(conv=>whnf)
  refine IdxG.rd hrd2 (by omega) fun c2 o2 hc2 => ?_
  (conv=>whnf);refine .tt ?_;(conv=>whnf)
  refine LoadG.atG (v := bv b) (hc2.one (i := 0) rfl) ?_
  (conv=>whnf);repeat((with_reducible first|refine .tt ?_|refine .ff ?_);conv=>whnf)
  refine CondG.ndec (fun hb3 => ?_) (fun hb3 => ?_)
  ·conv=>whnf
   refine BuildG.of rfl ?_
   conv=>whnf
   refine StoreG.at rfl (Upd.tl (Upd.tl (Upd.tl (Upd.whole rfl (TokD.cells_one zTok))))) ?_
   conv=>whnf
   refine LoadNG.at (vs := zTok.cells) rfl (.tl (.tl (.tl .all))) ?_
   conv=>whnf
   refine ⟨_, Ent.sel (T := []) (A := [_, _, _, _]) [2] rfl, ?_⟩
   rw [zero (by omega)]
   exact ⟨rfl, rfl⟩
  rw [right (by omega)]
  rotate_left
  rw [right (by omega)]
  all_goals
   (conv=>whnf);repeat((with_reducible first|refine .ff ?_);conv=>whnf)
   refine DrawG.mk 6 [cel b9 38 (uvs (wordsN r)), own 1 x (b :: r).length (bvs (b :: r)), stR 75 s src g.2, cel b4 61 zTok.cells] [] (Ent.refl _) ?_
   conv=>whnf
   refine .take 0 ?_
   conv=>whnf
   refine ⟨rfl, ?_⟩
   conv=>whnf
   refine .take 1 ?_
   conv=>whnf
   refine ⟨rfl, ?_⟩
   conv=>whnf
   refine IdxG.rd hrd2 (by omega) fun c2 o2 hc2 => ?_
   conv=>whnf
   refine .take 2 ?_
   conv=>whnf
   refine ⟨rfl, ?_⟩
   conv=>whnf
   refine LoadG.atG (v := bv b) (hc2.one (i := 0) rfl) ?_
   conv=>whnf
   refine .take 3 ?_
   conv=>whnf
   refine ⟨rfl, ?_⟩
   conv=>whnf
   refine .take 4 ?_
   conv=>whnf
   refine ⟨rfl, ?_⟩
   conv=>whnf
   refine LoadNG.at (vs := uvs (wordsN r)) hwu .all ?_
   conv=>whnf
   refine .take 5 ?_
   conv=>whnf
   refine ⟨rfl, ?_⟩
   conv=>whnf
   have ed : decide (((b : Nat) : Int) = 3) = decide (b = 3) := by
    by_cases h3 : b = 3
    ·subst h3; rfl
    ·have : ¬ (b : Int) = 3 := by omega
     simp [h3, this]
   rw [ed]
   refine BuildG.of (cs := (TokD.mk true (decide (b = 3)) (wordsN r)).cells) (by simp [fillL, Value.cells, hwu, TokD.cells]) ?_
   conv=>whnf
   refine .all ?_
   conv=>whnf
   refine ⟨by decide, ?_⟩
   conv=>whnf
   refine ⟨rfl, ?_⟩
   conv=>whnf
   refine StoreG.at (TokD.cells_len hwl) (Upd.tl (Upd.tl (Upd.tl (Upd.whole (by rw [TokD.cells_len hwl]; rfl) (TokD.cells_one _))))) ?_
   conv=>whnf
   refine .all ?_
   conv=>whnf
   refine ⟨by decide, ?_⟩
   conv=>whnf
   refine ⟨rfl, ?_⟩
   conv=>whnf
   refine LoadNG.at (vs := (TokD.mk true (decide (b = 3)) (wordsN r)).cells) (TokD.cells_len hwl) (.tl (.tl (.tl .all))) ?_
   conv=>whnf
   exact ⟨_, Ent.sel (T := []) (A := [_, _, _, _]) [2] rfl, rfl, rfl⟩
 ·conv=>whnf
  refine CallG.pure (wread_no _ v1 r h32 hv1) ?_
  rintro _ _ ⟨rfl, rfl⟩
  conv=>whnf
  intro b9
  conv=>whnf
  refine StoreG.at rfl (Upd.whole rfl (uvs_one z4)) ?_
  conv=>whnf
  refine CondG.tt ?_
  (conv=>whnf);refine .tt ?_;(conv=>whnf);refine .tt ?_;(conv=>whnf);refine .tt ?_;(conv=>whnf);refine .tt ?_;(conv=>whnf);refine .tt ?_;(conv=>whnf);refine .tt ?_;(conv=>whnf);refine .tt ?_;(conv=>whnf)
  refine BuildG.of rfl ?_
  conv=>whnf
  refine StoreG.at rfl (Upd.tl (Upd.tl (Upd.tl (Upd.whole rfl (TokD.cells_one zTok))))) ?_
  conv=>whnf
  refine LoadNG.at (vs := zTok.cells) rfl (.tl (.tl (.tl .all))) ?_
  conv=>whnf
  refine ⟨_, Ent.sel (T := []) (A := [_, _, _, _]) [2] rfl, ?_⟩
  rw [bad (fun hb => h32 hb.1)]
  exact ⟨rfl, rfl⟩
theorem there_q (F : List HP) (s : Nat) (src : Value) (R : RSt) (t : Int) (hs : SrcG Tryz.prog F src find) :
 SpecF Tryz.prog 86 [.pointer (some ⟨s, 0, none⟩), .int .i64 t] F [stR 75 s src R] (fun r L => r = .tuple #[.agg ⟨(thereQ find R t).1.1.cells⟩, .int .i64 (thereQ find R t).1.2] ∧ L = [stR 75 s src (thereQ find R t).2]) := by
 have hok := (tokenQ_ok find R t).len
 have hl1 : (tokenQ find R t).1.1.cells.length = 6 := TokD.cells_len hok
 refine fun86.spec rfl ?_
 conv=>whnf
 intro b4
 conv=>whnf
 refine CallG.of (pre := [stR 75 s src R]) (rest := [cel b4 61 zTok.cells]) (token_q _ s src R t (hs.left _)) (Ent.perm (List.Perm.swap _ _ _)) ?_
 rintro _ _ ⟨rfl, rfl⟩
 conv=>whnf
 intro b6
 conv=>whnf
 refine StoreG.at hl1 (Upd.whole (by rw [hl1]; rfl) (TokD.cells_one _)) ?_
 conv=>whnf
 refine CondG.ndec (fun h1 => ?_) (fun h1 => ?_)
 ·conv=>whnf
  refine BuildG.of rfl ?_
  conv=>whnf
  refine StoreG.at rfl (Upd.tl (Upd.tl (Upd.whole rfl (TokD.cells_one zTok)))) ?_
  conv=>whnf
  refine LoadNG.at (vs := zTok.cells) rfl (.tl (.tl .all)) ?_
  conv=>whnf
  refine ⟨_, Ent.sel (T := []) (A := [_, _, _]) [1] rfl, ?_⟩
  unfold thereQ thereOf
  rw [if_pos h1]
  exact ⟨rfl, rfl⟩
 conv=>whnf
 refine LoadNG.at (vs := (tokenQ find R t).1.1.cells) hl1 .all ?_
 conv=>whnf
 refine BuildG.of (cs := zTok.cells) rfl ?_
 conv=>whnf
 refine DoesG.eqv 8 tokK (by kernel_rfl) (by decide) (by kernel_rfl) (by kernel_rfl) (TokD.wt hok) (TokD.wt z4_len) ?_
 conv=>whnf
 refine CondG.split (fun h2 => ?_) (fun h2 => ?_)
 ·simp only [decide_eq_true_eq] at h2
  have hz := TokD.cells_inj.1 h2
  conv=>whnf
  refine LoadNG.at (vs := (tokenQ find R t).1.1.cells) hl1 .all ?_
  conv=>whnf
  refine StoreG.at hl1 (Upd.tl (Upd.tl (Upd.whole (by rw [hl1]; rfl) (TokD.cells_one _)))) ?_
  conv=>whnf
  refine LoadNG.at (vs := (tokenQ find R t).1.1.cells) hl1 (.tl (.tl .all)) ?_
  conv=>whnf
  refine ⟨_, Ent.sel (T := []) (A := [_, _, _]) [1] rfl, ?_, rfl⟩
  have h1' : (tokenQ find R t).1.2 = 0 := h1
  unfold thereQ thereOf
  rw [if_neg (by rw [h1']; decide), if_pos hz, hz]
  rfl
 ·simp only [decide_eq_false_iff_not] at h2
  have hz : ¬ (tokenQ find R t).1.1 = zTok := fun e => h2 (by rw [e])
  have h1' : (tokenQ find R t).1.2 = 0 := h1
  conv=>whnf
  refine LoadNG.at (vs := (tokenQ find R t).1.1.cells) hl1 .all ?_
  conv=>whnf
  refine StoreG.at hl1 (Upd.tl (Upd.tl (Upd.whole (by rw [hl1]; rfl) (TokD.cells_one _)))) ?_
  conv=>whnf
  refine LoadNG.at (vs := (tokenQ find R t).1.1.cells) hl1 (.tl (.tl .all)) ?_
  conv=>whnf
  refine ⟨_, Ent.sel (T := []) (A := [_, _, _]) [1] rfl, ?_, rfl⟩
  unfold thereQ thereOf
  rw [if_neg (by rw [h1']; decide), if_neg hz]
  rw [show (tokenQ find R t).1 = ((tokenQ find R t).1.1, (0 : Int)) from by rw [← h1']]
  rfl
theorem running_q (F : List HP) (s : Nat) (src : Value) (R : RSt) (t : Int) (hs : SrcG Tryz.prog F src find) :
 SpecF Tryz.prog 85 [.pointer (some ⟨s, 0, none⟩), .int .i64 t] F [stR 75 s src R] (fun r L => r = .tuple #[.agg ⟨(runQ find R t).1.1.cells⟩, .int .i64 (runQ find R t).1.2] ∧ L = [stR 75 s src (runQ find R t).2]) := by
 have hok := (thereQ_ok find R t).len
 have hl1 : (thereQ find R t).1.1.cells.length = 6 := TokD.cells_len hok
 refine fun85.spec rfl ?_
 conv=>whnf
 intro b4
 conv=>whnf
 refine CallG.of (pre := [stR 75 s src R]) (rest := [cel b4 61 zTok.cells]) (there_q _ s src R t (hs.left _)) (Ent.perm (List.Perm.swap _ _ _)) ?_
 rintro _ _ ⟨rfl, rfl⟩
 conv=>whnf
 intro b6
 conv=>whnf
 refine StoreG.at hl1 (Upd.whole (by rw [hl1]; rfl) (TokD.cells_one _)) ?_
 conv=>whnf
 have other : ¬ ((thereQ find R t).1.2 = 0 ∧ (thereQ find R t).1.1.paused = true) → (runQ find R t).1 = (thereQ find R t).1 := fun h => by unfold runQ runOf; rw [if_neg h]
 refine CondG.dec (fun h1 => ?_) (fun h1 => ?_)
 ·(conv=>whnf);refine .tt ?_;(conv=>whnf)
  refine LoadG.at (v := .bool (thereQ find R t).1.1.paused) (.here rfl) ?_
  (conv=>whnf);refine .tt ?_;(conv=>whnf)
  refine CondG.split (fun h2 => ?_) (fun h2 => ?_)
  ·conv=>whnf
   refine BuildG.of rfl ?_
   conv=>whnf
   refine StoreG.at rfl (Upd.tl (Upd.tl (Upd.whole rfl (TokD.cells_one zTok)))) ?_
   conv=>whnf
   refine LoadNG.at (vs := zTok.cells) rfl (.tl (.tl .all)) ?_
   conv=>whnf
   refine ⟨_, Ent.sel (T := []) (A := [_, _, _]) [1] rfl, ?_⟩
   unfold runQ runOf
   rw [if_pos ⟨h1, h2⟩]
   exact ⟨rfl, rfl⟩
  ·rw [other (fun hh => by rw [h2] at hh; exact absurd hh.2 (by decide))]
   conv=>whnf
   refine LoadNG.at (vs := (thereQ find R t).1.1.cells) hl1 .all ?_
   conv=>whnf
   refine StoreG.at hl1 (Upd.tl (Upd.tl (Upd.whole (by rw [hl1]; rfl) (TokD.cells_one _)))) ?_
   conv=>whnf
   refine LoadNG.at (vs := (thereQ find R t).1.1.cells) hl1 (.tl (.tl .all)) ?_
   conv=>whnf
   exact ⟨_, Ent.sel (T := []) (A := [_, _, _]) [1] rfl, rfl, rfl⟩
 ·rw [other (fun hh => h1 hh.1)]
  (conv=>whnf);refine .ff ?_;(conv=>whnf);refine .ff ?_;(conv=>whnf);refine .ff ?_;(conv=>whnf)
  refine LoadNG.at (vs := (thereQ find R t).1.1.cells) hl1 .all ?_
  conv=>whnf
  refine StoreG.at hl1 (Upd.tl (Upd.tl (Upd.whole (by rw [hl1]; rfl) (TokD.cells_one _)))) ?_
  conv=>whnf
  refine LoadNG.at (vs := (thereQ find R t).1.1.cells) hl1 (.tl (.tl .all)) ?_
  conv=>whnf
  exact ⟨_, Ent.sel (T := []) (A := [_, _, _]) [1] rfl, rfl, rfl⟩
theorem register_q (F : List HP) (s : Nat) (src : Value) (R : RSt) (t : Int) (hs : SrcG Tryz.prog F src find) (hn : R.steps.length ≤ 4398046511104) :
 SpecF Tryz.prog 33 [.pointer (some ⟨s, 0, none⟩), .int .i64 t] F [stR 75 s src R] (fun r L => r = .int .i64 (registerQ find R t).1 ∧ L = [stR 75 s src (registerQ find R t).2]) := by
 have hok := (tokenQ_ok find R t).len
 have hl1 : (tokenQ find R t).1.1.cells.length = 6 := TokD.cells_len hok
 refine fun33.spec rfl ?_
 conv=>whnf
 refine CallG.of (pre := [stR 75 s src R]) (rest := []) (token_q _ s src R t (hs.left _)) (Ent.refl _) ?_
 rintro _ _ ⟨rfl, rfl⟩
 conv=>whnf
 intro b5
 conv=>whnf
 refine StoreG.at hl1 (Upd.whole (by rw [hl1]; rfl) (TokD.cells_one _)) ?_
 conv=>whnf
 refine CondG.ndec (fun h1 => ?_) (fun h1 => ?_)
 ·conv=>whnf
  refine ⟨_, (Ent.sel (T := []) (A := [_, _]) [1] rfl), ?_, ?_⟩
  ·rw [registerQ, if_pos h1]; rfl
  ·rw [registerQ, if_pos h1]; rfl
 obtain ⟨m, rfl, hm⟩ := tokenQ_nat find h1
 conv=>whnf
 refine LoadG.at (v := .bool (tokenQ find R m).1.1.there) (.here rfl) ?_
 conv=>whnf
 refine CondG.split (fun h2 => ?_) (fun h2 => ?_)
 ·conv=>whnf
  refine ⟨_, (Ent.sel (T := []) (A := [_, _]) [1] rfl), ?_, ?_⟩
  ·rw [registerQ, if_neg (by rw [h1]; decide), if_pos h2]; rfl
  ·rw [registerQ, if_neg (by rw [h1]; decide), if_pos h2]; rfl
 ·conv=>whnf
  refine BuildG.of (cs := zTok.cells) rfl ?_
  conv=>whnf
  refine CallG.of (pre := [stR 75 s src (tokenQ find R m).2]) (rest := [cel b5 61 (tokenQ find R m).1.1.cells]) (layToken_q _ s src (tokenQ find R m).2 m hm zTok z4_len (hs.left _) (by rw [tokenQ_steps]; exact hn)) (Ent.perm (List.Perm.swap _ _ _)) ?_
  rintro _ _ ⟨rfl, rfl⟩
  conv=>whnf
  refine ⟨_, (Ent.sel (T := []) (A := [_, _]) [0] rfl), ?_, ?_⟩
  ·rw [registerQ, if_neg (by rw [h1]; decide), if_neg (by rw [h2]; decide)]; rfl
  ·rw [registerQ, if_neg (by rw [h1]; decide), if_neg (by rw [h2]; decide)]; rfl
theorem pause_q (F : List HP) (s : Nat) (src : Value) (R : RSt) (t : Int) (hs : SrcG Tryz.prog F src find) (hn : R.steps.length ≤ 4398046511104) :
 SpecF Tryz.prog 34 [.pointer (some ⟨s, 0, none⟩), .int .i64 t] F [stR 75 s src R] (fun r L => r = .int .i64 (pauseQ find R t).1 ∧ L = [stR 75 s src (pauseQ find R t).2]) := by
 have hok := (runQ_ok find R t).len
 have hl1 : (runQ find R t).1.1.cells.length = 6 := TokD.cells_len hok
 refine fun34.spec rfl ?_
 conv=>whnf
 refine CallG.of (pre := [stR 75 s src R]) (rest := []) (running_q _ s src R t (hs.left _)) (Ent.refl _) ?_
 rintro _ _ ⟨rfl, rfl⟩
 conv=>whnf
 intro b5
 conv=>whnf
 refine StoreG.at hl1 (Upd.whole (by rw [hl1]; rfl) (TokD.cells_one _)) ?_
 conv=>whnf
 refine CondG.ndec (fun h1 => ?_) (fun h1 => ?_)
 ·conv=>whnf
  refine ⟨_, (Ent.sel (T := []) (A := [_, _]) [1] rfl), ?_, ?_⟩
  ·rw [pauseQ, if_pos h1]; rfl
  ·rw [pauseQ, if_pos h1]; rfl
 obtain ⟨m, rfl, hm⟩ := runQ_nat find h1
 conv=>whnf
 refine StoreG.at (cs := [.bool true]) rfl (Upd.here (by rw [hl1]; decide) rfl) ?_
 have e : (runQ find R m).1.1.cells.set 1 (.bool true) = ({ (runQ find R m).1.1 with paused := true } : TokD).cells := rfl
 have hl2 : ({ (runQ find R m).1.1 with paused := true } : TokD).cells.length = 6 := TokD.cells_len hok
 conv=>whnf
 refine LoadNG.at (vs := ({ (runQ find R m).1.1 with paused := true } : TokD).cells) hl2 .all ?_
 conv=>whnf
 refine CallG.of (pre := [stR 75 s src (runQ find R m).2]) (rest := [cel b5 61 ({ (runQ find R m).1.1 with paused := true } : TokD).cells]) (layToken_q _ s src (runQ find R m).2 m hm { (runQ find R m).1.1 with paused := true } hok (hs.left _) (by rw [runQ_steps]; exact hn)) (Ent.perm (List.Perm.swap _ _ _)) ?_
 rintro _ _ ⟨rfl, rfl⟩
 conv=>whnf
 refine ⟨_, (Ent.sel (T := []) (A := [_, _]) [0] rfl), ?_, ?_⟩
 ·rw [pauseQ, if_neg (by rw [h1]; decide)]; rfl
 ·rw [pauseQ, if_neg (by rw [h1]; decide)]; rfl
theorem resume_q (F : List HP) (s : Nat) (src : Value) (R : RSt) (t : Int) (hs : SrcG Tryz.prog F src find) (hn : R.steps.length ≤ 4398046511104) :
 SpecF Tryz.prog 35 [.pointer (some ⟨s, 0, none⟩), .int .i64 t] F [stR 75 s src R] (fun r L => r = .int .i64 (resumeQ find R t).1 ∧ L = [stR 75 s src (resumeQ find R t).2]) := by
 have hok := (thereQ_ok find R t).len
 have hl1 : (thereQ find R t).1.1.cells.length = 6 := TokD.cells_len hok
 refine fun35.spec rfl ?_
 conv=>whnf
 refine CallG.of (pre := [stR 75 s src R]) (rest := []) (there_q _ s src R t (hs.left _)) (Ent.refl _) ?_
 rintro _ _ ⟨rfl, rfl⟩
 conv=>whnf
 intro b5
 conv=>whnf
 refine StoreG.at hl1 (Upd.whole (by rw [hl1]; rfl) (TokD.cells_one _)) ?_
 conv=>whnf
 refine CondG.ndec (fun h1 => ?_) (fun h1 => ?_)
 ·conv=>whnf
  refine ⟨_, (Ent.sel (T := []) (A := [_, _]) [1] rfl), ?_, ?_⟩
  ·rw [resumeQ, if_pos h1]; rfl
  ·rw [resumeQ, if_pos h1]; rfl
 obtain ⟨m, rfl, hm⟩ := thereQ_nat find h1
 conv=>whnf
 refine LoadG.at (v := .bool (thereQ find R m).1.1.paused) (.here rfl) ?_
 conv=>whnf
 refine CondG.split (fun h2 => ?_) (fun h2 => ?_)
 ·have h2' : (thereQ find R m).1.1.paused = false := by simpa using h2
  conv=>whnf
  refine ⟨_, (Ent.sel (T := []) (A := [_, _]) [1] rfl), ?_, ?_⟩
  ·rw [resumeQ, if_neg (by rw [h1]; decide), if_pos h2']; rfl
  ·rw [resumeQ, if_neg (by rw [h1]; decide), if_pos h2']; rfl
 have h2' : ¬ (thereQ find R m).1.1.paused = false := by simpa using h2
 conv=>whnf
 refine StoreG.at (cs := [.bool false]) rfl (Upd.here (by rw [hl1]; decide) rfl) ?_
 have hl2 : ({ (thereQ find R m).1.1 with paused := false } : TokD).cells.length = 6 := TokD.cells_len hok
 conv=>whnf
 refine LoadNG.at (vs := ({ (thereQ find R m).1.1 with paused := false } : TokD).cells) hl2 .all ?_
 conv=>whnf
 refine CallG.of (pre := [stR 75 s src (thereQ find R m).2]) (rest := [cel b5 61 ({ (thereQ find R m).1.1 with paused := false } : TokD).cells]) (layToken_q _ s src (thereQ find R m).2 m hm { (thereQ find R m).1.1 with paused := false } hok (hs.left _) (by rw [thereQ_steps]; exact hn)) (Ent.perm (List.Perm.swap _ _ _)) ?_
 rintro _ _ ⟨rfl, rfl⟩
 conv=>whnf
 refine ⟨_, (Ent.sel (T := []) (A := [_, _]) [0] rfl), ?_, ?_⟩
 ·rw [resumeQ, if_neg (by rw [h1]; decide), if_neg h2']; rfl
 ·rw [resumeQ, if_neg (by rw [h1]; decide), if_neg h2']; rfl
end
end Go.Proofs.YtjacolfhlfogkabGreatDoor
namespace Go.Proofs.YtjacolfhlfogkabGreatDoor
open Go Go.Sl
section
variable {find : ByteArray → List Nat × Int}
theorem mint_q (F : List HP) (s : Nat) (src : Value) (R : RSt) (t : Int) (to a : List Nat) (hto : to.length = 20) (ha : wOk a) (hs : SrcG Tryz.prog F src find) (hn : R.steps.length + 1 ≤ 4398046511104) :
 SpecF Tryz.prog 58 [.pointer (some ⟨s, 0, none⟩), .int .i64 t, .agg ⟨bvs to⟩, .agg ⟨uvs a⟩] F [stR 75 s src R] (fun r L => r = .int .i64 (mintQ find R t to a).1 ∧ L = [stR 75 s src (mintQ find R t to a).2]) := by
 have hok := runQ_ok find R t
 have hl1 : (runQ find R t).1.1.cells.length = 6 := TokD.cells_len hok.len
 have hal : (uvs a).length = 4 := by rw [uvs_len, ha.len]
 refine fun58.spec rfl ?_
 conv=>whnf
 intro b6
 conv=>whnf
 intro b7
 conv=>whnf
 refine CallG.of (pre := [stR 75 s src R]) (rest := [cel b7 38 (uvs a), cel b6 35 (bvs to)]) (running_q _ s src R t (hs.left _)) (Ent.sel (T := []) (A := [_, _, _]) [2, 0, 1] rfl) ?_
 rintro _ _ ⟨rfl, rfl⟩
 conv=>whnf
 intro b9
 conv=>whnf
 refine StoreG.at hl1 (Upd.whole (by rw [hl1]; rfl) (TokD.cells_one _)) ?_
 conv=>whnf
 refine CondG.ndec (fun h1 => ?_) (fun h1 => ?_)
 ·conv=>whnf
  refine ⟨_, Ent.sel (T := []) (A := [_, _, _, _]) [1] rfl, ?_⟩
  unfold mintQ mintA lay2Q
  rw [if_pos h1]
  exact ⟨rfl, rfl⟩
 obtain ⟨m, rfl, hm⟩ := runQ_nat find h1
 have h1' : ¬ (runQ find R m).1.2 ≠ 0 := by rw [show (runQ find R m).1.2 = 0 from h1]; decide
 have hsl : (uvs (runQ find R m).1.1.sup).length = 4 := by rw [uvs_len, hok.len]
 conv=>whnf
 refine LoadNG.at (vs := uvs (runQ find R m).1.1.sup) hsl (.here (sup_at _)) ?_
 conv=>whnf
 refine LoadNG.at (vs := uvs a) hal (.tl (.tl .all)) ?_
 conv=>whnf
 refine CallG.pure (add_spec _ _ a hok ha) ?_
 rintro _ _ ⟨rfl, rfl⟩
 have hA : (uvs (addR (runQ find R m).1.1.sup a).1).length = 4 := by rw [uvs_len, addR_ok]
 conv=>whnf
 refine StoreG.at hA (Upd.hereN (by rw [hA, hl1]; decide) (uvs_one _) (set_sup hok.len addR_ok)) ?_
 conv=>whnf
 by_cases h2 : m256 ≤ nat4 (runQ find R m).1.1.sup + nat4 a
 ·rw [addR_no h2]
  refine CondG.tt ?_
  conv=>whnf
  refine ⟨_, Ent.sel (T := []) (A := [_, _, _, _]) [1] rfl, ?_⟩
  unfold mintQ mintA lay2Q
  rw [if_neg h1', if_pos h2]
  exact ⟨rfl, rfl⟩
 rw [addR_yes h2]
 have hl2 : ({ (runQ find R m).1.1 with sup := addL (runQ find R m).1.1.sup a } : TokD).cells.length = 6 := TokD.cells_len rfl
 refine CondG.ff ?_
 conv=>whnf
 refine LoadNG.at (vs := bvs to) (by rw [bvs_len, hto]) (.tl (.tl (.tl .all))) ?_
 conv=>whnf
 refine CallG.pure (balanceKey_spec _ m hm to hto) ?_
 rintro _ _ ⟨rfl, rfl⟩
 conv=>whnf
 refine CallG.of (pre := [stR 75 s src (runQ find R m).2]) (rest := [cel b9 61 ({ (runQ find R m).1.1 with sup := addL (runQ find R m).1.1.sup a } : TokD).cells, cel b7 38 (uvs a), cel b6 35 (bvs to)]) (amount_q _ s src (runQ find R m).2 (balKey m to) (hs.left _)) (Ent.sel (T := []) (A := [_, _, _, _]) [1, 0, 2, 3] rfl) ?_
 rintro _ _ ⟨rfl, rfl⟩
 have hbk := amtQ_ok find (runQ find R m).2 (balKey m to)
 have hbl : (uvs (amtQ find (runQ find R m).2 (balKey m to)).1.1).length = 4 := by rw [uvs_len, hbk.len]
 have hy : (amtQ find (runQ find R m).2 (balKey m to)).2.steps = R.steps := by rw [amtQ_steps, runQ_steps]
 have em : ((m : Nat) : Int).toNat = m := Int.toNat_natCast m
 conv=>whnf
 intro b12
 conv=>whnf
 refine StoreG.at hbl (Upd.whole (by rw [hbl]; rfl) (uvs_one _)) ?_
 conv=>whnf
 refine CondG.ndec (fun h3 => ?_) (fun h3 => ?_)
 ·conv=>whnf
  refine ⟨_, Ent.sel (T := []) (A := [_, _, _, _, _]) [1] rfl, ?_⟩
  unfold mintQ mintA lay2Q
  rw [if_neg h1', if_neg h2, em, if_pos h3]
  exact ⟨rfl, rfl⟩
 have h3' : ¬ (amtQ find (runQ find R m).2 (balKey m to)).1.2 ≠ 0 := by rw [show (amtQ find (runQ find R m).2 (balKey m to)).1.2 = 0 from h3]; decide
 conv=>whnf
 refine LoadNG.at (vs := uvs (amtQ find (runQ find R m).2 (balKey m to)).1.1) hbl .all ?_
 conv=>whnf
 refine LoadNG.at (vs := uvs a) hal (.tl (.tl (.tl .all))) ?_
 conv=>whnf
 refine CallG.pure (add_spec _ _ a hbk ha) ?_
 rintro _ _ ⟨rfl, rfl⟩
 have hB : (uvs (addR (amtQ find (runQ find R m).2 (balKey m to)).1.1 a).1).length = 4 := by rw [uvs_len, addR_ok]
 conv=>whnf
 refine StoreG.at hB (Upd.whole (by rw [hB, hbl]) (uvs_one _)) ?_
 conv=>whnf
 by_cases h4 : m256 ≤ nat4 (amtQ find (runQ find R m).2 (balKey m to)).1.1 + nat4 a
 ·rw [addR_no h4]
  refine CondG.tt ?_
  conv=>whnf
  refine ⟨_, Ent.sel (T := []) (A := [_, _, _, _, _]) [1] rfl, ?_⟩
  unfold mintQ mintA lay2Q
  rw [if_neg h1', if_neg h2, em, if_neg h3', if_pos h4]
  exact ⟨rfl, rfl⟩
 rw [addR_yes h4]
 refine CondG.ff ?_
 conv=>whnf
 refine LoadNG.at (vs := uvs a) hal (.tl (.tl (.tl .all))) ?_
 conv=>whnf
 refine CallG.pure (isZero_spec _ a ha.len) ?_
 rintro _ _ ⟨rfl, rfl⟩
 conv=>whnf
 refine CondG.dec (fun h5 => ?_) (fun h5 => ?_)
 ·have h5' : a = z4 := h5
  conv=>whnf
  refine ⟨_, Ent.sel (T := []) (A := [_, _, _, _, _]) [1] rfl, ?_⟩
  unfold mintQ mintA lay2Q
  rw [if_neg h1', if_neg h2, em, if_neg h3', if_neg h4, if_pos h5']
  exact ⟨rfl, rfl⟩
 have h5' : ¬ a = z4 := h5
 conv=>whnf
 refine LoadNG.at (vs := ({ (runQ find R m).1.1 with sup := addL (runQ find R m).1.1.sup a } : TokD).cells) hl2 (.tl (.tl .all)) ?_
 conv=>whnf
 refine CallG.of (pre := [stR 75 s src (amtQ find (runQ find R m).2 (balKey m to)).2]) (rest := [cel b12 38 (uvs (addL (amtQ find (runQ find R m).2 (balKey m to)).1.1 a)), cel b9 61 ({ (runQ find R m).1.1 with sup := addL (runQ find R m).1.1.sup a } : TokD).cells, cel b7 38 (uvs a), cel b6 35 (bvs to)]) (layToken_q _ s src (amtQ find (runQ find R m).2 (balKey m to)).2 m hm { (runQ find R m).1.1 with sup := addL (runQ find R m).1.1.sup a } rfl (hs.left _) (by rw [hy]; omega)) (Ent.sel (T := []) (A := [_, _, _, _, _]) [1, 0, 2, 3, 4] rfl) ?_
 rintro _ _ ⟨rfl, rfl⟩
 conv=>whnf
 have hz : (layTokQ find (amtQ find (runQ find R m).2 (balKey m to)).2 m ({ (runQ find R m).1.1 with sup := addL (runQ find R m).1.1.sup a } : TokD)).2.steps.length ≤ 4398046511104 := by
  have h := ptQ_steps find (amtQ find (runQ find R m).2 (balKey m to)).2 (tokKey m) (tokB ({ (runQ find R m).1.1 with sup := addL (runQ find R m).1.1.sup a } : TokD))
  rw [hy] at h
  exact Nat.le_trans h hn
 refine CondG.ndec (fun h6 => ?_) (fun h6 => ?_)
 ·conv=>whnf
  refine ⟨_, Ent.sel (T := []) (A := [_, _, _, _, _]) [0] rfl, ?_⟩
  unfold mintQ mintA lay2Q
  rw [if_neg h1', if_neg h2, em, if_neg h3', if_neg h4, if_neg h5', if_pos h6]
  exact ⟨rfl, rfl⟩
 conv=>whnf
 refine LoadNG.at (vs := uvs (addL (amtQ find (runQ find R m).2 (balKey m to)).1.1 a)) rfl (.tl .all) ?_
 conv=>whnf
 refine CallG.of (pre := [stR 75 s src (layTokQ find (amtQ find (runQ find R m).2 (balKey m to)).2 m ({ (runQ find R m).1.1 with sup := addL (runQ find R m).1.1.sup a } : TokD)).2]) (rest := [cel b12 38 (uvs (addL (amtQ find (runQ find R m).2 (balKey m to)).1.1 a)), cel b9 61 ({ (runQ find R m).1.1 with sup := addL (runQ find R m).1.1.sup a } : TokD).cells, cel b7 38 (uvs a), cel b6 35 (bvs to)]) (lay_q _ s src _ (balKey m to) _ rfl (hs.left _) hz) (Ent.refl _) ?_
 rintro _ _ ⟨rfl, rfl⟩
 conv=>whnf
 refine ⟨_, Ent.sel (T := []) (A := [_, _, _, _, _]) [0] rfl, ?_⟩
 unfold mintQ mintA lay2Q
 rw [if_neg h1', if_neg h2, em, if_neg h3', if_neg h4, if_neg h5', if_neg (show ¬ _ ≠ (0 : Int) from fun h => h h6)]
 exact ⟨rfl, rfl⟩
end
end Go.Proofs.YtjacolfhlfogkabGreatDoor
