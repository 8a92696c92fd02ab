import Derived.Test.YtmfonkklmndhjaaGreatDoorRc
import Derived.Test.YtmfonkklmndhjaaGreatDoorZWl
import Derived.Test.YtmfonkklmndhjaaGreatDoorZCp
import Derived.Test.YtmfonkklmndhjaaGreatDoorZLv
namespace Go.Proofs.YtmfonkklmndhjaaGreatDoor
open Go Go.Sl
theorem bytesT : ElT Tryz.prog 22 5 1 1 := .of (by kernel_rfl)
theorem short_spec (F : List HP) (v : Value) (bs : List Nat) (hl : bs.length < 256) (hv : RdS F v bs.length (bvs bs)) :
 SpecF Tryz.prog 61 [v] F [] (fun r L => ∃ n, n = (shortL bs).length ∧ SlV r n ∧ L = [own 1 r n (bvs (shortL bs))]) := by
 refine fun61.spec rfl ?_
 conv=>whnf
 refine LoopG.mk (fun m e L => ∃ v k, k ≤ bs.length ∧ m = bs.length - k ∧ e = [(0, v)] ∧ L = [] ∧ strip bs = strip (bs.drop k) ∧ RdS F v (bs.length - k) (bvs (bs.drop k))) bs.length [(0, v)] [] ⟨rfl, trivial⟩ (Ent.refl _) ⟨v, 0, by omega, rfl, rfl, rfl, rfl, by simpa using hv⟩ ?_
 rintro m e L ⟨v, k, hk, rfl, rfl, rfl, hst, hv⟩
 conv=>whnf
 refine LenG.rd hv ?_
 conv=>whnf
 refine CondG.dec (fun h => ?_) (fun h => ?_)
 ·(conv=>whnf);refine .tt ?_;(conv=>whnf)
  refine IdxG.rd hv (by omega) fun b o hc => ?_
  (conv=>whnf);refine .tt ?_;(conv=>whnf)
  have hlt : k < bs.length := by omega
  have hd : bs.drop k = bs[k] :: bs.drop (k + 1) := List.drop_eq_getElem_cons hlt
  refine LoadG.atF (hc.one (i := 0) (u := bv bs[k]) (by rw [hd]; rfl)) ?_
  (conv=>whnf);refine .tt ?_;(conv=>whnf);refine .tt ?_;(conv=>whnf)
  refine CondG.dec (fun h0 => ?_) (fun h0 => ?_)
  ·conv=>whnf
   refine SlcG.rd hv fun a cap ha hn => ?_
   subst ha
   conv=>whnf
   refine SideG.of (by omega) ?_
   conv=>whnf
   refine SliceG.rd (n := bs.length - k) hv (by simp; omega) (by simp) (by simp; omega) (by simp) fun v' hv' _ => ?_
   conv=>whnf
   have h0' : bs[k] = 0 := by simpa using h0
   refine ⟨bs.length - (k + 1), [(0, v')], [], by omega, ⟨rfl, trivial⟩, Ent.refl _, v', k + 1, by omega, rfl, rfl, rfl, ?_, ?_⟩
   ·rw [hst, hd, h0']
    rfl
   ·have e1 : (((bs.length - k : Nat) : Int).toNat - (1 : Int).toNat) = bs.length - (k + 1) := by simp; omega
    rw [e1] at hv'
    have e2 : (bvs (bs.drop k)).drop ((1 : Int).toNat * 1) = bvs (bs.drop (k + 1)) := by rw [hd]; rfl
    rw [e2, List.take_of_length_le (by simp [bvs])] at hv'
    exact hv'
  have hs2 : strip bs = bs.drop k := by
   have : ¬ bs[k] = 0 := by simpa using h0
   rw [hst, hd]
   exact strip_cons this
  conv=>whnf
  all_goals
   (refine LenG.rd hv ?_
    conv=>whnf
    refine ArithG.u8 (by omega) ?_
    conv=>whnf
    refine BuildG.of rfl ?_
    conv=>whnf
    intro b1
    conv=>whnf
    refine DoesG.ent (own_of_cel (sz := 1) (n := 1) rfl (by decide)) ?_
    refine app_own bytesT 22 (hv.tl) (by simp [bvs]) (bvs_one _) (by simp only [maxLen]; omega) (by omega) fun r hr hlen hnil => ?_
    conv=>whnf
    refine ret_here ⟨_, ?_, hr, ?_⟩
    ·simp [shortL, hs2]; omega
    ·simp only [shortL, hs2, List.length_drop]; rfl)
 ·have hs2 : strip bs = bs.drop k := by
   rw [hst]
   rw [List.drop_eq_nil_of_le (by omega)]
   rfl
  (conv=>whnf);refine .ff ?_;(conv=>whnf);refine .ff ?_;(conv=>whnf);refine .ff ?_;(conv=>whnf);refine .ff ?_;(conv=>whnf);refine .ff ?_;(conv=>whnf)
  all_goals
   (refine LenG.rd hv ?_
    conv=>whnf
    refine ArithG.u8 (by omega) ?_
    conv=>whnf
    refine BuildG.of rfl ?_
    conv=>whnf
    intro b1
    conv=>whnf
    refine DoesG.ent (own_of_cel (sz := 1) (n := 1) rfl (by decide)) ?_
    refine app_own bytesT 22 (hv.tl) (by simp [bvs]) (bvs_one _) (by simp only [maxLen]; omega) (by omega) fun r hr hlen hnil => ?_
    conv=>whnf
    refine ret_here ⟨_, ?_, hr, ?_⟩
    ·simp [shortL, hs2]; omega
    ·simp only [shortL, hs2, List.length_drop]; rfl)
theorem form_spec (F : List HP) (n : Nat) (hn : n < 9223372036854775808) :
 SpecF Tryz.prog 60 [.int .i64 n] F [] (fun r L => ∃ k, k = (shortL (be n 8)).length ∧ SlV r k ∧ L = [own 1 r k (bvs (shortL (be n 8)))]) := by
 refine fun60.spec rfl ?_
 conv=>whnf
 intro b
 conv=>whnf
 refine LoopG.mk (fun m e L => ∃ i, i ≤ 8 ∧ m = 8 - i ∧ e = [(0, .int .i64 n), (3, .pointer (some ⟨b, 0, none⟩)), (5, .int .i64 i)] ∧ L = [cel b 154 (bvs (fillB (fun i => n / 256 ^ (7 - i) % 256) 8 i))]) 8
  [(0, .int .i64 n), (3, .pointer (some ⟨b, 0, none⟩)), (5, .int .i64 0)] _ ⟨rfl, rfl, rfl, trivial⟩ (Ent.refl _) ⟨0, by omega, rfl, rfl, by rw [fillB_zero]; rfl⟩ ?_
 rintro m e L ⟨i, hi, rfl, rfl, rfl⟩
 conv=>whnf
 refine CondG.dec (fun h => ?_) (fun h => ?_)
 ·have hi8 : i < 8 := by omega
  conv=>whnf
  refine ArithG.i64 (by omega) ?_
  conv=>whnf
  refine ArithG.i64 (by omega) ?_
  conv=>whnf
  refine SideG.of (by omega) ?_
  conv=>whnf
  refine ArithG.all ?_
  conv=>whnf
  refine SideG.of (by omega) ?_
  conv=>whnf
  have e1 := shr_be n i hi8
  refine StoreG.at rfl (Upd.here (by simp [bvs_len, fillB_len]; omega) rfl) ?_
  conv=>whnf
  refine ArithG.i64 (by omega) ?_
  conv=>whnf
  refine ⟨8 - (i + 1), _, _, by omega, ?_, Ent.refl _, i + 1, by omega, rfl, rfl, ?_⟩
  ·exact ⟨rfl, rfl, rfl, trivial⟩
  rw [← fillB_set _ hi8]
  have e2 : (0 : Nat) + (i : Int).toNat * 1 = i := by simp
  rw [e2]
  show [cel b 154 ((bvs (fillB (fun i => n / 256 ^ (7 - i) % 256) 8 i)).set i (.int .u8 (IntKind.u8.wrap ((n : Int).fdiv (2 ^ (min (56 - 8 * (i : Int)).toNat 64))))))] = _
  rw [e1]
  rfl
 ·obtain rfl : i = 8 := by omega
  conv=>whnf
  refine SideG.of (by decide) ?_
  conv=>whnf
  refine SliceG.zero ?_
  conv=>whnf
  rw [fillB_all, be_range n 8]
  refine CallG.pure (short_spec _ _ (be n 8) (by rw [be_len]; decide) ?_) ?_
  ·rw [be_len]
   exact .mk _ _ _ _ _ (by decide) (CelN.all.left F)
  ·rintro r L ⟨k, hk, hr, rfl⟩
   conv=>whnf
   exact ⟨_, Ent.dropL [own 1 r k (bvs (shortL (be n 8)))] [cel b 154 (bvs (be n 8))], _, hk, hr, rfl⟩
theorem clone_spec (F : List HP) (v : Value) (bs : List Nat) (hm : bs.length ≤ 4398046511104) (hv : RdS F v bs.length (bvs bs)) :
 SpecF Tryz.prog 54 [v] F [] (fun r L => SlV r bs.length ∧ L = [own 1 r bs.length (bvs bs)] ∧ (r = .slice none 0 0 ↔ v = .slice none 0 0)) := by
 refine fun54.spec rfl ?_
 conv=>whnf
 refine NilG.rd hv fun b hb => ?_
 conv=>whnf
 refine CondG.split (fun h => ?_) (fun h => ?_)
 ·have e := hb.1 h
  subst e
  have hz : bs = [] := by
   exact List.eq_nil_of_length_eq_zero (hv.nilE rfl).1
  subst hz
  conv=>whnf
  refine ⟨[own 1 (.slice none 0 0) 0 []], fun w G hs => Sat.own_nil hs, ?_⟩
  exact ⟨.inl ⟨rfl, rfl⟩, rfl, by simp [retV]⟩
 ·conv=>whnf
  refine BuildG.of rfl ?_
  conv=>whnf
  intro b1
  conv=>whnf
  refine DoesG.ent (own_of_cel (sz := 1) (n := 0) rfl (by decide)) ?_
  refine app_own bytesT 22 (hv.tl) (by simp [bvs]) (bvs_one _) (by simp only [maxLen]; omega) (by omega) fun r hr hlen hnil => ?_
  conv=>whnf
  refine ret_here ⟨?_, ?_, ?_⟩
  ·simpa [retV] using hr
  ·simp [retV]
  ·have : ¬ v = .slice none 0 0 := fun e => by rw [hb.2 e] at h; cases h
   simp [retV, this, hnil]
theorem newWriter_spec (F : List HP) : SpecF Tryz.prog 31 [] F [] (fun r L => ∃ p, r = .pointer (some ⟨p, 0, none⟩) ∧ L = [own 1 (.slice none 0 0) 0 (bvs []), cel p 131 [.slice none 0 0, .int .i64 0]]) := by
 refine fun31.spec rfl ?_
 conv=>whnf
 refine BuildG.of rfl ?_
 conv=>whnf
 intro p
 conv=>whnf
 exact ⟨_, fun w G hs => Sat.own_nil hs, p, rfl, rfl⟩
structure RdParts (F : List HP) (v : Value) (ps : List (List Nat)) : Prop where
 out : ∃ us : List Value, RdS F v ps.length us ∧ us.length = ps.length ∧ ∀ i (h : i < ps.length), ∃ u, us[i]? = some u ∧ RdS F u (ps[i].length) (bvs ps[i])
theorem RdParts.one {F : List HP} {b : Nat} {t : TypeId} {u : Value} {bs : List Nat} (hu : RdS F u bs.length (bvs bs)) : RdParts (cel b t [u] :: F) (.slice (some ⟨b, 0, none⟩) 1 1) [bs] :=
 ⟨[u], .mk _ _ _ _ _ (Nat.le_refl _) .all, rfl, fun i h => by
  obtain rfl : i = 0 := by simpa using h
  exact ⟨u, rfl, hu.tl⟩⟩
def sumL (ps : List (List Nat)) : Nat := ps.flatten.length
theorem sum_take {ps : List (List Nat)} {i : Nat} (h : i < ps.length) : sumL (ps.take (i + 1)) = sumL (ps.take i) + ps[i].length := by
 simp only [sumL, List.take_succ_eq_append_getElem h, List.flatten_append, List.flatten_cons, List.flatten_nil, List.append_nil, List.length_append]
theorem sum_le (ps : List (List Nat)) (i : Nat) : sumL (ps.take i) ≤ sumL ps := by
 have : ps.flatten = (ps.take i).flatten ++ (ps.drop i).flatten := by rw [← List.flatten_append, List.take_append_drop]
 simp only [sumL, this, List.length_append]; omega
theorem partsT : ElT Tryz.prog 59 22 1 24 := .of (by kernel_rfl)
theorem lay_spec (F : List HP) (p : Nat) (u v : Value) (bs : List Nat) (e : Int) (ps : List (List Nat)) (hb : bs.length ≤ 4194304) (hp : sumL ps < 1152921504606846976) (hn : ps.length < 1152921504606846976) (hv : RdParts F v ps) :
 SpecF Tryz.prog 59 [.pointer (some ⟨p, 0, none⟩), v] F [own 1 u bs.length (bvs bs), cel p 131 [u, .int .i64 e]]
  (fun _ L => ∃ u', L = [own 1 u' (layB bs e ps.flatten).length (bvs (layB bs e ps.flatten)), cel p 131 [u', .int .i64 (layE bs e ps.flatten)]]) := by
 obtain ⟨us, hus, hul, hps⟩ := hv.out
 refine SpecF.ownV 0 rfl fun hsl hlen => ?_
 refine fun59.spec rfl ?_
 conv=>whnf
 refine LoadG.at (.tl (.here rfl)) ?_
 conv=>whnf
 refine LenG.sl hsl ?_
 conv=>whnf
 refine LenG.rd hus ?_
 conv=>whnf
 refine LoopG.mk (fun m ev L => ∃ i, i ≤ ps.length ∧ m = ps.length - i ∧ ev = [(0, .pointer (some ⟨p, 0, none⟩)), (1, v), (4, .int .i64 ((bs.length + sumL (ps.take i) : Nat))), (14, v), (15, .int .i64 ps.length), (16, .int .i64 i)] ∧
  L = [own 1 u bs.length (bvs bs), cel p 131 [u, .int .i64 e]]) ps.length
  [(0, .pointer (some ⟨p, 0, none⟩)), (1, v), (4, .int .i64 (bs.length : Nat)), (14, v), (15, .int .i64 ps.length), (16, .int .i64 0)] _ ⟨rfl, rfl, rfl, rfl, rfl, rfl, trivial⟩ (Ent.refl _) ⟨0, by omega, rfl, rfl, rfl⟩ ?_
 rintro m ev L ⟨i, hi, rfl, rfl, rfl⟩
 conv=>whnf
 refine CondG.dec (fun h => ?_) (fun h => ?_)
 ·have hi' : i < ps.length := by omega
  obtain ⟨x, hx, hxr⟩ := hps i hi'
  conv=>whnf
  refine IdxG.rd hus (by omega) fun b o hc => ?_
  conv=>whnf
  refine LoadG.atF (v := x) (hc.one (i := (i : Int).toNat * 1) (by simpa using hx)) ?_
  conv=>whnf
  refine LenG.rd hxr ?_
  conv=>whnf
  have hle := sum_le ps (i + 1)
  have hst := sum_take hi'
  refine ArithG.i64 (by omega) ?_
  conv=>whnf
  refine ArithG.i64 (by omega) ?_
  conv=>whnf
  refine ⟨ps.length - (i + 1), _, _, by omega, ?_, Ent.refl _, i + 1, by omega, rfl, rfl, rfl⟩
  refine ⟨rfl, rfl, ?_, rfl, rfl, rfl, trivial⟩
  rw [hst, ← Nat.add_assoc]
  rfl
 ·obtain rfl : i = ps.length := by omega
  rw [List.take_length]
  conv=>whnf
  refine LoadG.at (.tl (.here rfl)) ?_
  conv=>whnf
  refine CondG.ndec (fun he => ?_) (fun he => ?_)
  ·conv=>whnf
   refine ret_here ⟨u, ?_⟩
   simp [layB, layE, he]
  ·subst he
   conv=>whnf
   refine CondG.dec (fun hg => ?_) (fun hg => ?_)
   ·have hg' : 4194304 < bs.length + sumL ps := by omega
    conv=>whnf
    refine StoreG.at rfl (Upd.tl (Upd.here (by simp) rfl)) ?_
    conv=>whnf
    refine ret_here ⟨u, ?_⟩
    have h1 : layB bs 0 ps.flatten = bs := by simp only [layB]; rw [if_neg (by simp only [sumL] at hg'; omega)]
    have h2 : layE bs 0 ps.flatten = 30 := by unfold layE; rw [if_pos rfl, if_pos (by simpa only [sumL] using hg')]
    rw [h1, h2]
    rfl
   ·have hg' : bs.length + sumL ps ≤ 4194304 := by omega
    conv=>whnf
    refine LenG.rd hus ?_
    conv=>whnf
    refine LoopG.mk (fun m ev L => ∃ i u', i ≤ ps.length ∧ m = ps.length - i ∧ ev = [(0, .pointer (some ⟨p, 0, none⟩)), (25, v), (26, .int .i64 ps.length), (27, .int .i64 i)] ∧
     L = [own 1 u' (bs ++ (ps.take i).flatten).length (bvs (bs ++ (ps.take i).flatten)), cel p 131 [u', .int .i64 0]]) ps.length
     [(0, .pointer (some ⟨p, 0, none⟩)), (25, v), (26, .int .i64 ps.length), (27, .int .i64 0)] _ ⟨rfl, rfl, rfl, rfl, trivial⟩ (Ent.refl _) ⟨0, u, by omega, rfl, rfl, by simp⟩ ?_
    rintro m ev L ⟨i, u', hi, rfl, rfl, rfl⟩
    conv=>whnf
    refine CondG.dec (fun h => ?_) (fun h => ?_)
    ·have hi' : i < ps.length := by omega
     obtain ⟨x, hx, hxr⟩ := hps i hi'
     have hle := sum_le ps (i + 1)
     have hst := sum_take hi'
     conv=>whnf
     refine IdxG.rd hus (by omega) fun b o hc => ?_
     conv=>whnf
     refine LoadG.atF (v := x) (hc.one (i := (i : Int).toNat * 1) (by simpa using hx)) ?_
     conv=>whnf
     refine LoadG.at (.tl (.here rfl)) ?_
     conv=>whnf
     have hl1 : (bs ++ (ps.take i).flatten).length + ps[i].length ≤ 4194304 := by
      simp only [List.length_append]
      simp only [sumL] at *
      omega
     refine app_own bytesT 22 (hxr.right _ |>.tl) (by simp [bvs]) (bvs_one _) (by simp only [maxLen]; omega) (by omega) fun r hr hlen hnil => ?_
     obtain ⟨ra, rc, rfl⟩ := hr.len
     conv=>whnf
     refine StoreG.at rfl (Upd.tl (Upd.here (by simp) rfl)) ?_
     conv=>whnf
     refine ArithG.i64 (by omega) ?_
     conv=>whnf
     refine ⟨ps.length - (i + 1), _, _, by omega, ?_, Ent.refl _, i + 1, .slice ra ((bs ++ (ps.take i).flatten).length + ps[i].length) rc, by omega, rfl, rfl, ?_⟩
     ·exact ⟨rfl, rfl, rfl, rfl, trivial⟩
     ·have e2 : bs ++ (ps.take (i + 1)).flatten = (bs ++ (ps.take i).flatten) ++ ps[i] := by
       rw [List.take_succ_eq_append_getElem hi', List.flatten_append]; simp
      have e3 : ((bs ++ (ps.take i).flatten) ++ ps[i]).length = (bs ++ (ps.take i).flatten).length + ps[i].length := List.length_append
      rw [e2, e3, ← bvs_append (bs ++ (ps.take i).flatten)]
      rfl
    ·obtain rfl : i = ps.length := by omega
     rw [List.take_length]
     conv=>whnf
     refine ret_here ⟨u', ?_⟩
     have h1 : layB bs 0 ps.flatten = bs ++ ps.flatten := by unfold layB; rw [if_pos ⟨rfl, hg'⟩]
     have h2 : layE bs 0 ps.flatten = 0 := by unfold layE; rw [if_pos rfl, if_neg (by simp only [sumL] at hg'; omega)]
     rw [h1, h2]
theorem byte_spec (F : List HP) (p : Nat) (u : Value) (bs : List Nat) (e : Int) (b : Nat) (hb : bs.length ≤ 4194304) :
 SpecF Tryz.prog 32 [.pointer (some ⟨p, 0, none⟩), .int .u8 b] F [own 1 u bs.length (bvs bs), cel p 131 [u, .int .i64 e]]
  (fun _ L => ∃ u', L = [own 1 u' (layB bs e [b]).length (bvs (layB bs e [b])), cel p 131 [u', .int .i64 (layE bs e [b])]]) := by
 refine fun32.spec rfl ?_
 conv=>whnf
 refine BuildG.of rfl ?_
 conv=>whnf
 intro b1
 conv=>whnf
 refine BuildG.of rfl ?_
 conv=>whnf
 intro b2
 conv=>whnf
 refine CallG.of (rest := [cel b2 22 [.slice (some ⟨b1, 0, none⟩) 1 1], cel b1 5 [.int .u8 b]]) (lay_spec _ p u _ bs e [[b]] hb (by simp [sumL]) (by simp) (RdParts.one (.mk _ _ _ _ _ (by simp) (.all)))) (Ent.perm ?_) ?_
 ·exact List.perm_append_comm (l₁ := [cel b2 22 [.slice (some ⟨b1, 0, none⟩) 1 1], cel b1 5 [.int .u8 b]])
 ·rintro v L ⟨u', rfl⟩
  conv=>whnf
  exact ⟨_, Ent.dropL [own 1 u' (layB bs e [b]).length (bvs (layB bs e [b])), cel p 131 [u', .int .i64 (layE bs e [b])]] _, u', rfl⟩
theorem number_spec (F : List HP) (p : Nat) (u : Value) (bs : List Nat) (e : Int) (n : Nat) (hb : bs.length ≤ 4194304) (hn : n < 9223372036854775808) :
 SpecF Tryz.prog 33 [.pointer (some ⟨p, 0, none⟩), .int .i64 n] F [own 1 u bs.length (bvs bs), cel p 131 [u, .int .i64 e]]
  (fun _ L => ∃ u', L = [own 1 u' (layB bs e (shortL (be n 8))).length (bvs (layB bs e (shortL (be n 8)))), cel p 131 [u', .int .i64 (layE bs e (shortL (be n 8)))]]) := by
 refine fun33.spec rfl ?_
 conv=>whnf
 refine CondG.decF (by omega) ?_
 conv=>whnf
 refine CallG.pure (form_spec _ n hn) ?_
 rintro r L ⟨k, hk, hr, rfl⟩
 subst hk
 obtain ⟨ra, rc, hre⟩ := hr.len
 subst hre
 conv=>whnf
 refine BuildG.of rfl ?_
 conv=>whnf
 intro b2
 conv=>whnf
 have hx := short_len (be n 8)
 rw [be_len] at hx
 refine CallG.of (rest := [cel b2 22 [.slice ra (shortL (be n 8)).length rc], own 1 (.slice ra (shortL (be n 8)).length rc) (shortL (be n 8)).length (bvs (shortL (be n 8)))]) (lay_spec _ p u _ bs e [shortL (be n 8)] hb (by simp only [sumL, List.flatten_cons, List.flatten_nil, List.append_nil]; omega) (by simp) (RdParts.one (own_rd hr (by simp [bvs])))) (Ent.perm ?_) ?_
 ·exact List.perm_append_comm (l₁ := [cel b2 22 [.slice ra (shortL (be n 8)).length rc], own 1 (.slice ra (shortL (be n 8)).length rc) (shortL (be n 8)).length (bvs (shortL (be n 8)))])
 ·rintro v L ⟨u', rfl⟩
  simp only [List.flatten_cons, List.flatten_nil, List.append_nil]
  conv=>whnf
  exact ⟨_, Ent.dropL [own 1 u' (layB bs e (shortL (be n 8))).length (bvs (layB bs e (shortL (be n 8)))), cel p 131 [u', .int .i64 (layE bs e (shortL (be n 8)))]] _, u', rfl⟩
theorem address_spec (F : List HP) (p : Nat) (u : Value) (bs : List Nat) (e : Int) (a : List Nat) (hb : bs.length ≤ 4194304) (ha : a.length = 20) :
 SpecF Tryz.prog 34 [.pointer (some ⟨p, 0, none⟩), .agg ⟨bvs a⟩] F [own 1 u bs.length (bvs bs), cel p 131 [u, .int .i64 e]]
  (fun _ L => ∃ u', L = [own 1 u' (layB bs e a).length (bvs (layB bs e a)), cel p 131 [u', .int .i64 (layE bs e a)]]) := by
 refine fun34.spec rfl ?_
 conv=>whnf
 intro b1
 conv=>whnf
 refine SideG.of (by decide) ?_
 conv=>whnf
 refine SliceG.zero ?_
 conv=>whnf
 refine BuildG.of rfl ?_
 conv=>whnf
 intro b2
 conv=>whnf
 refine CallG.of (rest := [cel b2 22 [.slice (some ⟨b1, 0, none⟩) 20 20], cel b1 40 (bvs a)]) (lay_spec _ p u _ bs e [a] hb (by simp [sumL, ha]) (by simp) (RdParts.one (by rw [ha]; exact .mk _ _ _ _ _ (by simp) (.all)))) (Ent.perm ?_) ?_
 ·exact List.perm_append_comm (l₁ := [cel b2 22 [.slice (some ⟨b1, 0, none⟩) 20 20], cel b1 40 (bvs a)])
 ·rintro v L ⟨u', rfl⟩
  simp only [List.flatten_cons, List.flatten_nil, List.append_nil]
  conv=>whnf
  exact ⟨_, Ent.dropL [own 1 u' (layB bs e a).length (bvs (layB bs e a)), cel p 131 [u', .int .i64 (layE bs e a)]] _, u', rfl⟩
theorem done_spec (F : List HP) (p : Nat) (u : Value) (bs : List Nat) (e : Int) (hb : bs.length ≤ 4194304) :
 SpecF Tryz.prog 36 [.pointer (some ⟨p, 0, none⟩)] F [own 1 u bs.length (bvs bs), cel p 131 [u, .int .i64 e]]
  (fun r L => ∃ r', SlV r' (if e = 0 then bs else []).length ∧ r = .tuple #[r', .int .i64 e] ∧ L = [own 1 r' (if e = 0 then bs else []).length (bvs (if e = 0 then bs else []))]) := by
 refine SpecF.ownV 0 rfl fun hsl hlen => ?_
 refine fun36.spec rfl ?_
 conv=>whnf
 refine LoadG.at (.tl (.here rfl)) ?_
 conv=>whnf
 refine CondG.ndec (fun he => ?_) (fun he => ?_)
 ·conv=>whnf
  refine DrawG.mk 6 [cel p 131 [u, .int .i64 e]] [own 1 u bs.length (bvs bs)] (Ent.refl _) ?_
  conv=>whnf
  refine .take 0 ?_
  conv=>whnf
  refine ⟨rfl, ?_⟩
  conv=>whnf
  refine .take 1 ?_
  conv=>whnf
  refine ⟨rfl, ?_⟩
  conv=>whnf
  refine .take 2 ?_
  conv=>whnf
  refine ⟨rfl, ?_⟩
  conv=>whnf
  refine .take 3 ?_
  conv=>whnf
  refine ⟨rfl, ?_⟩
  conv=>whnf
  refine LoadG.at (.here rfl) ?_
  conv=>whnf
  refine .take 4 ?_
  conv=>whnf
  refine ⟨rfl, ?_⟩
  conv=>whnf
  refine .take 5 ?_
  conv=>whnf
  refine ⟨rfl, ?_⟩
  conv=>whnf
  refine ⟨rfl, ?_⟩
  conv=>whnf
  refine ⟨[own 1 (.slice none 0 0) 0 []], fun w G hs => Sat.own_nil hs.right, .slice none 0 0, ?_⟩
  rw [if_neg he]
  exact ⟨.inl ⟨rfl, rfl⟩, rfl, rfl⟩
 ·subst he
  conv=>whnf
  refine LoadG.at (.tl (.here rfl)) ?_
  conv=>whnf
  refine CallG.pure (clone_spec _ u bs (by omega) ((own_rd hsl (by simp [bvs])).left F)) ?_
  rintro r L ⟨hr, rfl, hn⟩
  conv=>whnf
  exact ⟨_, Ent.dropL [own 1 r bs.length (bvs bs)] _, r, hr, rfl, rfl⟩
theorem wide_spec (F : List HP) (p : Nat) (u : Value) (bs : List Nat) (e : Int) (ws : List Nat) (hb : bs.length ≤ 4194304) (hw : ws.length = 4) :
 SpecF Tryz.prog 35 [.pointer (some ⟨p, 0, none⟩), .agg ⟨uvs ws⟩] F [own 1 u bs.length (bvs bs), cel p 131 [u, .int .i64 e]]
  (fun _ L => ∃ u', L = [own 1 u' (layB bs e (shortL (wideB ws))).length (bvs (layB bs e (shortL (wideB ws)))), cel p 131 [u', .int .i64 (layE bs e (shortL (wideB ws)))]]) := by
 refine fun35.spec rfl ?_
 conv=>whnf
 intro b3
 conv=>whnf
 intro b4
 conv=>whnf
 refine LoopG.mk (fun m ev L => ∃ i, i ≤ 32 ∧ m = 32 - i ∧ ev = [(0, .pointer (some ⟨p, 0, none⟩)), (3, .pointer (some ⟨b3, 0, none⟩)), (4, .pointer (some ⟨b4, 0, none⟩)), (6, .int .i64 i)] ∧
  L = [cel b4 80 (bvs (fillB (fun i => ws.getD (3 - i / 8) 0 / 256 ^ (7 - i % 8) % 256) 32 i)), cel b3 43 (uvs ws), own 1 u bs.length (bvs bs), cel p 131 [u, .int .i64 e]]) 32
  [(0, .pointer (some ⟨p, 0, none⟩)), (3, .pointer (some ⟨b3, 0, none⟩)), (4, .pointer (some ⟨b4, 0, none⟩)), (6, .int .i64 0)] _ ⟨rfl, rfl, rfl, rfl, trivial⟩ (Ent.refl _) ⟨0, by omega, rfl, rfl, by rw [fillB_zero]; rfl⟩ ?_
 rintro m ev L ⟨i, hi, rfl, rfl, rfl⟩
 conv=>whnf
 refine CondG.dec (fun h => ?_) (fun h => ?_)
 ·have hi' : i < 32 := by omega
  have hq : (i : Int).tdiv 8 = ((i / 8 : Nat) : Int) := rfl
  have hr : (i : Int).tmod 8 = ((i % 8 : Nat) : Int) := rfl
  conv=>whnf
  refine SideG.of (by decide) ?_
  conv=>whnf
  refine ArithG.i64' _ hq (by omega) ?_
  conv=>whnf
  refine ArithG.i64 (by omega) ?_
  conv=>whnf
  refine SideG.of (by omega) ?_
  conv=>whnf
  have hg : (uvs ws)[0 + (3 - ((i / 8 : Nat) : Int)).toNat * 1]? = some (uv (ws.getD (3 - i / 8) 0)) := by
   have e1 : 0 + (3 - ((i / 8 : Nat) : Int)).toNat * 1 = 3 - i / 8 := by omega
   rw [e1]
   have hlt : 3 - i / 8 < ws.length := by omega
   simp [uvs, List.getD, List.getElem?_eq_getElem hlt]
  refine LoadG.at (v := uv (ws.getD (3 - i / 8) 0)) (.tl (.here hg)) ?_
  conv=>whnf
  refine SideG.of (by decide) ?_
  conv=>whnf
  rw [hr]
  refine ArithG.i64 (by omega) ?_
  conv=>whnf
  refine ArithG.i64 (by omega) ?_
  conv=>whnf
  refine SideG.of (by omega) ?_
  conv=>whnf
  refine ArithG.all ?_
  conv=>whnf
  refine SideG.of (by omega) ?_
  conv=>whnf
  have e1 := shr_be (ws.getD (3 - i / 8) 0) (i % 8) (by omega)
  refine StoreG.at rfl (Upd.here (by simp [bvs_len, fillB_len]; omega) rfl) ?_
  conv=>whnf
  refine ArithG.i64 (by omega) ?_
  conv=>whnf
  refine ⟨32 - (i + 1), _, _, by omega, ?_, Ent.refl _, i + 1, by omega, rfl, rfl, ?_⟩
  ·exact ⟨rfl, rfl, rfl, rfl, trivial⟩
  rw [← fillB_set _ hi']
  have e2 : (0 : Nat) + (i : Int).toNat * 1 = i := by simp
  rw [e2]
  rw [← show ((bvs (fillB (fun i => ws.getD (3 - i / 8) 0 / 256 ^ (7 - i % 8) % 256) 32 i)).set i (.int .u8 (IntKind.u8.wrap (((ws.getD (3 - i / 8) 0 : Nat) : Int).fdiv (2 ^ (min (56 - 8 * ((i % 8 : Nat) : Int)).toNat 64)))))) = (bvs (fillB (fun i => ws.getD (3 - i / 8) 0 / 256 ^ (7 - i % 8) % 256) 32 i)).set i (bv (ws.getD (3 - i / 8) 0 / 256 ^ (7 - i % 8) % 256)) by rw [e1]; rfl]
  rfl
 ·obtain rfl : i = 32 := by omega
  conv=>whnf
  refine SideG.of (by decide) ?_
  conv=>whnf
  refine SliceG.zero ?_
  conv=>whnf
  rw [fillB_all]
  refine CallG.pure (short_spec _ _ (wideB ws) (by rw [wide_len]; decide) ?_) ?_
  ·rw [wide_len]
   exact .mk _ _ _ _ _ (by decide) (CelN.all.left F)
  ·rintro r L ⟨k, hk, hr, rfl⟩
   subst hk
   obtain ⟨ra, rc, hre⟩ := hr.len
   subst hre
   conv=>whnf
   refine BuildG.of rfl ?_
   conv=>whnf
   intro b2
   conv=>whnf
   have hx := short_len (wideB ws)
   rw [wide_len] at hx
   refine CallG.of (rest := [cel b2 22 [.slice ra (shortL (wideB ws)).length rc], own 1 (.slice ra (shortL (wideB ws)).length rc) (shortL (wideB ws)).length (bvs (shortL (wideB ws))), cel b4 80 (bvs (wideB ws)), cel b3 43 (uvs ws)])
    (lay_spec _ p u _ bs e [shortL (wideB ws)] hb (by simp only [sumL, List.flatten_cons, List.flatten_nil, List.append_nil]; omega) (by simp) (RdParts.one (own_rd hr (by simp [bvs])))) (Ent.perm ?_) ?_
   ·exact List.perm_append_comm (l₁ := [cel b2 22 [.slice ra (shortL (wideB ws)).length rc], own 1 (.slice ra (shortL (wideB ws)).length rc) (shortL (wideB ws)).length (bvs (shortL (wideB ws))), cel b4 80 (bvs (wideB ws)), cel b3 43 (uvs ws)])
   ·rintro v L ⟨u', rfl⟩
    simp only [List.flatten_cons, List.flatten_nil, List.append_nil]
    conv=>whnf
    exact ⟨_, Ent.dropL [own 1 u' (layB bs e (shortL (wideB ws))).length (bvs (layB bs e (shortL (wideB ws)))), cel p 131 [u', .int .i64 (layE bs e (shortL (wideB ws)))]] _, u', rfl⟩
theorem isZero_spec (F : List HP) (ws : List Nat) (hw : ws.length = 4) : SpecF Tryz.prog 58 [.agg ⟨uvs ws⟩] F [] (fun r L => r = .bool (decide (ws = List.replicate 4 0)) ∧ L = []) := by
 refine fun58.spec rfl ?_
 conv=>whnf
 intro b
 conv=>whnf
 refine LoadNG.at (vs := uvs ws) (by simp [uvs, hw]) .all ?_
 conv=>whnf
 refine BuildG.of rfl ?_
 conv=>whnf
 refine DoesG.eqv 4 (List.replicate 4 (.int .u64)) (by kernel_rfl) (by decide) (by kernel_rfl) (by kernel_rfl) (wt_uvs hw) (wt_uvs (ws := List.replicate 4 0) rfl) ?_
 conv=>whnf
 exact ⟨[], Ent.nil _, congrArg Value.bool (decide_eq_decide.2 (uvs_inj (m := List.replicate 4 0))), rfl⟩
end Go.Proofs.YtmfonkklmndhjaaGreatDoor
namespace Go.Proofs.YtmfonkklmndhjaaGreatDoor
open Go Go.Sl
theorem rot_spec (F : List HP) (x : W32) (k : Int) (s : Nat) (hk : IntKind.u64.wrap ((BitVec.ofInt IntKind.u64.bits (IntKind.u64.wrap k) &&& BitVec.ofInt IntKind.u64.bits (31 : Int)).toNat : Int) = (s : Int)) (hs : s ≤ 32) :
 SpecF Tryz.prog 137 [wv x, .int .i64 k] F [] (fun v L => v = wv (rotl x s) ∧ L = []) := by
 refine fun137.spec rfl ?_
 conv=>whnf
 refine ArithG.all ?_
 conv=>whnf
 rw [hk]
 refine SideG.of (by omega) ?_
 have e1 : min ((s : Int)).toNat 32 = s := by omega
 refine ArithG.w (x <<< s) (by
  show IntKind.u32.wrap ((x.toNat : Int) * 2 ^ (min ((s : Int)).toNat 32)) = _
  rw [e1]; exact w32_shl x s) ?_
 conv=>whnf
 refine ArithG.u64 (by omega) ?_
 conv=>whnf
 refine SideG.of (by omega) ?_
 conv=>whnf
 have e2 : min (32 - (s : Int)).toNat 32 = 32 - s := by omega
 have e3 : (x.toNat : Int).fdiv (2 ^ (min (32 - (s : Int)).toNat IntKind.u32.bits)) = ((x >>> (32 - s)).toNat : Int) := by
  show (x.toNat : Int).fdiv (2 ^ (min (32 - (s : Int)).toNat 32)) = _
  rw [e2]; exact w32_shr x (32 - s)
 rw [e3]
 refine ret_here ⟨?_, rfl⟩
 show Value.int .u32 _ = _
 rw [w32_or]
 rfl
theorem words_spec (F : List HP) (p : List Nat) (hp : p.length = 64) (hq : ∀ b ∈ p, b < 256) : SpecF Tryz.prog 136 [.agg ⟨bvs p⟩] F [] (fun v L => v = .agg ⟨wvs (wl p 64)⟩ ∧ L = []) := by
 have hb : ∀ i, i < 64 → p.getD i 0 < 256 := fun i hi => by
  rw [List.getD_eq_getElem?_getD, List.getElem?_eq_getElem (by omega)]
  exact hq _ (List.getElem_mem _)
 refine fun136.spec rfl ?_
 conv=>whnf
 intro b1
 conv=>whnf
 intro b2
 conv=>whnf
 intro b3
 conv=>whnf
 refine LoopG.mk (fun m e L => ∃ i, i ≤ 16 ∧ m = 16 - i ∧ e = [(1, .pointer (some ⟨b1, 0, none⟩)), (2, .pointer (some ⟨b2, 0, none⟩)), (3, .pointer (some ⟨b3, 0, none⟩)), (8, .int .i64 i)] ∧ L = [cel b3 191 (wvs (padW (wl p i) 64)), cel b2 191 (wvs (padW [] 64)), cel b1 169 (bvs p)]) 16
  [(1, .pointer (some ⟨b1, 0, none⟩)), (2, .pointer (some ⟨b2, 0, none⟩)), (3, .pointer (some ⟨b3, 0, none⟩)), (8, .int .i64 0)] _ ⟨rfl, rfl, rfl, rfl, trivial⟩ (Ent.refl _) ⟨0, by omega, rfl, rfl, rfl⟩ ?_
 rintro m e L ⟨i, hi, rfl, rfl, rfl⟩
 conv=>whnf
 refine CondG.dec (fun h => ?_) (fun h => ?_)
 ·have hi16 : i < 16 := by omega
  conv=>whnf
  refine DrawG.mk 32 [cel b1 169 (bvs p)] [cel b3 191 (wvs (padW (wl p i) 64)), cel b2 191 (wvs (padW [] 64))] (Ent.refl _) ?_
  conv=>whnf
  refine .take 0 ?_
  conv=>whnf
  refine ⟨rfl, ?_⟩
  conv=>whnf
  refine .take 1 ?_
  conv=>whnf
  refine ⟨rfl, ?_⟩
  conv=>whnf
  refine .take 2 ?_
  conv=>whnf
  refine ⟨rfl, ?_⟩
  conv=>whnf
  refine ArithG.i64 (by omega) ?_
  conv=>whnf
  refine .take 3 ?_
  conv=>whnf
  refine ⟨rfl, ?_⟩
  conv=>whnf
  refine SideG.of (by omega) ?_
  conv=>whnf
  refine .take 4 ?_
  conv=>whnf
  refine ⟨rfl, ?_⟩
  conv=>whnf
  refine LoadG.at (v := bv (p.getD (4 * i) 0)) (.here (by rw [show 0 + (4 * (i : Int)).toNat * 1 = 4 * i by omega]; exact rd_byte (by omega))) ?_
  conv=>whnf
  refine .take 5 ?_
  conv=>whnf
  refine ⟨rfl, ?_⟩
  conv=>whnf
  refine ArithG.cv (hb _ (by omega)) ?_
  conv=>whnf
  refine .take 6 ?_
  conv=>whnf
  refine ⟨rfl, ?_⟩
  conv=>whnf
  refine SideG.of (by decide) ?_
  conv=>whnf
  refine ArithG.shl _ 24 (by decide) ?_
  conv=>whnf
  refine .take 7 ?_
  conv=>whnf
  refine ⟨rfl, ?_⟩
  conv=>whnf
  refine .take 8 ?_
  conv=>whnf
  refine ⟨rfl, ?_⟩
  conv=>whnf
  refine ArithG.i64 (by omega) ?_
  conv=>whnf
  refine .take 9 ?_
  conv=>whnf
  refine ⟨rfl, ?_⟩
  conv=>whnf
  refine ArithG.i64 (by omega) ?_
  conv=>whnf
  refine .take 10 ?_
  conv=>whnf
  refine ⟨rfl, ?_⟩
  conv=>whnf
  refine SideG.of (by omega) ?_
  conv=>whnf
  refine .take 11 ?_
  conv=>whnf
  refine ⟨rfl, ?_⟩
  conv=>whnf
  refine LoadG.at (v := bv (p.getD (4 * i + 1) 0)) (.here (by rw [show 0 + (4 * (i : Int) + 1).toNat * 1 = 4 * i + 1 by omega]; exact rd_byte (by omega))) ?_
  conv=>whnf
  refine .take 12 ?_
  conv=>whnf
  refine ⟨rfl, ?_⟩
  conv=>whnf
  refine ArithG.cv (hb _ (by omega)) ?_
  conv=>whnf
  refine .take 13 ?_
  conv=>whnf
  refine ⟨rfl, ?_⟩
  conv=>whnf
  refine SideG.of (by decide) ?_
  conv=>whnf
  refine ArithG.shl _ 16 (by decide) ?_
  conv=>whnf
  refine .take 14 ?_
  conv=>whnf
  refine ⟨rfl, ?_⟩
  conv=>whnf
  refine .take 15 ?_
  conv=>whnf
  refine ⟨rfl, ?_⟩
  conv=>whnf
  refine .take 16 ?_
  conv=>whnf
  refine ⟨rfl, ?_⟩
  conv=>whnf
  refine ArithG.i64 (by omega) ?_
  conv=>whnf
  refine .take 17 ?_
  conv=>whnf
  refine ⟨rfl, ?_⟩
  conv=>whnf
  refine ArithG.i64 (by omega) ?_
  conv=>whnf
  refine .take 18 ?_
  conv=>whnf
  refine ⟨rfl, ?_⟩
  conv=>whnf
  refine SideG.of (by omega) ?_
  conv=>whnf
  refine .take 19 ?_
  conv=>whnf
  refine ⟨rfl, ?_⟩
  conv=>whnf
  refine LoadG.at (v := bv (p.getD (4 * i + 2) 0)) (.here (by rw [show 0 + (4 * (i : Int) + 2).toNat * 1 = 4 * i + 2 by omega]; exact rd_byte (by omega))) ?_
  conv=>whnf
  refine .take 20 ?_
  conv=>whnf
  refine ⟨rfl, ?_⟩
  conv=>whnf
  refine ArithG.cv (hb _ (by omega)) ?_
  conv=>whnf
  refine .take 21 ?_
  conv=>whnf
  refine ⟨rfl, ?_⟩
  conv=>whnf
  refine SideG.of (by decide) ?_
  conv=>whnf
  refine ArithG.shl _ 8 (by decide) ?_
  conv=>whnf
  refine .take 22 ?_
  conv=>whnf
  refine ⟨rfl, ?_⟩
  conv=>whnf
  refine .take 23 ?_
  conv=>whnf
  refine ⟨rfl, ?_⟩
  conv=>whnf
  refine .take 24 ?_
  conv=>whnf
  refine ⟨rfl, ?_⟩
  conv=>whnf
  refine ArithG.i64 (by omega) ?_
  conv=>whnf
  refine .take 25 ?_
  conv=>whnf
  refine ⟨rfl, ?_⟩
  conv=>whnf
  refine ArithG.i64 (by omega) ?_
  conv=>whnf
  refine .take 26 ?_
  conv=>whnf
  refine ⟨rfl, ?_⟩
  conv=>whnf
  refine SideG.of (by omega) ?_
  conv=>whnf
  refine .take 27 ?_
  conv=>whnf
  refine ⟨rfl, ?_⟩
  conv=>whnf
  refine LoadG.at (v := bv (p.getD (4 * i + 3) 0)) (.here (by rw [show 0 + (4 * (i : Int) + 3).toNat * 1 = 4 * i + 3 by omega]; exact rd_byte (by omega))) ?_
  conv=>whnf
  refine .take 28 ?_
  conv=>whnf
  refine ⟨rfl, ?_⟩
  conv=>whnf
  refine ArithG.cv (hb _ (by omega)) ?_
  conv=>whnf
  refine .take 29 ?_
  conv=>whnf
  refine ⟨rfl, ?_⟩
  conv=>whnf
  refine .take 30 ?_
  conv=>whnf
  refine ⟨rfl, ?_⟩
  conv=>whnf
  refine SideG.of (by omega) ?_
  conv=>whnf
  refine .all ?_
  conv=>whnf
  refine ⟨by decide, ?_⟩
  conv=>whnf
  simp only [w32_or]
  have hl : (wl p i).length < 64 := by rw [wl_len]; omega
  refine StoreG.at rfl (Upd.here (by rw [wvs_len, padW_len (by omega)]; omega) rfl) ?_
  conv=>whnf
  refine ⟨rfl, ?_⟩
  conv=>whnf
  refine ArithG.i64 (by omega) ?_
  conv=>whnf
  refine ⟨16 - (i + 1), _, _, by omega, ?_, Ent.refl _, i + 1, by omega, rfl, rfl, ?_⟩
  ·exact ⟨rfl, rfl, rfl, rfl, trivial⟩
  have e2 : (0 : Nat) + (i : Int).toNat * 1 = (wl p i).length := by rw [wl_len]; simp
  have e3 : nextW p (wl p i) i = w16 p i := if_pos hi16
  rw [e2]
  show [cel b3 191 ((wvs (padW (wl p i) 64)).set (wl p i).length (wv (w16 p i))), _, _] = _
  rw [padW_set hl, ← e3]
  rfl
 obtain rfl : i = 16 := by omega
 conv=>whnf
 refine LoopG.mk (fun m e L => ∃ i, 16 ≤ i ∧ i ≤ 64 ∧ m = 64 - i ∧ e = [(2, .pointer (some ⟨b2, 0, none⟩)), (3, .pointer (some ⟨b3, 0, none⟩)), (5, .int .i64 i)] ∧ L = [cel b3 191 (wvs (padW (wl p i) 64)), cel b2 191 (wvs (padW [] 64)), cel b1 169 (bvs p)]) 48
  [(2, .pointer (some ⟨b2, 0, none⟩)), (3, .pointer (some ⟨b3, 0, none⟩)), (5, .int .i64 16)] _ ⟨rfl, rfl, rfl, trivial⟩ (Ent.refl _) ⟨16, by omega, by omega, rfl, rfl, rfl⟩ ?_
 rintro m e L ⟨i, h16, h64, rfl, rfl, rfl⟩
 conv=>whnf
 refine CondG.dec (fun h => ?_) (fun h => ?_)
 ·have hi64 : i < 64 := by omega
  have hg : ∀ k, k < i → (wvs (padW (wl p i) 64))[k]? = some (wv ((wl p i).getD k 0)) := fun k hk => padW_get (by rw [wl_len]; exact hk)
  conv=>whnf
  refine DrawG.mk 10 [cel b3 191 (wvs (padW (wl p i) 64)), cel b2 191 (wvs (padW [] 64)), cel b1 169 (bvs p)] [] (Ent.refl _) ?_
  conv=>whnf
  refine .take 0 ?_
  conv=>whnf
  refine ⟨rfl, ?_⟩
  conv=>whnf
  refine .take 1 ?_
  conv=>whnf
  refine ⟨rfl, ?_⟩
  conv=>whnf
  refine ArithG.i64 (by omega) ?_
  conv=>whnf
  refine .take 2 ?_
  conv=>whnf
  refine ⟨rfl, ?_⟩
  conv=>whnf
  refine SideG.of (by omega) ?_
  conv=>whnf
  refine .take 3 ?_
  conv=>whnf
  refine ⟨rfl, ?_⟩
  conv=>whnf
  refine LoadG.at (.here (by rw [show 0 + ((i : Int) - 2).toNat * 1 = i - 2 by omega]; exact hg _ (by omega))) ?_
  conv=>whnf
  refine .take 4 ?_
  conv=>whnf
  refine ⟨rfl, ?_⟩
  conv=>whnf
  refine .take 5 ?_
  conv=>whnf
  refine ⟨rfl, ?_⟩
  conv=>whnf
  refine ArithG.i64 (by omega) ?_
  conv=>whnf
  refine .take 6 ?_
  conv=>whnf
  refine ⟨rfl, ?_⟩
  conv=>whnf
  refine SideG.of (by omega) ?_
  conv=>whnf
  refine .take 7 ?_
  conv=>whnf
  refine ⟨rfl, ?_⟩
  conv=>whnf
  refine LoadG.at (.here (by rw [show 0 + ((i : Int) - 15).toNat * 1 = i - 15 by omega]; exact hg _ (by omega))) ?_
  conv=>whnf
  refine .take 8 ?_
  conv=>whnf
  refine ⟨rfl, ?_⟩
  conv=>whnf
  refine .take 9 ?_
  conv=>whnf
  refine ⟨rfl, ?_⟩
  conv=>whnf
  refine ⟨rfl, ?_⟩
  have hs10 : ∀ x : W32, (x.toNat : Int).fdiv (2 ^ (min (10 : Int).toNat IntKind.u32.bits)) = ((x >>> 10).toNat : Int) := fun x => w32_shr' x 10 (by decide)
  have hs3 : ∀ x : W32, (x.toNat : Int).fdiv (2 ^ (min (3 : Int).toNat IntKind.u32.bits)) = ((x >>> 3).toNat : Int) := fun x => w32_shr' x 3 (by decide)
  conv=>whnf
  refine CallG.pure (rot_spec _ ((wl p i).getD (i - 2) 0) (-17) 15 (by decide +kernel) (by decide)) ?_
  rintro _ _ ⟨rfl, rfl⟩
  conv=>whnf
  refine CallG.pure (rot_spec _ ((wl p i).getD (i - 2) 0) (-19) 13 (by decide +kernel) (by decide)) ?_
  rintro _ _ ⟨rfl, rfl⟩
  conv=>whnf
  refine SideG.of (by decide) ?_
  conv=>whnf
  refine CallG.pure (rot_spec _ ((wl p i).getD (i - 15) 0) (-7) 25 (by decide +kernel) (by decide)) ?_
  rintro _ _ ⟨rfl, rfl⟩
  conv=>whnf
  refine CallG.pure (rot_spec _ ((wl p i).getD (i - 15) 0) (-18) 14 (by decide +kernel) (by decide)) ?_
  rintro _ _ ⟨rfl, rfl⟩
  conv=>whnf
  refine SideG.of (by decide) ?_
  conv=>whnf
  refine DrawG.mk 15 [cel b3 191 (wvs (padW (wl p i) 64)), cel b2 191 (wvs (padW [] 64)), cel b1 169 (bvs p)] [] (Ent.refl _) ?_
  conv=>whnf
  refine .take 0 ?_
  conv=>whnf
  refine ⟨rfl, ?_⟩
  conv=>whnf
  refine .take 1 ?_
  conv=>whnf
  refine ⟨rfl, ?_⟩
  conv=>whnf
  refine .take 2 ?_
  conv=>whnf
  refine ⟨rfl, ?_⟩
  conv=>whnf
  refine .take 3 ?_
  conv=>whnf
  refine ⟨rfl, ?_⟩
  conv=>whnf
  refine ArithG.i64 (by omega) ?_
  conv=>whnf
  refine .take 4 ?_
  conv=>whnf
  refine ⟨rfl, ?_⟩
  conv=>whnf
  refine SideG.of (by omega) ?_
  conv=>whnf
  refine .take 5 ?_
  conv=>whnf
  refine ⟨rfl, ?_⟩
  conv=>whnf
  refine LoadG.at (.here (by rw [show 0 + ((i : Int) - 7).toNat * 1 = i - 7 by omega]; exact hg _ (by omega))) ?_
  conv=>whnf
  refine .take 6 ?_
  conv=>whnf
  refine ⟨rfl, ?_⟩
  conv=>whnf
  refine ArithG.w (sig1 ((wl p i).getD (i - 2) 0) + (wl p i).getD (i - 7) 0) (by rw [hs10, w32_xor, w32_xor]; exact w32_add _ _) ?_
  conv=>whnf
  refine .take 7 ?_
  conv=>whnf
  refine ⟨rfl, ?_⟩
  conv=>whnf
  refine .take 8 ?_
  conv=>whnf
  refine ⟨rfl, ?_⟩
  conv=>whnf
  refine ArithG.w ((sig1 ((wl p i).getD (i - 2) 0) + (wl p i).getD (i - 7) 0) + sig0 ((wl p i).getD (i - 15) 0)) (by rw [hs3, w32_xor, w32_xor]; exact w32_add _ _) ?_
  conv=>whnf
  refine .take 9 ?_
  conv=>whnf
  refine ⟨rfl, ?_⟩
  conv=>whnf
  refine .take 10 ?_
  conv=>whnf
  refine ⟨rfl, ?_⟩
  conv=>whnf
  refine ArithG.i64 (by omega) ?_
  conv=>whnf
  refine .take 11 ?_
  conv=>whnf
  refine ⟨rfl, ?_⟩
  conv=>whnf
  refine SideG.of (by omega) ?_
  conv=>whnf
  refine .take 12 ?_
  conv=>whnf
  refine ⟨rfl, ?_⟩
  conv=>whnf
  refine LoadG.at (.here (by rw [show 0 + ((i : Int) - 16).toNat * 1 = i - 16 by omega]; exact hg _ (by omega))) ?_
  conv=>whnf
  refine .take 13 ?_
  conv=>whnf
  refine ⟨rfl, ?_⟩
  conv=>whnf
  refine ArithG.w (((sig1 ((wl p i).getD (i - 2) 0) + (wl p i).getD (i - 7) 0) + sig0 ((wl p i).getD (i - 15) 0)) + (wl p i).getD (i - 16) 0) (w32_add _ _) ?_
  conv=>whnf
  refine .take 14 ?_
  conv=>whnf
  refine ⟨rfl, ?_⟩
  conv=>whnf
  refine SideG.of (by omega) ?_
  conv=>whnf
  refine .all ?_
  conv=>whnf
  refine ⟨by decide, ?_⟩
  conv=>whnf
  refine ⟨rfl, ?_⟩
  conv=>whnf
  have hl : (wl p i).length < 64 := by rw [wl_len]; omega
  refine StoreG.at rfl (Upd.here (by rw [wvs_len, padW_len (by omega)]; omega) rfl) ?_
  conv=>whnf
  refine ⟨rfl, ?_⟩
  conv=>whnf
  refine ArithG.i64 (by omega) ?_
  conv=>whnf
  refine ⟨64 - (i + 1), _, _, by omega, ?_, Ent.refl _, i + 1, by omega, by omega, rfl, rfl, ?_⟩
  ·exact ⟨rfl, rfl, rfl, trivial⟩
  have e2 : (0 : Nat) + (i : Int).toNat * 1 = (wl p i).length := by rw [wl_len]; simp
  have e3 : nextW p (wl p i) i = (((sig1 ((wl p i).getD (i - 2) 0) + (wl p i).getD (i - 7) 0) + sig0 ((wl p i).getD (i - 15) 0)) + (wl p i).getD (i - 16) 0) := if_neg (by omega)
  rw [e2]
  show [cel b3 191 ((wvs (padW (wl p i) 64)).set (wl p i).length (wv _)), _, _] = _
  rw [padW_set hl, ← e3]
  rfl
 ·obtain rfl : i = 64 := by omega
  have e64 : padW (wl p 64) 64 = wl p 64 := by
   have := padW_full (l := wl p 64)
   rw [wl_len] at this
   exact this
  rw [e64]
  conv=>whnf
  refine LoadNG.at (vs := wvs (wl p 64)) (by rw [wvs_len, wl_len]) .all ?_
  conv=>whnf
  refine StoreG.at (by rw [wvs_len, wl_len]) (Upd.tl (Upd.whole (by rw [wvs_len, wvs_len, wl_len, padW_len (by simp)]) (wvs_one _))) ?_
  conv=>whnf
  refine LoadNG.at (vs := wvs (wl p 64)) (by rw [wvs_len, wl_len]) (.tl .all) ?_
  conv=>whnf
  exact ⟨[], Ent.nil _, rfl, rfl⟩
theorem take_spec (F : List HP) (K s : List W32) (p : List Nat) (hK : CelN F 4 0 (wvs K)) (hk : K.length = 64) (hs : s.length = 8) (hp : p.length = 64) (hq : ∀ b ∈ p, b < 256) :
 SpecF Tryz.prog 126 [.agg ⟨wvs s⟩, .agg ⟨bvs p⟩] F [] (fun v L => v = .agg ⟨wvs (takeS K s p)⟩ ∧ L = []) := by
 have hget : ∀ k, k < 8 → (wvs s)[k]? = some (wv (s.getD k 0)) := fun k hk => by
  simp [wvs, List.getD, List.getElem?_eq_getElem (by omega : k < s.length)]
 refine fun126.spec rfl ?_
 conv=>whnf
 intro b2
 conv=>whnf
 intro b3
 conv=>whnf
 intro b4
 conv=>whnf
 refine LoadNG.at (vs := bvs p) (by rw [bvs_len, hp]) (.tl .all) ?_
 conv=>whnf
 refine CallG.pure (words_spec _ p hp hq) ?_
 rintro _ _ ⟨rfl, rfl⟩
 conv=>whnf
 intro b5
 conv=>whnf
 refine StoreG.at (by rw [wvs_len, wl_len]) (Upd.whole (by rw [wvs_len, wl_len]; rfl) (wvs_one _)) ?_
 conv=>whnf
 refine DrawG.mk 24 [cel b5 191 (wvs (wl p 64)), cel b4 185 (wvs (List.replicate 8 0)), cel b3 169 (bvs p), cel b2 185 (wvs s)] [] (Ent.refl _) ?_
 conv=>whnf
 refine .take 0 ?_
 conv=>whnf
 refine ⟨rfl, ?_⟩
 conv=>whnf
 refine SideG.of (by decide) ?_
 conv=>whnf
 refine .take 1 ?_
 conv=>whnf
 refine ⟨rfl, ?_⟩
 conv=>whnf
 refine LoadG.at (v := wv (s.getD 0 0)) (.tl (.tl (.tl (.here (hget 0 (by decide)))))) ?_
 conv=>whnf
 refine .take 2 ?_
 conv=>whnf
 refine ⟨rfl, ?_⟩
 conv=>whnf
 refine SideG.of (by decide) ?_
 conv=>whnf
 refine .take 3 ?_
 conv=>whnf
 refine ⟨rfl, ?_⟩
 conv=>whnf
 refine LoadG.at (v := wv (s.getD 1 0)) (.tl (.tl (.tl (.here (hget 1 (by decide)))))) ?_
 conv=>whnf
 refine .take 4 ?_
 conv=>whnf
 refine ⟨rfl, ?_⟩
 conv=>whnf
 refine SideG.of (by decide) ?_
 conv=>whnf
 refine .take 5 ?_
 conv=>whnf
 refine ⟨rfl, ?_⟩
 conv=>whnf
 refine LoadG.at (v := wv (s.getD 2 0)) (.tl (.tl (.tl (.here (hget 2 (by decide)))))) ?_
 conv=>whnf
 refine .take 6 ?_
 conv=>whnf
 refine ⟨rfl, ?_⟩
 conv=>whnf
 refine SideG.of (by decide) ?_
 conv=>whnf
 refine .take 7 ?_
 conv=>whnf
 refine ⟨rfl, ?_⟩
 conv=>whnf
 refine LoadG.at (v := wv (s.getD 3 0)) (.tl (.tl (.tl (.here (hget 3 (by decide)))))) ?_
 conv=>whnf
 refine .take 8 ?_
 conv=>whnf
 refine ⟨rfl, ?_⟩
 conv=>whnf
 refine SideG.of (by decide) ?_
 conv=>whnf
 refine .take 9 ?_
 conv=>whnf
 refine ⟨rfl, ?_⟩
 conv=>whnf
 refine LoadG.at (v := wv (s.getD 4 0)) (.tl (.tl (.tl (.here (hget 4 (by decide)))))) ?_
 conv=>whnf
 refine .take 10 ?_
 conv=>whnf
 refine ⟨rfl, ?_⟩
 conv=>whnf
 refine SideG.of (by decide) ?_
 conv=>whnf
 refine .take 11 ?_
 conv=>whnf
 refine ⟨rfl, ?_⟩
 conv=>whnf
 refine LoadG.at (v := wv (s.getD 5 0)) (.tl (.tl (.tl (.here (hget 5 (by decide)))))) ?_
 conv=>whnf
 refine .take 12 ?_
 conv=>whnf
 refine ⟨rfl, ?_⟩
 conv=>whnf
 refine SideG.of (by decide) ?_
 conv=>whnf
 refine .take 13 ?_
 conv=>whnf
 refine ⟨rfl, ?_⟩
 conv=>whnf
 refine LoadG.at (v := wv (s.getD 6 0)) (.tl (.tl (.tl (.here (hget 6 (by decide)))))) ?_
 conv=>whnf
 refine .take 14 ?_
 conv=>whnf
 refine ⟨rfl, ?_⟩
 conv=>whnf
 refine SideG.of (by decide) ?_
 conv=>whnf
 refine .take 15 ?_
 conv=>whnf
 refine ⟨rfl, ?_⟩
 conv=>whnf
 refine LoadG.at (v := wv (s.getD 7 0)) (.tl (.tl (.tl (.here (hget 7 (by decide)))))) ?_
 conv=>whnf
 refine .take 16 ?_
 conv=>whnf
 refine ⟨rfl, ?_⟩
 conv=>whnf
 refine .take 17 ?_
 conv=>whnf
 refine ⟨rfl, ?_⟩
 conv=>whnf
 refine .take 18 ?_
 conv=>whnf
 refine ⟨rfl, ?_⟩
 conv=>whnf
 refine .take 19 ?_
 conv=>whnf
 refine ⟨rfl, ?_⟩
 conv=>whnf
 refine .take 20 ?_
 conv=>whnf
 refine ⟨rfl, ?_⟩
 conv=>whnf
 refine .take 21 ?_
 conv=>whnf
 refine ⟨rfl, ?_⟩
 conv=>whnf
 refine .take 22 ?_
 conv=>whnf
 refine ⟨rfl, ?_⟩
 conv=>whnf
 refine .take 23 ?_
 conv=>whnf
 refine ⟨rfl, ?_⟩
 conv=>whnf
 refine ⟨rfl, ?_⟩
 conv=>whnf
 refine LoadNG.atF (vs := wvs K) (by rw [wvs_len, hk]) hK ?_
 conv=>whnf
 refine LoopG.mk (fun m e L => ∃ i r, r = rounds K (wl p 64) (R8.of s) i ∧ i ≤ 64 ∧ m = 64 - i ∧ e = [(2, .pointer (some ⟨b2, 0, none⟩)), (4, .pointer (some ⟨b4, 0, none⟩)), (5, .pointer (some ⟨b5, 0, none⟩)), (6, wv r.a), (7, wv r.b), (8, wv r.c), (9, wv r.d), (10, wv r.e), (11, wv r.f), (12, wv r.g), (13, wv r.h), (38, .agg ⟨wvs K⟩), (39, .int .i64 i)] ∧
  L = [cel b5 191 (wvs (wl p 64)), cel b4 185 (wvs (List.replicate 8 0)), cel b3 169 (bvs p), cel b2 185 (wvs s)]) 64
  [(2, .pointer (some ⟨b2, 0, none⟩)), (4, .pointer (some ⟨b4, 0, none⟩)), (5, .pointer (some ⟨b5, 0, none⟩)), (6, wv (s.getD 0 0)), (7, wv (s.getD 1 0)), (8, wv (s.getD 2 0)), (9, wv (s.getD 3 0)), (10, wv (s.getD 4 0)), (11, wv (s.getD 5 0)), (12, wv (s.getD 6 0)), (13, wv (s.getD 7 0)), (38, .agg ⟨wvs K⟩), (39, .int .i64 0)] _
  ⟨rfl, rfl, rfl, rfl, rfl, rfl, rfl, rfl, rfl, rfl, rfl, rfl, rfl, trivial⟩ (Ent.refl _) ⟨0, R8.of s, rfl, by omega, rfl, rfl, rfl⟩ ?_
 rintro m e L ⟨i, r, hr, hi, rfl, rfl, rfl⟩
 conv=>whnf
 refine CondG.dec (fun h => ?_) (fun h => ?_)
 ·have hi64 : i < 64 := by omega
  have hw : (wvs (wl p 64))[i]? = some (wv ((wl p 64).getD i 0)) := by
   simp [wvs, List.getD, List.getElem?_eq_getElem (by rw [wl_len]; exact hi64 : i < (wl p 64).length)]
  have hkk : (wvs K)[(i : Int).toNat]? = some (wv (K.getD i 0)) := by
   rw [Int.toNat_natCast]
   simp [wvs, List.getD, List.getElem?_eq_getElem (by omega : i < K.length)]
  conv=>whnf
  refine DoesG.idx1 (e := 158) (n := 64) (by kernel_rfl) (by kernel_rfl) (by kernel_rfl) (by omega) hkk ?_
  conv=>whnf
  refine CallG.pure (rot_spec _ r.e (-6) 26 (by decide +kernel) (by decide)) ?_
  rintro _ _ ⟨rfl, rfl⟩
  conv=>whnf
  refine CallG.pure (rot_spec _ r.e (-11) 21 (by decide +kernel) (by decide)) ?_
  rintro _ _ ⟨rfl, rfl⟩
  conv=>whnf
  refine CallG.pure (rot_spec _ r.e (-25) 7 (by decide +kernel) (by decide)) ?_
  rintro _ _ ⟨rfl, rfl⟩
  conv=>whnf
  rw [w32_xor, w32_xor]
  conv=>whnf
  refine ArithG.w (r.h + ((r.e &&& r.f) ^^^ (~~~r.e &&& r.g))) (by rw [w32_and, w32_not, w32_and, w32_xor]; exact w32_add _ _) ?_
  conv=>whnf
  refine ArithG.w ((r.h + ((r.e &&& r.f) ^^^ (~~~r.e &&& r.g))) + K.getD i 0) (w32_add _ _) ?_
  conv=>whnf
  refine SideG.of (by omega) ?_
  conv=>whnf
  refine LoadG.at (v := wv ((wl p 64).getD i 0)) (.here (by rw [show 0 + (i : Int).toNat * 1 = i by omega]; exact hw)) ?_
  conv=>whnf
  refine ArithG.w (((r.h + ((r.e &&& r.f) ^^^ (~~~r.e &&& r.g))) + K.getD i 0) + (wl p 64).getD i 0) (w32_add _ _) ?_
  conv=>whnf
  refine ArithG.w (rndX (K.getD i 0) ((wl p 64).getD i 0) r) (w32_add _ _) ?_
  conv=>whnf
  refine CallG.pure (rot_spec _ r.a (-2) 30 (by decide +kernel) (by decide)) ?_
  rintro _ _ ⟨rfl, rfl⟩
  conv=>whnf
  refine CallG.pure (rot_spec _ r.a (-13) 19 (by decide +kernel) (by decide)) ?_
  rintro _ _ ⟨rfl, rfl⟩
  conv=>whnf
  refine CallG.pure (rot_spec _ r.a (-22) 10 (by decide +kernel) (by decide)) ?_
  rintro _ _ ⟨rfl, rfl⟩
  conv=>whnf
  refine ArithG.w (rndY r) (by simp only [w32_and, w32_xor]; exact w32_add _ _) ?_
  conv=>whnf
  refine ArithG.w (rndX (K.getD i 0) ((wl p 64).getD i 0) r + rndY r) (w32_add _ _) ?_
  conv=>whnf
  refine ArithG.w (r.d + rndX (K.getD i 0) ((wl p 64).getD i 0) r) (w32_add _ _) ?_
  conv=>whnf
  refine ArithG.i64 (by omega) ?_
  conv=>whnf
  refine ⟨64 - (i + 1), _, _, by omega, ?_, Ent.refl _, i + 1, rnd (K.getD i 0) ((wl p 64).getD i 0) r, (by rw [rounds_succ, hr]), by omega, rfl, rfl, rfl⟩
  exact ⟨rfl, rfl, rfl, rfl, rfl, rfl, rfl, rfl, rfl, rfl, rfl, rfl, rfl, trivial⟩
 obtain rfl : i = 64 := by omega
 have hlen := takeS_len (K := K) (p := p) hs
 conv=>whnf
 refine BuildG.of (cs := wvs r.list) (by simp [fillL, Value.cells, wvs, R8.list, wv]) ?_
 conv=>whnf
 refine LoopG.mk (fun m e L => ∃ i, i ≤ 8 ∧ m = 8 - i ∧ e = [(2, .pointer (some ⟨b2, 0, none⟩)), (4, .pointer (some ⟨b4, 0, none⟩)), (111, .agg ⟨wvs r.list⟩), (112, .int .i64 i)] ∧
  L = [cel b5 191 (wvs (wl p 64)), cel b4 185 (wvs (List.replicate 8 0)), cel b3 169 (bvs p), cel b2 185 (wvs (mixW (takeS K s p) s i))]) 8
  [(2, .pointer (some ⟨b2, 0, none⟩)), (4, .pointer (some ⟨b4, 0, none⟩)), (111, .agg ⟨wvs r.list⟩), (112, .int .i64 0)] _ ⟨rfl, rfl, rfl, rfl, trivial⟩ (Ent.refl _) ⟨0, by omega, rfl, rfl, rfl⟩ ?_
 rintro m e L ⟨j, hj, rfl, rfl, rfl⟩
 conv=>whnf
 refine CondG.dec (fun h2 => ?_) (fun h2 => ?_)
 ·have hj8 : j < 8 := by omega
  have hll : r.list.length = 8 := rfl
  have hrl : (wvs r.list)[(j : Int).toNat]? = some (wv (r.list.getD j 0)) := by
   rw [Int.toNat_natCast]
   simp [wvs, List.getD, List.getElem?_eq_getElem (by omega : j < r.list.length)]
  have hz : (0 : Nat) + (j : Int).toNat * 1 = j := by simp
  conv=>whnf
  refine DoesG.idx1 (e := 158) (n := 8) (by kernel_rfl) (by kernel_rfl) (by kernel_rfl) (by omega) hrl ?_
  conv=>whnf
  refine SideG.of (by omega) ?_
  conv=>whnf
  refine LoadG.at (v := wv (s.getD j 0)) (.tl (.tl (.tl (.here (by rw [hz]; exact mixW_get (by omega) (by omega)))))) ?_
  conv=>whnf
  refine ArithG.w (s.getD j 0 + r.list.getD j 0) (w32_add _ _) ?_
  conv=>whnf
  refine SideG.of (by omega) ?_
  conv=>whnf
  refine StoreG.at rfl (Upd.tl (Upd.tl (Upd.tl (Upd.here (by rw [hz, wvs_len, mixW_len (by omega) (by omega)]; omega) rfl)))) ?_
  conv=>whnf
  refine ArithG.i64 (by omega) ?_
  conv=>whnf
  refine ⟨8 - (j + 1), _, _, by omega, ?_, Ent.refl _, j + 1, by omega, rfl, rfl, ?_⟩
  ·exact ⟨rfl, rfl, rfl, rfl, trivial⟩
  rw [hz]
  have e1 : s.getD j 0 + r.list.getD j 0 = (takeS K s p).getD j 0 := by rw [takeS_get hs hj8, hr]
  show [_, _, _, cel b2 185 ((wvs (mixW (takeS K s p) s j)).set j (wv (s.getD j 0 + r.list.getD j 0)))] = _
  rw [e1, mixW_set (by omega) (by omega)]
 obtain rfl : j = 8 := by omega
 have e8 : mixW (takeS K s p) s 8 = takeS K s p := by
  simp only [mixW]
  rw [List.take_of_length_le (by omega), List.drop_eq_nil_of_le (by omega), List.append_nil]
 rw [e8]
 conv=>whnf
 refine LoadNG.at (vs := wvs (takeS K s p)) (by rw [wvs_len, hlen]) (.tl (.tl (.tl .all))) ?_
 conv=>whnf
 refine StoreG.at (by rw [wvs_len, hlen]) (Upd.tl (Upd.whole (by rw [wvs_len, hlen]; rfl) (wvs_one _))) ?_
 conv=>whnf
 refine LoadNG.at (vs := wvs (takeS K s p)) (by rw [wvs_len, hlen]) (.tl .all) ?_
 conv=>whnf
 exact ⟨[], Ent.nil _, rfl, rfl⟩
theorem begin_spec (F : List HP) : SpecF Tryz.prog 125 [] F [] (fun v L => v = .agg ⟨wvs ivW⟩ ∧ L = []) := by
 refine fun125.spec rfl ?_
 conv=>whnf
 intro b
 conv=>whnf
 refine BuildG.of (cs := wvs ivW) (by simp [fillL, Value.cells, wvs, ivW, wv]) ?_
 conv=>whnf
 refine StoreG.at rfl (Upd.whole rfl (wvs_one _)) ?_
 conv=>whnf
 refine LoadNG.at (vs := wvs ivW) rfl .all ?_
 conv=>whnf
 exact ⟨[], Ent.nil _, rfl, rfl⟩
theorem hnew_spec (F : List HP) : SpecF Tryz.prog 106 [] F [] (fun v L => ∃ h, v = .pointer (some ⟨h, 0, none⟩) ∧ L = [cel h 188 (hC ivW (List.replicate 64 0) 0)]) := by
 refine fun106.spec rfl ?_
 conv=>whnf
 refine CallG.pure (begin_spec _) ?_
 rintro _ _ ⟨rfl, rfl⟩
 conv=>whnf
 refine BuildG.of (cs := hC ivW (List.replicate 64 0) 0) rfl ?_
 conv=>whnf
 intro h
 conv=>whnf
 exact ret_here ⟨h, rfl, rfl⟩
theorem write_spec (F : List HP) (K : List W32) (hK : CelN F 4 0 (wvs K)) (hk : K.length = 64) (h : Nat) (m data : List Nat) (s : List W32) (wait : List Nat) (v : Value) (hH : Hs K m s wait) (hv : RdS F v data.length (bvs data)) (hb : ∀ b ∈ data, b < 256) (hm : m.length + data.length ≤ 1152921504606846976) :
 SpecF Tryz.prog 107 [.pointer (some ⟨h, 0, none⟩), v] F [cel h 188 (hC s wait m.length)] (fun _ L => ∃ s' wait', Hs K (m ++ data) s' wait' ∧ L = [cel h 188 (hC s' wait' (m ++ data).length)]) := by
 refine fun107.spec rfl ?_
 conv=>whnf
 refine LoopG.mk (fun mm e L => ∃ j v s wait, j ≤ data.length ∧ RdS F v (data.length - j) (bvs (data.drop j)) ∧ Hs K (m ++ data.take j) s wait ∧ mm = data.length - j ∧ e = [(0, .pointer (some ⟨h, 0, none⟩)), (1, v)] ∧ L = [cel h 188 (hC s wait (m.length + j))]) data.length
  [(0, .pointer (some ⟨h, 0, none⟩)), (1, v)] _ ⟨rfl, rfl, trivial⟩ (Ent.refl _) ⟨0, v, s, wait, by omega, by simpa using hv, by simpa using hH, rfl, rfl, rfl⟩ ?_
 rintro mm e L ⟨j, v, s, wait, hj, hv, hH, rfl, rfl, rfl⟩
 have hs : s.length = 8 := by rw [hH.st]; exact stN_len _ _ _
 conv=>whnf
 refine LenG.rd hv ?_
 conv=>whnf
 refine CondG.dec (fun h1 => ?_) (fun h1 => ?_)
 ·have hlm : (m ++ data.take j).length = m.length + j := by simp; omega
  have hmod : ((m.length + j : Nat) : Int).tmod 64 = (((m.length + j) % 64 : Nat) : Int) := rfl
  have hat : (m.length + j) % 64 < 64 := Nat.mod_lt _ (by decide)
  conv=>whnf
  refine LoadG.at (v := .int .i64 ((m.length + j : Nat))) (.here (hC_n hs hH.len)) ?_
  conv=>whnf
  refine SideG.of (by decide) ?_
  conv=>whnf
  rw [hmod]
  refine SideG.of (by omega) ?_
  conv=>whnf
  refine SliceG.ne (by omega) ?_
  conv=>whnf
  have hcl := hC_len (n := m.length + j) hs hH.len
  have ho : 0 + 8 + (((m.length + j) % 64 : Nat) : Int).toNat * 1 = 8 + (m.length + j) % 64 := by omega
  have hdl : ((64 : Nat) : Int).toNat - (((m.length + j) % 64 : Nat) : Int).toNat = 64 - (m.length + j) % 64 := by omega
  refine DoesG.copy1 (elem := 5) (n := data.length - j) (cs := bvs (data.drop j)) (by kernel_rfl) (by kernel_rfl) (.tl (.right hv [])) (by simp [bvs]) (by rw [ho, hdl, hcl]; omega) (bvs_one _) ?_
  rw [ho, hdl]
  obtain ⟨k, hk0⟩ : ∃ k, k = min (data.length - j) (64 - (m.length + j) % 64) := ⟨_, rfl⟩
  rw [← hk0]
  have hkl : ((data.drop j).take k).length = k := by simp; omega
  have hkp : 0 < k := by omega
  have ec : (hC s wait (m.length + j)).take (8 + (m.length + j) % 64) ++ (bvs (data.drop j)).take k ++ (hC s wait (m.length + j)).drop (8 + (m.length + j) % 64 + k) = hC s (wait.take ((m.length + j) % 64) ++ (data.drop j).take k ++ wait.drop ((m.length + j) % 64 + k)) (m.length + j) := by
   have e1 := hC_copy (n := m.length + j) hs hH.len (a := (m.length + j) % 64) (d := (data.drop j).take k) (by omega)
   rw [hkl] at e1
   have e2 : (bvs (data.drop j)).take k = bvs ((data.drop j).take k) := by simp [bvs]
   rw [e2, e1]
  rw [ec]
  have hbd : ∀ b ∈ (data.drop j).take k, b < 256 := fun b h => hb b (List.mem_of_mem_drop (List.mem_of_mem_take h))
  have hst := Hs.step hH (d := (data.drop j).take k) (by rw [hlm, hkl]; omega) hbd (wait' := wait.take ((m.length + j) % 64) ++ (data.drop j).take k ++ wait.drop ((m.length + j) % 64 + k)) (by rw [hlm, hkl])
  rw [hlm, hkl] at hst
  have hmd : m ++ data.take j ++ (data.drop j).take k = m ++ data.take (j + k) := by
   rw [List.append_assoc, ← List.take_add]
  rw [hmd] at hst
  generalize hwe : wait.take ((m.length + j) % 64) ++ (data.drop j).take k ++ wait.drop ((m.length + j) % 64 + k) = wait' at hst ⊢
  have hwl : wait'.length = 64 := by
   rw [← hwe]; simp [hH.len, hkl]; omega
  have hwb : ∀ b ∈ wait', b < 256 := by
   split at hst
   ·exact hst.byte
   ·exact hst.byte
  conv=>whnf
  refine SlcG.rd hv fun a cap ha hc => ?_
  subst ha
  conv=>whnf
  refine SideG.of (by omega) ?_
  conv=>whnf
  refine SliceG.rd (n := data.length - j) hv (by simp; omega) (by simp) (by simp; omega) (by simp) fun v2 hv2 _ => ?_
  have hv3 : RdS F v2 (data.length - (j + k)) (bvs (data.drop (j + k))) := by
   have e1 : ((data.length - j : Nat) : Int).toNat - (k : Int).toNat = data.length - (j + k) := by omega
   have e2 : ((bvs (data.drop j)).drop ((k : Int).toNat * 1)).take ((((data.length - j : Nat) : Int).toNat - (k : Int).toNat) * 1) = bvs (data.drop (j + k)) := by
    rw [e1]
    simp only [Int.toNat_natCast, Nat.mul_one, bvs, ← List.map_drop, List.drop_drop]
    rw [List.take_of_length_le (by simp)]
   rw [e2, e1] at hv2
   exact hv2
  conv=>whnf
  refine LoadG.at (v := .int .i64 ((m.length + j : Nat))) (.here (hC_n hs hwl)) ?_
  conv=>whnf
  refine ArithG.i64 (by omega) ?_
  conv=>whnf
  refine StoreG.at rfl (Upd.here (by rw [hC_len hs hwl]; decide) rfl) ?_
  have en : ((m.length + j : Nat) : Int) + (k : Int) = ((m.length + (j + k) : Nat) : Int) := by omega
  rw [en, show 0 + 72 = 72 from rfl, hC_set_n hs hwl]
  conv=>whnf
  refine ArithG.i64 (by omega) ?_
  conv=>whnf
  refine CondG.dec (fun h6 => ?_) (fun h6 => ?_)
  ·rw [if_pos (by omega)] at hst
   conv=>whnf
   refine DrawG.mk 10 [cel h 188 (hC s wait' (m.length + (j + k)))] [] (Ent.refl _) ?_
   conv=>whnf
   refine .take 0 ?_
   conv=>whnf
   refine ⟨rfl, ?_⟩
   conv=>whnf
   refine .take 1 ?_
   conv=>whnf
   refine ⟨rfl, ?_⟩
   conv=>whnf
   refine .take 2 ?_
   conv=>whnf
   refine ⟨rfl, ?_⟩
   conv=>whnf
   refine .take 3 ?_
   conv=>whnf
   refine ⟨rfl, ?_⟩
   conv=>whnf
   refine .take 4 ?_
   conv=>whnf
   refine ⟨rfl, ?_⟩
   conv=>whnf
   refine LoadNG.at (vs := wvs s) (by rw [wvs_len, hs]) (CelN.here hC_s) ?_
   conv=>whnf
   refine .take 5 ?_
   conv=>whnf
   refine ⟨rfl, ?_⟩
   conv=>whnf
   refine .take 6 ?_
   conv=>whnf
   refine ⟨rfl, ?_⟩
   conv=>whnf
   refine .take 7 ?_
   conv=>whnf
   refine ⟨rfl, ?_⟩
   conv=>whnf
   refine .take 8 ?_
   conv=>whnf
   refine ⟨rfl, ?_⟩
   conv=>whnf
   refine LoadNG.at (vs := bvs wait') (by rw [bvs_len, hwl]) (CelN.here (hC_wait hs)) ?_
   conv=>whnf
   refine .all ?_
   conv=>whnf
   refine ⟨by decide, ?_⟩
   conv=>whnf
   refine CallG.pure (take_spec _ K s wait' (.right (.right hK _) _) hk hs hwl hwb) ?_
   rintro _ _ ⟨rfl, rfl⟩
   conv=>whnf
   refine .all ?_
   conv=>whnf
   refine ⟨by decide, ?_⟩
   conv=>whnf
   refine ⟨rfl, ?_⟩
   conv=>whnf
   refine .all ?_
   conv=>whnf
   refine ⟨by decide, ?_⟩
   conv=>whnf
   refine .all ?_
   conv=>whnf
   refine ⟨by decide, ?_⟩
   conv=>whnf
   have hts := takeS_len (K := K) (p := wait') hs
   refine StoreG.at (by rw [wvs_len, hts]) (Upd.hereN (by rw [wvs_len, hts, hC_len hs hwl]; decide) (wvs_one _) (hC_set_s hs hts)) ?_
   conv=>whnf
   refine ⟨rfl, ?_⟩
   conv=>whnf
   refine ⟨data.length - (j + k), _, _, by omega, ?_, Ent.refl _, j + k, v2, takeS K s wait', wait', by omega, hv3, hst, rfl, rfl, rfl⟩
   exact ⟨rfl, rfl, trivial⟩
  ·rw [if_neg (by omega)] at hst
   conv=>whnf
   refine ⟨data.length - (j + k), _, _, by omega, ?_, Ent.refl _, j + k, v2, s, wait', by omega, hv3, hst, rfl, rfl, rfl⟩
   exact ⟨rfl, rfl, trivial⟩
 ·obtain rfl : j = data.length := by omega
  conv=>whnf
  refine ret_here ⟨s, wait, by simpa using hH, by simp⟩
end Go.Proofs.YtmfonkklmndhjaaGreatDoor
namespace Go.Proofs.YtmfonkklmndhjaaGreatDoor
open Go Go.Sl
theorem end_spec (F : List HP) (K : List W32) (hK : CelN F 4 0 (wvs K)) (hk : K.length = 64) (h : Nat) (m : List Nat) (s : List W32) (wait : List Nat) (hH : Hs K m s wait) (hm : m.length ≤ 1152921504606846976) (hb : ∀ b ∈ m, b < 256) :
 SpecF Tryz.prog 127 [.pointer (some ⟨h, 0, none⟩), .int .u8 0, .int .i64 0] F [cel h 188 (hC s wait m.length)] (fun v L => v = .agg ⟨bvs (dig K m)⟩ ∧ L = [cel h 188 (hC s wait m.length)]) := by
 have hs : s.length = 8 := by rw [hH.st]; exact stN_len _ _ _
 have hat : m.length % 64 < 64 := Nat.mod_lt _ (by decide)
 have hmod : ((m.length : Nat) : Int).tmod 64 = ((m.length % 64 : Nat) : Int) := rfl
 refine fun127.spec rfl ?_
 conv=>whnf
 intro b6
 conv=>whnf
 refine DrawG.mk 12 [cel h 188 (hC s wait m.length)] [cel b6 81 (bvs (List.replicate 32 0))] (Ent.refl _) ?_
 conv=>whnf
 refine .take 0 ?_
 conv=>whnf
 refine ⟨rfl, ?_⟩
 conv=>whnf
 refine .take 1 ?_
 conv=>whnf
 refine ⟨rfl, ?_⟩
 conv=>whnf
 refine .take 2 ?_
 conv=>whnf
 refine ⟨rfl, ?_⟩
 conv=>whnf
 refine .take 3 ?_
 conv=>whnf
 refine ⟨rfl, ?_⟩
 conv=>whnf
 refine LoadNG.at (vs := wvs s) (by rw [wvs_len, hs]) (CelN.here hC_s) ?_
 conv=>whnf
 refine .take 4 ?_
 conv=>whnf
 refine ⟨rfl, ?_⟩
 conv=>whnf
 refine .take 5 ?_
 conv=>whnf
 refine ⟨rfl, ?_⟩
 conv=>whnf
 refine .take 6 ?_
 conv=>whnf
 refine ⟨rfl, ?_⟩
 conv=>whnf
 refine .take 7 ?_
 conv=>whnf
 refine ⟨rfl, ?_⟩
 conv=>whnf
 refine LoadNG.at (vs := bvs wait) (by rw [bvs_len, hH.len]) (CelN.here (hC_wait hs)) ?_
 conv=>whnf
 refine .all ?_
 conv=>whnf
 refine ⟨by decide, ?_⟩
 conv=>whnf
 refine ⟨?_, ?_⟩
 conv=>whnf
 intro b7
 conv=>whnf
 refine .all ?_
 conv=>whnf
 refine ⟨by decide, ?_⟩
 conv=>whnf
 intro b8
 conv=>whnf
 refine .all ?_
 conv=>whnf
 refine ⟨by decide, ?_⟩
 conv=>whnf
 refine StoreG.ent (M := [cel b7 185 (wvs (List.replicate 8 0)), cel b8 169 (bvs (List.replicate 64 0)), cel b6 81 (bvs (List.replicate 32 0))]) (Ent.perm (List.Perm.swap _ _ _)) ?_
 refine StoreG.at (by rw [wvs_len, hs]) (Upd.whole (by rw [wvs_len, hs]; rfl) (wvs_one _)) ?_
 rotate_left
 conv=>whnf
 intro b8
 conv=>whnf
 refine .all ?_
 conv=>whnf
 refine ⟨by decide, ?_⟩
 conv=>whnf
 intro b7
 conv=>whnf
 refine .all ?_
 conv=>whnf
 refine ⟨by decide, ?_⟩
 conv=>whnf
 refine StoreG.ent (M := [cel b7 185 (wvs (List.replicate 8 0)), cel b8 169 (bvs (List.replicate 64 0)), cel b6 81 (bvs (List.replicate 32 0))]) (Ent.refl _) ?_
 refine StoreG.at (by rw [wvs_len, hs]) (Upd.whole (by rw [wvs_len, hs]; rfl) (wvs_one _)) ?_
 all_goals
  conv=>whnf
  refine .all ?_
  conv=>whnf
  refine ⟨by decide, ?_⟩
  conv=>whnf
  refine StoreG.at (by rw [bvs_len, hH.len]) (Upd.tl (Upd.whole (by rw [bvs_len, hH.len]; rfl) (bvs_one _))) ?_
  conv=>whnf
  refine ⟨rfl, ?_⟩
  conv=>whnf
  refine LoadG.at (v := .int .i64 (m.length : Nat)) (.tl (.tl (.tl (.here (hC_n hs hH.len))))) ?_
  conv=>whnf
  refine SideG.of (by decide) ?_
  conv=>whnf
  rw [hmod]
  refine SideG.of (by omega) ?_
  conv=>whnf
  refine SliceG.ne (by omega) ?_
  conv=>whnf
  have ho : 0 + ((m.length % 64 : Nat) : Int).toNat * 1 = m.length % 64 := by omega
  have hdl : ((64 : Nat) : Int).toNat - ((m.length % 64 : Nat) : Int).toNat = 64 - m.length % 64 := by omega
  refine DoesG.ent (Ent.front 1 rfl) ?_
  refine DoesG.clear1 (elem := 5) (zv := bv 0) (by kernel_rfl) (by kernel_rfl) (by rw [ho, hdl, bvs_len, hH.len]; omega) rfl ?_
  rw [ho, hdl]
  have hrl : (m.drop (64 * (m.length / 64))).length = m.length % 64 := by simp; have := Nat.div_add_mod m.length 64; omega
  have e1 : (bvs wait).take (m.length % 64) ++ List.replicate (64 - m.length % 64) (bv 0) ++ (bvs wait).drop (m.length % 64 + (64 - m.length % 64)) = bvs (m.drop (64 * (m.length / 64)) ++ List.replicate (64 - m.length % 64) 0) := by
   rw [← hH.rem, List.drop_eq_nil_of_le (by rw [bvs_len, hH.len]; omega)]
   simp [bvs]
  rw [e1]
  conv=>whnf
  refine DrawG.mk 10 [cel b7 185 (wvs s), cel b6 81 (bvs (List.replicate 32 0)), cel h 188 (hC s wait m.length)] [cel b8 169 (bvs (m.drop (64 * (m.length / 64)) ++ List.replicate (64 - m.length % 64) 0))] (Ent.refl _) ?_
  conv=>whnf
  refine .take 0 ?_
  conv=>whnf
  refine ⟨rfl, ?_⟩
  conv=>whnf
  refine .take 1 ?_
  conv=>whnf
  refine ⟨rfl, ?_⟩
  conv=>whnf
  refine .take 2 ?_
  conv=>whnf
  refine ⟨rfl, ?_⟩
  conv=>whnf
  refine .take 3 ?_
  conv=>whnf
  refine ⟨rfl, ?_⟩
  conv=>whnf
  refine SideG.of (by decide) ?_
  conv=>whnf
  refine .take 4 ?_
  conv=>whnf
  refine ⟨rfl, ?_⟩
  conv=>whnf
  refine .take 5 ?_
  conv=>whnf
  refine ⟨rfl, ?_⟩
  conv=>whnf
  refine .take 6 ?_
  conv=>whnf
  refine ⟨rfl, ?_⟩
  conv=>whnf
  refine SideG.of (by decide) ?_
  conv=>whnf
  refine .take 7 ?_
  conv=>whnf
  refine ⟨rfl, ?_⟩
  conv=>whnf
  refine .take 8 ?_
  conv=>whnf
  refine ⟨rfl, ?_⟩
  conv=>whnf
  refine SideG.of (by omega) ?_
  conv=>whnf
  refine .all ?_
  conv=>whnf
  refine ⟨by decide, ?_⟩
  conv=>whnf
  refine StoreG.at (cs := [bv 128]) rfl (Upd.here (v := bv 128) (by rw [ho, bvs_len]; simp [hrl]; omega) rfl) ?_
  rw [ho, pad_set hrl hat]
  have ep : m.drop (64 * (m.length / 64)) ++ 128 :: List.replicate (63 - m.length % 64) 0 = padP m := rfl
  rw [ep]
  have hpb : ∀ b ∈ padP m, b < 256 := by
   intro b hbm
   simp only [padP, List.mem_append, List.mem_cons, List.mem_replicate] at hbm
   rcases hbm with h1 | h1 | h1
   ·exact hb b (List.mem_of_mem_drop h1)
   ·omega
   ·omega
  conv=>whnf
  refine ⟨rfl, ?_⟩
  conv=>whnf
  refine CondG.dec (fun h5 => ?_) (fun h5 => ?_)
  rotate_left
  ·skip
   have h56 : ¬ 56 ≤ m.length % 64 := by omega
   have q1 : cel b7 185 (wvs s) = cel b7 185 (wvs (endS K m)) := by unfold endS; rw [if_neg h56, hH.st]
   have q2 : padP m = endP m := by unfold endP; rw [if_neg h56]
   rw [q1, q2]
   conv=>whnf
   have hel := endS_len K m
   refine LoadG.at (v := .int .i64 (m.length : Nat)) (.tl (.tl (.tl (.here (hC_n hs hH.len))))) ?_
   conv=>whnf
   refine ArithG.u64 (by omega) ?_
   conv=>whnf
   refine ArithG.u64 (by omega) ?_
   conv=>whnf
   refine ArithG.u64 (by omega) ?_
   conv=>whnf
   refine ArithG.u64 (by omega) ?_
   have eN : (m.length : Int) * 8 + 0 = ((m.length * 8 : Nat) : Int) := by omega
   rw [eN]
   conv=>whnf
   refine LoopG.mk (fun mm e L => ∃ i, i ≤ 8 ∧ mm = 8 - i ∧ e = [(6, .pointer (some ⟨b6, 0, none⟩)), (7, .pointer (some ⟨b7, 0, none⟩)), (8, .pointer (some ⟨b8, 0, none⟩)), (10, .int .u64 (m.length * 8 : Nat)), (53, .int .i64 i)] ∧
    L = [cel b8 169 (bvs (tailQ (endP m) (m.length * 8) i)), cel b7 185 (wvs (endS K m)), cel b6 81 (bvs (List.replicate 32 0)), cel h 188 (hC s wait m.length)]) 8
    [(6, .pointer (some ⟨b6, 0, none⟩)), (7, .pointer (some ⟨b7, 0, none⟩)), (8, .pointer (some ⟨b8, 0, none⟩)), (10, .int .u64 (m.length * 8 : Nat)), (53, .int .i64 0)] _ ⟨rfl, rfl, rfl, rfl, rfl, trivial⟩ (Ent.refl _) ⟨0, by omega, rfl, rfl, by have ez := tailQ_zero (N := m.length * 8) (endP_len m); first | (rw [ez]; done) | (rw [ez]; rfl)⟩ ?_
   rintro mm e L ⟨i, hi, rfl, rfl, rfl⟩
   conv=>whnf
   refine CondG.dec (fun h9 => ?_) (fun h9 => ?_)
   ·have hi8 : i < 8 := by omega
    conv=>whnf
    refine ArithG.i64 (by omega) ?_
    conv=>whnf
    refine ArithG.i64 (by omega) ?_
    conv=>whnf
    refine SideG.of (by omega) ?_
    conv=>whnf
    refine ArithG.all ?_
    conv=>whnf
    refine SideG.of (by omega) ?_
    conv=>whnf
    have ex := shr_b (m.length * 8) i hi8
    refine StoreG.at rfl (Upd.here (by rw [bvs_len, tailQ_len (endP_len m) (by omega)]; omega) rfl) ?_
    conv=>whnf
    refine ArithG.i64 (by omega) ?_
    conv=>whnf
    refine ⟨8 - (i + 1), _, _, by omega, ?_, Ent.refl _, i + 1, by omega, rfl, rfl, ?_⟩
    ·exact ⟨rfl, rfl, rfl, rfl, rfl, trivial⟩
    rw [show 0 + (63 - (i : Int)).toNat * 1 = 63 - i by omega, ← tailQ_set (endP_len m) hi8]
    show [cel b8 169 ((bvs (tailQ (endP m) (m.length * 8) i)).set (63 - i) (.int .u8 (IntKind.u8.wrap (((m.length * 8 : Nat) : Int).fdiv (2 ^ (min (8 * (i : Int)).toNat 64)))))), _, _, _] = _
    rw [ex]
    rfl
   obtain rfl : i = 8 := by omega
   rw [tailQ_end]
   conv=>whnf
   refine LoadNG.at (vs := wvs (endS K m)) (by rw [wvs_len, hel]) (.tl .all) ?_
   conv=>whnf
   refine LoadNG.at (vs := bvs (endQ m)) (by rw [bvs_len, endQ_len]) .all ?_
   conv=>whnf
   refine CallG.pure (take_spec _ K (endS K m) (endQ m) (.right hK _) hk hel (endQ_len m) (endQ_byte hb)) ?_
   rintro _ _ ⟨rfl, rfl⟩
   conv=>whnf
   have hfl := takeS_len (K := K) (p := endQ m) hel
   refine StoreG.at (by rw [wvs_len, hfl]) (Upd.tl (Upd.whole (by rw [wvs_len, hfl, wvs_len, hel]) (wvs_one _))) ?_
   conv=>whnf
   intro b12
   conv=>whnf
   refine LoopG.mk (fun mm e L => ∃ i, i ≤ 32 ∧ mm = 32 - i ∧ e = [(6, .pointer (some ⟨b6, 0, none⟩)), (7, .pointer (some ⟨b7, 0, none⟩)), (12, .pointer (some ⟨b12, 0, none⟩)), (68, .int .i64 i)] ∧
    L = [cel b12 81 (bvs (fillB (fun i => ((takeS K (endS K m) (endQ m)).getD (i / 4) 0 >>> (24 - 8 * (i % 4))).toNat % 256) 32 i)), cel b8 169 (bvs (endQ m)), cel b7 185 (wvs (takeS K (endS K m) (endQ m))), cel b6 81 (bvs (List.replicate 32 0)), cel h 188 (hC s wait m.length)]) 32
    [(6, .pointer (some ⟨b6, 0, none⟩)), (7, .pointer (some ⟨b7, 0, none⟩)), (12, .pointer (some ⟨b12, 0, none⟩)), (68, .int .i64 0)] _ ⟨rfl, rfl, rfl, rfl, trivial⟩ (Ent.refl _) ⟨0, by omega, rfl, rfl, by rw [fillB_zero]; rfl⟩ ?_
   rintro mm e L ⟨i, hi, rfl, rfl, rfl⟩
   conv=>whnf
   refine CondG.dec (fun h9 => ?_) (fun h9 => ?_)
   ·have hi8 : i < 32 := by omega
    have hq : (i : Int).tdiv 4 = ((i / 4 : Nat) : Int) := rfl
    have hr : (i : Int).tmod 4 = ((i % 4 : Nat) : Int) := rfl
    conv=>whnf
    refine SideG.of (by decide) ?_
    conv=>whnf
    refine ArithG.i64' _ hq (by omega) ?_
    conv=>whnf
    refine SideG.of (by omega) ?_
    conv=>whnf
    have hg : (wvs (takeS K (endS K m) (endQ m)))[0 + ((i / 4 : Nat) : Int).toNat * 1]? = some (wv ((takeS K (endS K m) (endQ m)).getD (i / 4) 0)) := by
     rw [show 0 + ((i / 4 : Nat) : Int).toNat * 1 = i / 4 by omega]
     simp [wvs, List.getD, List.getElem?_eq_getElem (by omega : i / 4 < (takeS K (endS K m) (endQ m)).length)]
    refine LoadG.at (.tl (.tl (.here hg))) ?_
    conv=>whnf
    refine SideG.of (by decide) ?_
    conv=>whnf
    rw [hr]
    refine ArithG.i64 (by omega) ?_
    conv=>whnf
    refine ArithG.i64 (by omega) ?_
    conv=>whnf
    refine SideG.of (by omega) ?_
    conv=>whnf
    refine ArithG.all ?_
    conv=>whnf
    refine SideG.of (by omega) ?_
    conv=>whnf
    have ex := shr_d ((takeS K (endS K m) (endQ m)).getD (i / 4) 0) i
    refine StoreG.at rfl (Upd.here (by simp [bvs_len, fillB_len]; omega) rfl) ?_
    conv=>whnf
    refine ArithG.i64 (by omega) ?_
    conv=>whnf
    refine ⟨32 - (i + 1), _, _, by omega, ?_, Ent.refl _, i + 1, by omega, rfl, rfl, ?_⟩
    ·exact ⟨rfl, rfl, rfl, rfl, trivial⟩
    rw [show 0 + (i : Int).toNat * 1 = i by omega, ← fillB_set _ hi8]
    show [cel b12 81 ((bvs (fillB _ 32 i)).set i (.int .u8 (IntKind.u8.wrap ((((takeS K (endS K m) (endQ m)).getD (i / 4) 0).toNat : Int).fdiv (2 ^ (min (24 - 8 * ((i % 4 : Nat) : Int)).toNat 32)))))), _, _, _, _] = _
    rw [ex]
    rfl
   obtain rfl : i = 32 := by omega
   rw [fillB_all]
   conv=>whnf
   refine LoadNG.at (vs := bvs (dig K m)) (by rw [bvs_len, dig_len]) .all ?_
   conv=>whnf
   refine StoreG.at (by rw [bvs_len, dig_len]) (Upd.tl (Upd.tl (Upd.tl (Upd.whole (by rw [bvs_len, dig_len]; rfl) (bvs_one _))))) ?_
   conv=>whnf
   refine LoadNG.at (vs := bvs (dig K m)) (by rw [bvs_len, dig_len]) (.tl (.tl (.tl .all))) ?_
   conv=>whnf
   exact ⟨_, Ent.sel (T := []) (A := [_, _, _, _, _]) [4] rfl, rfl, rfl⟩
  have h56 : 56 ≤ m.length % 64 := by omega
  conv=>whnf
  refine LoadNG.at (vs := wvs s) (by rw [wvs_len, hs]) (.tl .all) ?_
  conv=>whnf
  refine LoadNG.at (vs := bvs (padP m)) (by rw [bvs_len, padP_len]) .all ?_
  conv=>whnf
  refine CallG.pure (take_spec _ K s (padP m) (.right hK _) hk hs (padP_len m) hpb) ?_
  rintro _ _ ⟨rfl, rfl⟩
  conv=>whnf
  refine BuildG.of (cs := bvs (List.replicate 64 0)) rfl ?_
  conv=>whnf
  have hts := takeS_len (K := K) (p := padP m) hs
  refine StoreG.at (by rw [wvs_len, hts]) (Upd.tl (Upd.whole (by rw [wvs_len, hts, wvs_len, hs]) (wvs_one _))) ?_
  conv=>whnf
  refine StoreG.at rfl (Upd.whole (by rw [bvs_len, bvs_len, padP_len]; rfl) (bvs_one _)) ?_
  have q1 : takeS K s (padP m) = endS K m := by unfold endS; rw [if_pos h56, hH.st]
  have q2 : List.replicate 64 0 = endP m := by unfold endP; rw [if_pos h56]
  rw [q1, q2]
  conv=>whnf
  have hel := endS_len K m
  refine LoadG.at (v := .int .i64 (m.length : Nat)) (.tl (.tl (.tl (.here (hC_n hs hH.len))))) ?_
  conv=>whnf
  refine ArithG.u64 (by omega) ?_
  conv=>whnf
  refine ArithG.u64 (by omega) ?_
  conv=>whnf
  refine ArithG.u64 (by omega) ?_
  conv=>whnf
  refine ArithG.u64 (by omega) ?_
  have eN : (m.length : Int) * 8 + 0 = ((m.length * 8 : Nat) : Int) := by omega
  rw [eN]
  conv=>whnf
  refine LoopG.mk (fun mm e L => ∃ i, i ≤ 8 ∧ mm = 8 - i ∧ e = [(6, .pointer (some ⟨b6, 0, none⟩)), (7, .pointer (some ⟨b7, 0, none⟩)), (8, .pointer (some ⟨b8, 0, none⟩)), (10, .int .u64 (m.length * 8 : Nat)), (53, .int .i64 i)] ∧
   L = [cel b8 169 (bvs (tailQ (endP m) (m.length * 8) i)), cel b7 185 (wvs (endS K m)), cel b6 81 (bvs (List.replicate 32 0)), cel h 188 (hC s wait m.length)]) 8
   [(6, .pointer (some ⟨b6, 0, none⟩)), (7, .pointer (some ⟨b7, 0, none⟩)), (8, .pointer (some ⟨b8, 0, none⟩)), (10, .int .u64 (m.length * 8 : Nat)), (53, .int .i64 0)] _ ⟨rfl, rfl, rfl, rfl, rfl, trivial⟩ (Ent.refl _) ⟨0, by omega, rfl, rfl, by have ez := tailQ_zero (N := m.length * 8) (endP_len m); first | (rw [ez]; done) | (rw [ez]; rfl)⟩ ?_
  rintro mm e L ⟨i, hi, rfl, rfl, rfl⟩
  conv=>whnf
  refine CondG.dec (fun h9 => ?_) (fun h9 => ?_)
  ·have hi8 : i < 8 := by omega
   conv=>whnf
   refine ArithG.i64 (by omega) ?_
   conv=>whnf
   refine ArithG.i64 (by omega) ?_
   conv=>whnf
   refine SideG.of (by omega) ?_
   conv=>whnf
   refine ArithG.all ?_
   conv=>whnf
   refine SideG.of (by omega) ?_
   conv=>whnf
   have ex := shr_b (m.length * 8) i hi8
   refine StoreG.at rfl (Upd.here (by rw [bvs_len, tailQ_len (endP_len m) (by omega)]; omega) rfl) ?_
   conv=>whnf
   refine ArithG.i64 (by omega) ?_
   conv=>whnf
   refine ⟨8 - (i + 1), _, _, by omega, ?_, Ent.refl _, i + 1, by omega, rfl, rfl, ?_⟩
   ·exact ⟨rfl, rfl, rfl, rfl, rfl, trivial⟩
   rw [show 0 + (63 - (i : Int)).toNat * 1 = 63 - i by omega, ← tailQ_set (endP_len m) hi8]
   show [cel b8 169 ((bvs (tailQ (endP m) (m.length * 8) i)).set (63 - i) (.int .u8 (IntKind.u8.wrap (((m.length * 8 : Nat) : Int).fdiv (2 ^ (min (8 * (i : Int)).toNat 64)))))), _, _, _] = _
   rw [ex]
   rfl
  obtain rfl : i = 8 := by omega
  rw [tailQ_end]
  conv=>whnf
  refine LoadNG.at (vs := wvs (endS K m)) (by rw [wvs_len, hel]) (.tl .all) ?_
  conv=>whnf
  refine LoadNG.at (vs := bvs (endQ m)) (by rw [bvs_len, endQ_len]) .all ?_
  conv=>whnf
  refine CallG.pure (take_spec _ K (endS K m) (endQ m) (.right hK _) hk hel (endQ_len m) (endQ_byte hb)) ?_
  rintro _ _ ⟨rfl, rfl⟩
  conv=>whnf
  have hfl := takeS_len (K := K) (p := endQ m) hel
  refine StoreG.at (by rw [wvs_len, hfl]) (Upd.tl (Upd.whole (by rw [wvs_len, hfl, wvs_len, hel]) (wvs_one _))) ?_
  conv=>whnf
  intro b12
  conv=>whnf
  refine LoopG.mk (fun mm e L => ∃ i, i ≤ 32 ∧ mm = 32 - i ∧ e = [(6, .pointer (some ⟨b6, 0, none⟩)), (7, .pointer (some ⟨b7, 0, none⟩)), (12, .pointer (some ⟨b12, 0, none⟩)), (68, .int .i64 i)] ∧
   L = [cel b12 81 (bvs (fillB (fun i => ((takeS K (endS K m) (endQ m)).getD (i / 4) 0 >>> (24 - 8 * (i % 4))).toNat % 256) 32 i)), cel b8 169 (bvs (endQ m)), cel b7 185 (wvs (takeS K (endS K m) (endQ m))), cel b6 81 (bvs (List.replicate 32 0)), cel h 188 (hC s wait m.length)]) 32
   [(6, .pointer (some ⟨b6, 0, none⟩)), (7, .pointer (some ⟨b7, 0, none⟩)), (12, .pointer (some ⟨b12, 0, none⟩)), (68, .int .i64 0)] _ ⟨rfl, rfl, rfl, rfl, trivial⟩ (Ent.refl _) ⟨0, by omega, rfl, rfl, by rw [fillB_zero]; rfl⟩ ?_
  rintro mm e L ⟨i, hi, rfl, rfl, rfl⟩
  conv=>whnf
  refine CondG.dec (fun h9 => ?_) (fun h9 => ?_)
  ·have hi8 : i < 32 := by omega
   have hq : (i : Int).tdiv 4 = ((i / 4 : Nat) : Int) := rfl
   have hr : (i : Int).tmod 4 = ((i % 4 : Nat) : Int) := rfl
   conv=>whnf
   refine SideG.of (by decide) ?_
   conv=>whnf
   refine ArithG.i64' _ hq (by omega) ?_
   conv=>whnf
   refine SideG.of (by omega) ?_
   conv=>whnf
   have hg : (wvs (takeS K (endS K m) (endQ m)))[0 + ((i / 4 : Nat) : Int).toNat * 1]? = some (wv ((takeS K (endS K m) (endQ m)).getD (i / 4) 0)) := by
    rw [show 0 + ((i / 4 : Nat) : Int).toNat * 1 = i / 4 by omega]
    simp [wvs, List.getD, List.getElem?_eq_getElem (by omega : i / 4 < (takeS K (endS K m) (endQ m)).length)]
   refine LoadG.at (.tl (.tl (.here hg))) ?_
   conv=>whnf
   refine SideG.of (by decide) ?_
   conv=>whnf
   rw [hr]
   refine ArithG.i64 (by omega) ?_
   conv=>whnf
   refine ArithG.i64 (by omega) ?_
   conv=>whnf
   refine SideG.of (by omega) ?_
   conv=>whnf
   refine ArithG.all ?_
   conv=>whnf
   refine SideG.of (by omega) ?_
   conv=>whnf
   have ex := shr_d ((takeS K (endS K m) (endQ m)).getD (i / 4) 0) i
   refine StoreG.at rfl (Upd.here (by simp [bvs_len, fillB_len]; omega) rfl) ?_
   conv=>whnf
   refine ArithG.i64 (by omega) ?_
   conv=>whnf
   refine ⟨32 - (i + 1), _, _, by omega, ?_, Ent.refl _, i + 1, by omega, rfl, rfl, ?_⟩
   ·exact ⟨rfl, rfl, rfl, rfl, trivial⟩
   rw [show 0 + (i : Int).toNat * 1 = i by omega, ← fillB_set _ hi8]
   show [cel b12 81 ((bvs (fillB _ 32 i)).set i (.int .u8 (IntKind.u8.wrap ((((takeS K (endS K m) (endQ m)).getD (i / 4) 0).toNat : Int).fdiv (2 ^ (min (24 - 8 * ((i % 4 : Nat) : Int)).toNat 32)))))), _, _, _, _] = _
   rw [ex]
   rfl
  obtain rfl : i = 32 := by omega
  rw [fillB_all]
  conv=>whnf
  refine LoadNG.at (vs := bvs (dig K m)) (by rw [bvs_len, dig_len]) .all ?_
  conv=>whnf
  refine StoreG.at (by rw [bvs_len, dig_len]) (Upd.tl (Upd.tl (Upd.tl (Upd.whole (by rw [bvs_len, dig_len]; rfl) (bvs_one _))))) ?_
  conv=>whnf
  refine LoadNG.at (vs := bvs (dig K m)) (by rw [bvs_len, dig_len]) (.tl (.tl (.tl .all))) ?_
  conv=>whnf
  exact ⟨_, Ent.sel (T := []) (A := [_, _, _, _, _]) [4] rfl, rfl, rfl⟩
theorem hsum_spec (F : List HP) (K : List W32) (hK : CelN F 4 0 (wvs K)) (hk : K.length = 64) (h : Nat) (m : List Nat) (s : List W32) (wait : List Nat) (hH : Hs K m s wait) (hm : m.length ≤ 1152921504606846976) (hb : ∀ b ∈ m, b < 256) :
 SpecF Tryz.prog 108 [.pointer (some ⟨h, 0, none⟩)] F [cel h 188 (hC s wait m.length)] (fun v L => v = .agg ⟨bvs (dig K m)⟩ ∧ L = [cel h 188 (hC s wait m.length)]) := by
 refine fun108.spec rfl ?_
 conv=>whnf
 intro b2
 conv=>whnf
 refine CallG.of (rest := [cel b2 81 (bvs (List.replicate 32 0))]) (end_spec _ K (.right hK _) hk h m s wait hH hm hb) (Ent.perm (List.Perm.swap _ _ _)) ?_
 rintro _ _ ⟨rfl, rfl⟩
 conv=>whnf
 refine StoreG.at (by rw [bvs_len, dig_len]) (Upd.tl (Upd.whole (by rw [bvs_len, dig_len]; rfl) (bvs_one _))) ?_
 conv=>whnf
 refine LoadNG.at (vs := bvs (dig K m)) (by rw [bvs_len, dig_len]) (.tl .all) ?_
 conv=>whnf
 exact ⟨_, Ent.sel (T := []) (A := [_, _]) [0] rfl, rfl, rfl⟩
theorem dparts_spec (F : List HP) (K : List W32) (hK : CelN F 4 0 (wvs K)) (hk : K.length = 64) (v : Value) (ps : List (List Nat)) (hp : RdParts F v ps) (hn : ps.length ≤ 1152921504606846976) (hm : sumL ps ≤ 1152921504606846976) (hb : ∀ l ∈ ps, ∀ b ∈ l, b < 256) :
 SpecF Tryz.prog 89 [v] F [] (fun r L => r = .agg ⟨bvs (dig K ps.flatten)⟩ ∧ L = []) := by
 obtain ⟨us, hus, hul, hps⟩ := hp.out
 have hbf : ∀ b ∈ ps.flatten, b < 256 := fun b h => by
  obtain ⟨l, hl, hbl⟩ := List.mem_flatten.1 h
  exact hb l hl b hbl
 refine fun89.spec rfl ?_
 conv=>whnf
 intro b2
 conv=>whnf
 refine CallG.pure (hnew_spec _) ?_
 rintro _ _ ⟨h, rfl, rfl⟩
 conv=>whnf
 refine LenG.rd hus ?_
 conv=>whnf
 refine LoopG.mk (fun mm e L => ∃ i s wait, i ≤ ps.length ∧ Hs K (ps.take i).flatten s wait ∧ mm = ps.length - i ∧ e = [(2, .pointer (some ⟨b2, 0, none⟩)), (3, .pointer (some ⟨h, 0, none⟩)), (7, v), (8, .int .i64 ps.length), (9, .int .i64 i)] ∧
  L = [cel h 188 (hC s wait (ps.take i).flatten.length), cel b2 81 (bvs (List.replicate 32 0))]) ps.length
  [(2, .pointer (some ⟨b2, 0, none⟩)), (3, .pointer (some ⟨h, 0, none⟩)), (7, v), (8, .int .i64 ps.length), (9, .int .i64 0)] _ ⟨rfl, rfl, rfl, rfl, rfl, trivial⟩ (Ent.refl _) ⟨0, ivW, List.replicate 64 0, by omega, Hs.begin K, rfl, rfl, rfl⟩ ?_
 rintro mm e L ⟨i, s, wait, hi, hH, rfl, rfl, rfl⟩
 conv=>whnf
 refine CondG.dec (fun h1 => ?_) (fun h1 => ?_)
 ·have hi' : i < ps.length := by omega
  obtain ⟨x, hx, hxr⟩ := hps i hi'
  have hle := sum_le ps (i + 1)
  have hst := sum_take hi'
  conv=>whnf
  refine IdxG.rd hus (by omega) fun c o hc => ?_
  conv=>whnf
  refine LoadG.atF (v := x) (hc.one (i := (i : Int).toNat * 1) (by simpa using hx)) ?_
  conv=>whnf
  refine CallG.of (pre := [cel h 188 (hC s wait (ps.take i).flatten.length)]) (rest := [cel b2 81 (bvs (List.replicate 32 0))]) (write_spec _ K (.right hK _) hk h _ ps[i] s wait x hH (.right hxr _) (hb _ (List.getElem_mem hi')) (by simp only [sumL] at hle hst hm; omega)) (Ent.refl _) ?_
  rintro _ _ ⟨s', wait', hH', rfl⟩
  conv=>whnf
  refine ArithG.i64 (by omega) ?_
  conv=>whnf
  have ef : (ps.take i).flatten ++ ps[i] = (ps.take (i + 1)).flatten := by
   rw [List.take_succ_eq_append_getElem hi', List.flatten_append]; simp
  rw [ef] at hH' ⊢
  refine ⟨ps.length - (i + 1), _, _, by omega, ?_, Ent.refl _, i + 1, s', wait', by omega, hH', rfl, rfl, rfl⟩
  exact ⟨rfl, rfl, rfl, rfl, rfl, trivial⟩
 ·obtain rfl : i = ps.length := by omega
  rw [List.take_length] at hH ⊢
  conv=>whnf
  refine CallG.of (pre := [cel h 188 (hC s wait ps.flatten.length)]) (rest := [cel b2 81 (bvs (List.replicate 32 0))]) (hsum_spec _ K (.right hK _) hk h _ s wait hH hm hbf) (Ent.refl _) ?_
  rintro _ _ ⟨rfl, rfl⟩
  conv=>whnf
  refine StoreG.at (by rw [bvs_len, dig_len]) (Upd.tl (Upd.whole (by rw [bvs_len, dig_len]; rfl) (bvs_one _))) ?_
  conv=>whnf
  refine LoadNG.at (vs := bvs (dig K ps.flatten)) (by rw [bvs_len, dig_len]) (.tl .all) ?_
  conv=>whnf
  exact ⟨[], Ent.nil _, rfl, rfl⟩
theorem dsum_spec (F : List HP) (K : List W32) (hK : CelN F 4 0 (wvs K)) (hk : K.length = 64) (v : Value) (bs : List Nat) (hv : RdS F v bs.length (bvs bs)) (hm : bs.length ≤ 1152921504606846976) (hb : ∀ b ∈ bs, b < 256) :
 SpecF Tryz.prog 99 [v] F [] (fun r L => r = .agg ⟨bvs (dig K bs)⟩ ∧ L = []) := by
 obtain ⟨va, vc, hve⟩ := hv.len
 subst hve
 refine fun99.spec rfl ?_
 conv=>whnf
 intro b2
 conv=>whnf
 refine BuildG.of rfl ?_
 conv=>whnf
 intro b3
 conv=>whnf
 refine CallG.pure (dparts_spec _ K (.right hK _) hk _ [bs] (RdParts.one (.tl (hv))) (by simp) (by simpa [sumL] using hm) (by simpa using hb)) ?_
 rintro _ _ ⟨rfl, rfl⟩
 simp only [List.flatten_cons, List.flatten_nil, List.append_nil]
 conv=>whnf
 refine StoreG.at (by rw [bvs_len, dig_len]) (Upd.tl (Upd.whole (by rw [bvs_len, dig_len]; rfl) (bvs_one _))) ?_
 conv=>whnf
 refine LoadNG.at (vs := bvs (dig K bs)) (by rw [bvs_len, dig_len]) (.tl .all) ?_
 conv=>whnf
 exact ⟨[], Ent.nil _, rfl, rfl⟩
end Go.Proofs.YtmfonkklmndhjaaGreatDoor
