import Derived.Test.YtjacolfhlfogkabGreatDoorMu
import Derived.Test.YtjacolfhlfogkabGreatDoorLz
namespace Go.Proofs.YtjacolfhlfogkabGreatDoor
open Go Go.Sl
theorem add2_q (F : List HP) (a b : List Nat) (ha : wOk a) (hb : wOk b) : SpecF Tryz.prog 117 [.agg ⟨uvs a⟩, .agg ⟨uvs b⟩] F [] (fun r L => r = .tuple #[.agg ⟨uvs (addR a b).1⟩, .int .i64 (addR a b).2] ∧ L = []) := by
 have e : numN (nat4 a + nat4 b) = (addR a b).1 ∧ ansE (nat4 a + nat4 b) = (addR a b).2 := by
  unfold numN ansE addR
  rw [show (2 : Nat) ^ 256 = m256 from rfl]
  by_cases h : m256 ≤ nat4 a + nat4 b
  ·rw [if_pos h, if_neg (Nat.not_lt.2 h), if_neg (Nat.not_lt.2 h)]; exact ⟨rfl, rfl⟩
  ·rw [if_neg h, if_pos (Nat.lt_of_not_le h), if_pos (Nat.lt_of_not_le h)]; exact ⟨rfl, rfl⟩
 have h := add2_spec F a b ha hb
 rw [e.1, e.2] at h
 exact h
theorem sub2_q (F : List HP) (a b : List Nat) (ha : wOk a) (hb : wOk b) : SpecF Tryz.prog 122 [.agg ⟨uvs a⟩, .agg ⟨uvs b⟩] F [] (fun r L => r = .tuple #[.agg ⟨uvs (subR a b).1⟩, .int .i64 (subR a b).2] ∧ L = []) := by
 have e : (if nat4 a < nat4 b then Value.tuple #[.agg ⟨uvs z4⟩, .int .i64 23] else .tuple #[.agg ⟨uvs (w4 (nat4 a - nat4 b))⟩, .int .i64 0]) = .tuple #[.agg ⟨uvs (subR a b).1⟩, .int .i64 (subR a b).2] := by
  unfold subR
  by_cases h : nat4 a < nat4 b
  ·rw [if_pos h, if_pos h]
  ·rw [if_neg h, if_neg h]; rfl
 have h := sub2_spec F a b ha hb
 rw [e] at h
 exact h
section
variable {find : SrcF} {hv nv : Value} {part : Bool}
theorem register8_q (F : List HP) (s : Nat) (R : RSt) (t : Int) (hd : DocF F hv nv part find) (hl : Lim R 2) :
 SpecF Tryz.prog 43 [.pointer (some ⟨s, 0, none⟩), .int .i64 t] F [refR 83 s hv part nv R] (fun r L => r = .int .i64 (registerQ find R t).1 ∧ L = [refR 83 s hv part nv (registerQ find R t).2]) := by
 have hok := (tokenQ_ok find R t).len
 have hl1 : (tokenQ find R t).1.1.cells.length = 6 := TokD.cells_len hok
 refine fun43.spec rfl ?_
 conv=>whnf
 refine CallG.of (pre := [refR 83 s hv part nv R]) (rest := []) (token8_q _ s R t (hd.left _) (hl.mono (by decide))) (Ent.refl _) ?_
 rintro _ _ ⟨rfl, rfl⟩
 conv=>whnf
 intro b5
 conv=>whnf
 refine StoreG.at hl1 (Upd.whole (by rw [hl1]; rfl) (TokD.cells_one _)) ?_
 conv=>whnf
 refine CondG.ndec (fun h1 => ?_) (fun h1 => ?_)
 ·conv=>whnf
  refine ⟨_, Ent.sel (T := []) (A := [_, _]) [1] rfl, ?_⟩
  rw [registerQ, if_pos h1]
  exact ⟨rfl, rfl⟩
 obtain ⟨m, rfl, hm⟩ := tokenQ_nat find h1
 have h1' : ¬ (tokenQ find R m).1.2 ≠ 0 := fun h => h h1
 conv=>whnf
 refine LoadG.at (v := .bool (tokenQ find R m).1.1.there) (.here rfl) ?_
 conv=>whnf
 refine CondG.split (fun h2 => ?_) (fun h2 => ?_)
 ·conv=>whnf
  refine ⟨_, Ent.sel (T := []) (A := [_, _]) [1] rfl, ?_⟩
  rw [registerQ, if_neg h1', if_pos h2]
  exact ⟨rfl, rfl⟩
 conv=>whnf
 refine BuildG.of (cs := uvs z4) rfl ?_
 conv=>whnf
 refine CallG.of (pre := [refR 83 s hv part nv (tokenQ find R m).2]) (rest := [cel b5 61 (tokenQ find R m).1.1.cells]) (layToken8_q _ s (tokenQ find R m).2 m hm false z4 zero4_ok (hd.left _) (hl.token hd.1 m)) (Ent.perm (List.Perm.swap _ _ _)) ?_
 rintro _ _ ⟨rfl, rfl⟩
 conv=>whnf
 refine ⟨_, Ent.sel (T := []) (A := [_, _]) [0] rfl, ?_⟩
 rw [registerQ, if_neg h1', if_neg (by rw [h2]; decide)]
 exact ⟨rfl, rfl⟩
theorem pause8_q (F : List HP) (s : Nat) (R : RSt) (t : Int) (hd : DocF F hv nv part find) (hl : Lim R 2) :
 SpecF Tryz.prog 44 [.pointer (some ⟨s, 0, none⟩), .int .i64 t] F [refR 83 s hv part nv R] (fun r L => r = .int .i64 (pauseQ find R t).1 ∧ L = [refR 83 s hv part nv (pauseQ find R t).2]) := by
 refine fun44.spec rfl ?_
 conv=>whnf
 refine CallG.of (pre := [refR 83 s hv part nv R]) (rest := []) (there8_q _ s R t true (hd.left _) (hl.mono (by decide))) (Ent.refl _) ?_
 rintro _ _ ⟨d, hdk, rfl, hdx, rfl⟩
 rw [show thrQ find R t true = runQ find R t from rfl] at hdx ⊢
 have hl1 : d.cells.length = 6 := TokD.cells_len hdk.len
 conv=>whnf
 intro b5
 conv=>whnf
 refine StoreG.at hl1 (Upd.whole (by rw [hl1]; rfl) (TokD.cells_one _)) ?_
 conv=>whnf
 refine CondG.ndec (fun h1 => ?_) (fun h1 => ?_)
 ·conv=>whnf
  refine ⟨_, Ent.sel (T := []) (A := [_, _]) [1] rfl, ?_⟩
  rw [pauseQ, if_pos h1]
  exact ⟨rfl, rfl⟩
 obtain rfl := hdx h1
 obtain ⟨m, rfl, hm⟩ := runQ_nat find h1
 conv=>whnf
 refine LoadNG.at (vs := uvs (runQ find R m).1.1.sup) (by rw [uvs_len, hdk.len]) (.here (sup_at _)) ?_
 conv=>whnf
 refine CallG.of (pre := [refR 83 s hv part nv (runQ find R m).2]) (rest := [cel b5 61 (runQ find R m).1.1.cells]) (layToken8_q _ s (runQ find R m).2 m hm true _ hdk (hd.left _) (hl.run hd.1 m)) (Ent.perm (List.Perm.swap _ _ _)) ?_
 rintro _ _ ⟨rfl, rfl⟩
 conv=>whnf
 refine ⟨_, Ent.sel (T := []) (A := [_, _]) [0] rfl, ?_⟩
 rw [pauseQ, if_neg (fun h => h h1)]
 exact ⟨rfl, rfl⟩
theorem resume8_q (F : List HP) (s : Nat) (R : RSt) (t : Int) (hd : DocF F hv nv part find) (hl : Lim R 2) :
 SpecF Tryz.prog 45 [.pointer (some ⟨s, 0, none⟩), .int .i64 t] F [refR 83 s hv part nv R] (fun r L => r = .int .i64 (resumeQ find R t).1 ∧ L = [refR 83 s hv part nv (resumeQ find R t).2]) := by
 refine fun45.spec rfl ?_
 conv=>whnf
 refine CallG.of (pre := [refR 83 s hv part nv R]) (rest := []) (there8_q _ s R t false (hd.left _) (hl.mono (by decide))) (Ent.refl _) ?_
 rintro _ _ ⟨d, hdk, rfl, hdx, rfl⟩
 rw [show thrQ find R t false = thereQ find R t from rfl] at hdx ⊢
 have hl1 : d.cells.length = 6 := TokD.cells_len hdk.len
 conv=>whnf
 intro b5
 conv=>whnf
 refine StoreG.at hl1 (Upd.whole (by rw [hl1]; rfl) (TokD.cells_one _)) ?_
 conv=>whnf
 refine CondG.ndec (fun h1 => ?_) (fun h1 => ?_)
 ·conv=>whnf
  refine ⟨_, Ent.sel (T := []) (A := [_, _]) [1] rfl, ?_⟩
  rw [resumeQ, if_pos h1]
  exact ⟨rfl, rfl⟩
 obtain rfl := hdx h1
 obtain ⟨m, rfl, hm⟩ := thereQ_nat find h1
 conv=>whnf
 refine LoadG.at (v := .bool (thereQ find R m).1.1.paused) (.here rfl) ?_
 conv=>whnf
 refine CondG.split (fun h2 => ?_) (fun h2 => ?_)
 ·have h2' : (thereQ find R m).1.1.paused = false := by simpa using h2
  conv=>whnf
  refine ⟨_, Ent.sel (T := []) (A := [_, _]) [1] rfl, ?_⟩
  rw [resumeQ, if_neg (fun h => h h1), if_pos h2']
  exact ⟨rfl, rfl⟩
 have h2' : ¬ (thereQ find R m).1.1.paused = false := fun e => by rw [e] at h2; exact absurd h2 (by decide)
 conv=>whnf
 refine LoadNG.at (vs := uvs (thereQ find R m).1.1.sup) (by rw [uvs_len, hdk.len]) (.here (sup_at _)) ?_
 conv=>whnf
 refine CallG.of (pre := [refR 83 s hv part nv (thereQ find R m).2]) (rest := [cel b5 61 (thereQ find R m).1.1.cells]) (layToken8_q _ s (thereQ find R m).2 m hm false _ hdk (hd.left _) (hl.there hd.1 m)) (Ent.perm (List.Perm.swap _ _ _)) ?_
 rintro _ _ ⟨rfl, rfl⟩
 conv=>whnf
 refine ⟨_, Ent.sel (T := []) (A := [_, _]) [0] rfl, ?_⟩
 rw [resumeQ, if_neg (fun h => h h1), if_neg h2']
 exact ⟨rfl, rfl⟩
theorem balance8_q (F : List HP) (s : Nat) (R : RSt) (t : Int) (a : List Nat) (ha : a.length = 20) (hd : DocF F hv nv part find) (hl : Lim R 1) :
 SpecF Tryz.prog 74 [.pointer (some ⟨s, 0, none⟩), .int .i64 t, .agg ⟨bvs a⟩] F [refR 83 s hv part nv R] (fun r L => r = .tuple #[.agg ⟨uvs (balQ find R t a).1.1⟩, .int .i64 (balQ find R t a).1.2] ∧ L = [refR 83 s hv part nv (balQ find R t a).2]) := by
 refine fun74.spec rfl ?_
 conv=>whnf
 intro b5
 conv=>whnf
 intro b6
 conv=>whnf
 refine CallG.pure (first8_spec _ s t) ?_
 rintro _ _ ⟨rfl, rfl⟩
 conv=>whnf
 refine CondG.ndec (fun h1 => ?_) (fun h1 => ?_)
 ·conv=>whnf
  refine BuildG.of rfl ?_
  conv=>whnf
  refine StoreG.at rfl (Upd.whole rfl (uvs_one z4)) ?_
  conv=>whnf
  refine LoadNG.at (vs := uvs z4) rfl .all ?_
  conv=>whnf
  refine ⟨_, Ent.sel (T := []) (A := [_, _, _]) [2] rfl, ?_⟩
  rw [balQ, if_pos h1]
  exact ⟨rfl, rfl⟩
 obtain ⟨m, rfl, hm⟩ := begE_nat h1
 have hok := amtQ_ok find R (balKey m a)
 have hl1 : (uvs (amtQ find R (balKey m a)).1.1).length = 4 := by rw [uvs_len, hok.len]
 conv=>whnf
 refine LoadNG.at (vs := bvs a) (by rw [bvs_len, ha]) (.tl .all) ?_
 conv=>whnf
 refine CallG.pure (balanceKey8_spec _ m hm a ha) ?_
 rintro _ _ ⟨rfl, rfl⟩
 conv=>whnf
 refine CallG.of (pre := [refR 83 s hv part nv R]) (rest := [cel b6 38 (uvs z4), cel b5 35 (bvs a)]) (asked8_q _ s R (balKey m a) (hd.left _) hl) (Ent.sel (T := []) (A := [_, _, _]) [2, 0, 1] rfl) ?_
 rintro _ _ ⟨rfl, rfl⟩
 conv=>whnf
 refine StoreG.at hl1 (Upd.tl (Upd.whole (by rw [hl1]; rfl) (uvs_one _))) ?_
 conv=>whnf
 refine LoadNG.at (vs := uvs (amtQ find R (balKey m a)).1.1) hl1 (.tl .all) ?_
 conv=>whnf
 refine ⟨_, Ent.sel (T := []) (A := [_, _, _]) [0] rfl, ?_⟩
 rw [balQ, if_neg (by rw [h1]; decide)]
 exact ⟨rfl, rfl⟩
theorem allowed8_q (F : List HP) (s : Nat) (R : RSt) (t : Int) (o p : List Nat) (hol : o.length = 20) (hpl : p.length = 20) (hd : DocF F hv nv part find) (hl : Lim R 1) :
 SpecF Tryz.prog 75 [.pointer (some ⟨s, 0, none⟩), .int .i64 t, .agg ⟨bvs o⟩, .agg ⟨bvs p⟩] F [refR 83 s hv part nv R] (fun r L => r = .tuple #[.agg ⟨uvs (allowedQ find R t o p).1.1⟩, .int .i64 (allowedQ find R t o p).1.2] ∧ L = [refR 83 s hv part nv (allowedQ find R t o p).2]) := by
 refine fun75.spec rfl ?_
 conv=>whnf
 intro b6
 conv=>whnf
 intro b7
 conv=>whnf
 intro b8
 conv=>whnf
 refine CallG.pure (first8_spec _ s t) ?_
 rintro _ _ ⟨rfl, rfl⟩
 conv=>whnf
 refine CondG.ndec (fun h1 => ?_) (fun h1 => ?_)
 ·conv=>whnf
  refine BuildG.of rfl ?_
  conv=>whnf
  refine StoreG.at rfl (Upd.whole rfl (uvs_one z4)) ?_
  conv=>whnf
  refine LoadNG.at (vs := uvs z4) rfl .all ?_
  conv=>whnf
  refine ⟨_, Ent.sel (T := []) (A := [_, _, _, _]) [3] rfl, ?_⟩
  rw [allowedQ, if_pos h1]
  exact ⟨rfl, rfl⟩
 obtain ⟨m, rfl, hm⟩ := begE_nat h1
 have hok := amtQ_ok find R (allKey m o p)
 have hl1 : (uvs (amtQ find R (allKey m o p)).1.1).length = 4 := by rw [uvs_len, hok.len]
 conv=>whnf
 refine LoadNG.at (vs := bvs o) (by rw [bvs_len, hol]) (.tl (.tl .all)) ?_
 conv=>whnf
 refine LoadNG.at (vs := bvs p) (by rw [bvs_len, hpl]) (.tl .all) ?_
 conv=>whnf
 refine CallG.pure (allowanceKey8_spec _ m hm o p hol hpl) ?_
 rintro _ _ ⟨rfl, rfl⟩
 conv=>whnf
 refine CallG.of (pre := [refR 83 s hv part nv R]) (rest := [cel b8 38 (uvs z4), cel b7 35 (bvs p), cel b6 35 (bvs o)]) (asked8_q _ s R (allKey m o p) (hd.left _) hl) (Ent.sel (T := []) (A := [_, _, _, _]) [3, 0, 1, 2] rfl) ?_
 rintro _ _ ⟨rfl, rfl⟩
 conv=>whnf
 refine StoreG.at hl1 (Upd.tl (Upd.whole (by rw [hl1]; rfl) (uvs_one _))) ?_
 conv=>whnf
 refine LoadNG.at (vs := uvs (amtQ find R (allKey m o p)).1.1) hl1 (.tl .all) ?_
 conv=>whnf
 refine ⟨_, Ent.sel (T := []) (A := [_, _, _, _]) [0] rfl, ?_⟩
 rw [allowedQ, if_neg (by rw [h1]; decide)]
 exact ⟨rfl, rfl⟩
theorem allow8_q (F : List HP) (s : Nat) (R : RSt) (t : Int) (ow sp a : List Nat) (how : ow.length = 20) (hsp : sp.length = 20) (ha : wOk a) (hd : DocF F hv nv part find) (hl : Lim R 2) :
 SpecF Tryz.prog 71 [.pointer (some ⟨s, 0, none⟩), .int .i64 t, .agg ⟨bvs ow⟩, .agg ⟨bvs sp⟩, .agg ⟨uvs a⟩] F [refR 83 s hv part nv R] (fun r L => r = .int .i64 (allowQ find R t ow sp a).1 ∧ L = [refR 83 s hv part nv (allowQ find R t ow sp a).2]) := by
 have hal : (uvs a).length = 4 := by rw [uvs_len, ha.len]
 refine fun71.spec rfl ?_
 conv=>whnf
 intro b7
 conv=>whnf
 intro b8
 conv=>whnf
 intro b9
 conv=>whnf
 refine CallG.of (pre := [refR 83 s hv part nv R]) (rest := [cel b9 38 (uvs a), cel b8 35 (bvs sp), cel b7 35 (bvs ow)]) (there8_q _ s R t false (hd.left _) (hl.mono (by decide))) (Ent.sel (T := []) (A := [_, _, _, _]) [3, 0, 1, 2] rfl) ?_
 rintro _ _ ⟨d, hdk, rfl, hdx, rfl⟩
 rw [show thrQ find R t false = thereQ find R t from rfl] at hdx ⊢
 have hl1 : d.cells.length = 6 := TokD.cells_len hdk.len
 conv=>whnf
 intro b11
 conv=>whnf
 refine StoreG.at hl1 (Upd.whole (by rw [hl1]; rfl) (TokD.cells_one _)) ?_
 conv=>whnf
 refine CondG.ndec (fun h1 => ?_) (fun h1 => ?_)
 ·conv=>whnf
  refine ⟨_, Ent.sel (T := []) (A := [_, _, _, _, _]) [1] rfl, ?_⟩
  rw [allowQ, if_pos h1]
  exact ⟨rfl, rfl⟩
 obtain rfl := hdx h1
 obtain ⟨m, rfl, hm⟩ := thereQ_nat find h1
 conv=>whnf
 refine DrawG.mk 8 [cel b11 61 (thereQ find R m).1.1.cells, cel b9 38 (uvs a), cel b8 35 (bvs sp), cel b7 35 (bvs ow)] [refR 83 s hv part nv (thereQ find R m).2] (Ent.sel (T := []) (A := [_, _, _, _, _]) [1, 0, 2, 3, 4] rfl) ?_
 conv=>whnf
 refine .take 0 ?_
 conv=>whnf
 refine ⟨rfl, ?_⟩
 conv=>whnf
 refine .take 1 ?_
 conv=>whnf
 refine ⟨rfl, ?_⟩
 conv=>whnf
 refine .take 2 ?_
 conv=>whnf
 refine ⟨rfl, ?_⟩
 conv=>whnf
 refine LoadNG.at (vs := bvs ow) (by rw [bvs_len, how]) (.tl (.tl (.tl .all))) ?_
 conv=>whnf
 refine .take 3 ?_
 conv=>whnf
 refine ⟨rfl, ?_⟩
 conv=>whnf
 refine LoadNG.at (vs := bvs sp) (by rw [bvs_len, hsp]) (.tl (.tl .all)) ?_
 conv=>whnf
 refine .take 5 ?_
 conv=>whnf
 refine ⟨rfl, ?_⟩
 conv=>whnf
 refine LoadNG.at (vs := uvs a) hal (.tl .all) ?_
 conv=>whnf
 refine .all ?_
 conv=>whnf
 refine ⟨by decide, ?_⟩
 conv=>whnf
 refine CallG.pure (allowanceKey8_spec _ m hm ow sp how hsp) ?_
 rintro _ _ ⟨rfl, rfl⟩
 conv=>whnf
 refine .all ?_
 conv=>whnf
 refine ⟨by decide, ?_⟩
 conv=>whnf
 refine CallG.of (pre := [refR 83 s hv part nv (thereQ find R m).2]) (rest := []) (lay8_q _ s (thereQ find R m).2 (allKey m ow sp) a ha ((hd.left _).left _) (hl.there hd.1 m)) (Ent.refl _) ?_
 rintro _ _ ⟨rfl, rfl⟩
 conv=>whnf
 refine .take 7 ?_
 conv=>whnf
 refine ⟨rfl, ?_⟩
 conv=>whnf
 refine ⟨rfl, ?_⟩
 conv=>whnf
 refine ⟨_, Ent.sel (T := []) (A := [_, _, _, _, _]) [0] rfl, ?_⟩
 rw [allowQ, if_neg (fun h => h h1)]
 exact ⟨rfl, rfl⟩
end
end Go.Proofs.YtjacolfhlfogkabGreatDoor
namespace Go.Proofs.YtjacolfhlfogkabGreatDoor
open Go Go.Sl
section
variable {find : SrcF} {hv nv : Value} {part : Bool}
theorem mint8_q (F : List HP) (s : Nat) (R : RSt) (t : Int) (to a : List Nat) (hto : to.length = 20) (ha : wOk a) (hd : DocF F hv nv part find) (hl : Lim R 4) :
 SpecF Tryz.prog 68 [.pointer (some ⟨s, 0, none⟩), .int .i64 t, .agg ⟨bvs to⟩, .agg ⟨uvs a⟩] F [refR 83 s hv part nv R] (fun r L => r = .int .i64 (mintQ find R t to a).1 ∧ L = [refR 83 s hv part nv (mintQ find R t to a).2]) := by
 have hal : (uvs a).length = 4 := by rw [uvs_len, ha.len]
 refine fun68.spec rfl ?_
 conv=>whnf
 intro b6
 conv=>whnf
 intro b7
 conv=>whnf
 refine CallG.of (pre := [refR 83 s hv part nv R]) (rest := [cel b7 38 (uvs a), cel b6 35 (bvs to)]) (there8_q _ s R t true (hd.left _) (hl.mono (by decide))) (Ent.sel (T := []) (A := [_, _, _]) [2, 0, 1] rfl) ?_
 rintro _ _ ⟨d, hdk, rfl, hdx, rfl⟩
 rw [show thrQ find R t true = runQ find R t from rfl] at hdx ⊢
 have hl1 : d.cells.length = 6 := TokD.cells_len hdk.len
 conv=>whnf
 intro b9
 conv=>whnf
 refine StoreG.at hl1 (Upd.whole (by rw [hl1]; rfl) (TokD.cells_one _)) ?_
 conv=>whnf
 refine CondG.ndec (fun h1 => ?_) (fun h1 => ?_)
 ·conv=>whnf
  refine ⟨_, Ent.sel (T := []) (A := [_, _, _, _]) [1] rfl, ?_⟩
  unfold mintQ
  rw [if_pos h1]
  exact ⟨rfl, rfl⟩
 obtain rfl := hdx h1
 obtain ⟨m, rfl, hm⟩ := runQ_nat find h1
 have h1' : ¬ (runQ find R m).1.2 ≠ 0 := fun h => h h1
 have em : ((m : Nat) : Int).toNat = m := Int.toNat_natCast m
 have hsl : (uvs (runQ find R m).1.1.sup).length = 4 := by rw [uvs_len, hdk.len]
 have hlx : Lim (runQ find R m).2 3 := hl.run hd.1 m
 have hly : Lim (amtQ find (runQ find R m).2 (balKey m to)).2 2 := hlx.amt hd.1 _
 have hbk := amtQ_ok find (runQ find R m).2 (balKey m to)
 have hbl : (uvs (amtQ find (runQ find R m).2 (balKey m to)).1.1).length = 4 := by rw [uvs_len, hbk.len]
 have hA : (uvs (addR (runQ find R m).1.1.sup a).1).length = 4 := by rw [uvs_len, addR_ok]
 have hB : (uvs (addR (amtQ find (runQ find R m).2 (balKey m to)).1.1 a).1).length = 4 := by rw [uvs_len, addR_ok]
 conv=>whnf
 refine LoadNG.at (vs := uvs (runQ find R m).1.1.sup) hsl (.here (sup_at _)) ?_
 conv=>whnf
 refine LoadNG.at (vs := uvs a) hal (.tl (.tl (.all))) ?_
 conv=>whnf
 refine CallG.pure (add2_q _ _ a hdk ha) ?_
 rintro _ _ ⟨rfl, rfl⟩
 conv=>whnf
 intro bs
 conv=>whnf
 refine StoreG.at hA (Upd.whole (by rw [hA]; rfl) (uvs_one _)) ?_
 conv=>whnf
 by_cases h2 : m256 ≤ nat4 (runQ find R m).1.1.sup + nat4 a
 ·rw [addR_no h2]
  refine CondG.tt ?_
  conv=>whnf
  refine ⟨_, Ent.sel (T := []) (A := [_, _, _, _, _]) [2] rfl, ?_⟩
  unfold mintQ mintA lay2Q
  rw [if_neg h1', if_pos h2]
  exact ⟨rfl, rfl⟩
 rw [addR_yes h2]
 refine CondG.ff ?_
 conv=>whnf
 refine LoadNG.at (vs := bvs to) (by rw [bvs_len, hto]) (.tl (.tl (.tl (.tl (.all))))) ?_
 conv=>whnf
 refine CallG.pure (balanceKey8_spec _ m hm to hto) ?_
 rintro _ _ ⟨rfl, rfl⟩
 conv=>whnf
 refine CallG.of (pre := [refR 83 s hv part nv (runQ find R m).2]) (rest := [cel bs 38 (uvs (addL (runQ find R m).1.1.sup a)), cel b9 61 (runQ find R m).1.1.cells, cel b7 38 (uvs a), cel b6 35 (bvs to)]) (asked8_q _ s (runQ find R m).2 (balKey m to) (hd.left _) (hlx.mono (by decide))) (Ent.sel (T := []) (A := [_, _, _, _, _]) [2, 0, 1, 3, 4] rfl) ?_
 rintro _ _ ⟨rfl, rfl⟩
 conv=>whnf
 intro bh
 conv=>whnf
 refine StoreG.at hbl (Upd.whole (by rw [hbl]; rfl) (uvs_one _)) ?_
 conv=>whnf
 refine CondG.ndec (fun h3 => ?_) (fun h3 => ?_)
 ·conv=>whnf
  refine ⟨_, Ent.sel (T := []) (A := [_, _, _, _, _, _]) [1] rfl, ?_⟩
  unfold mintQ mintA lay2Q
  rw [if_neg h1', if_neg h2, em, if_pos h3]
  exact ⟨rfl, rfl⟩
 have h3' : ¬ (amtQ find (runQ find R m).2 (balKey m to)).1.2 ≠ 0 := fun h => h h3
 conv=>whnf
 refine LoadNG.at (vs := uvs (amtQ find (runQ find R m).2 (balKey m to)).1.1) hbl .all ?_
 conv=>whnf
 refine LoadNG.at (vs := uvs a) hal (.tl (.tl (.tl (.tl (.all))))) ?_
 conv=>whnf
 refine CallG.pure (add2_q _ _ a hbk ha) ?_
 rintro _ _ ⟨rfl, rfl⟩
 conv=>whnf
 intro bm
 conv=>whnf
 refine StoreG.at hB (Upd.whole (by rw [hB]; rfl) (uvs_one _)) ?_
 conv=>whnf
 by_cases h4 : m256 ≤ nat4 (amtQ find (runQ find R m).2 (balKey m to)).1.1 + nat4 a
 ·rw [addR_no h4]
  refine CondG.tt ?_
  conv=>whnf
  refine ⟨_, Ent.sel (T := []) (A := [_, _, _, _, _, _, _]) [2] rfl, ?_⟩
  unfold mintQ mintA lay2Q
  rw [if_neg h1', if_neg h2, em, if_neg h3', if_pos h4]
  exact ⟨rfl, rfl⟩
 rw [addR_yes h4]
 refine CondG.ff ?_
 conv=>whnf
 refine LoadNG.at (vs := uvs a) hal (.tl (.tl (.tl (.tl (.tl (.all)))))) ?_
 conv=>whnf
 refine CallG.pure (zero2_spec _ a ha.len) ?_
 rintro _ _ ⟨rfl, rfl⟩
 conv=>whnf
 refine CondG.dec (fun h5 => ?_) (fun h5 => ?_)
 ·conv=>whnf
  refine ⟨_, Ent.sel (T := []) (A := [_, _, _, _, _, _, _]) [2] rfl, ?_⟩
  unfold mintQ mintA lay2Q
  rw [if_neg h1', if_neg h2, em, if_neg h3', if_neg h4, if_pos h5]
  exact ⟨rfl, rfl⟩
 have hz : layTokQ find (amtQ find (runQ find R m).2 (balKey m to)).2 m ⟨true, false, addL (runQ find R m).1.1.sup a⟩ = layTokQ find (amtQ find (runQ find R m).2 (balKey m to)).2 m ({ (runQ find R m).1.1 with sup := addL (runQ find R m).1.1.sup a } : TokD) := by
  unfold layTokQ tokB
  rw [show ({ (runQ find R m).1.1 with sup := addL (runQ find R m).1.1.sup a } : TokD).paused = false from runQ_run h1]
 have hlz : Lim (layTokQ find (amtQ find (runQ find R m).2 (balKey m to)).2 m ({ (runQ find R m).1.1 with sup := addL (runQ find R m).1.1.sup a } : TokD)).2 1 := hly.layTok hd.1 m _
 conv=>whnf
 refine LoadNG.at (vs := uvs (addL (runQ find R m).1.1.sup a)) rfl (.tl (.tl (.tl (.all)))) ?_
 conv=>whnf
 refine CallG.of (pre := [refR 83 s hv part nv (amtQ find (runQ find R m).2 (balKey m to)).2]) (rest := [cel bm 38 (uvs (addL (amtQ find (runQ find R m).2 (balKey m to)).1.1 a)), cel bh 38 (uvs (amtQ find (runQ find R m).2 (balKey m to)).1.1), cel bs 38 (uvs (addL (runQ find R m).1.1.sup a)), cel b9 61 (runQ find R m).1.1.cells, cel b7 38 (uvs a), cel b6 35 (bvs to)]) (layToken8_q _ s (amtQ find (runQ find R m).2 (balKey m to)).2 m hm false (addL (runQ find R m).1.1.sup a) (addL_ok _ _) (hd.left _) (hly.mono (by decide))) (Ent.sel (T := []) (A := [_, _, _, _, _, _, _]) [2, 0, 1, 3, 4, 5, 6] rfl) ?_
 rw [hz]
 rintro _ _ ⟨rfl, rfl⟩
 conv=>whnf
 refine CondG.ndec (fun h6 => ?_) (fun h6 => ?_)
 ·conv=>whnf
  refine ⟨_, Ent.sel (T := []) (A := [_, _, _, _, _, _, _]) [0] rfl, ?_⟩
  unfold mintQ mintA lay2Q
  rw [if_neg h1', if_neg h2, em, if_neg h3', if_neg h4, if_neg h5, if_pos h6]
  exact ⟨rfl, rfl⟩
 conv=>whnf
 refine DrawG.mk 7 [cel bm 38 (uvs (addL (amtQ find (runQ find R m).2 (balKey m to)).1.1 a)), cel bh 38 (uvs (amtQ find (runQ find R m).2 (balKey m to)).1.1), cel bs 38 (uvs (addL (runQ find R m).1.1.sup a)), cel b9 61 (runQ find R m).1.1.cells, cel b7 38 (uvs a), cel b6 35 (bvs to)] [refR 83 s hv part nv (layTokQ find (amtQ find (runQ find R m).2 (balKey m to)).2 m ({ (runQ find R m).1.1 with sup := addL (runQ find R m).1.1.sup a } : TokD)).2] (Ent.refl _) ?_
 conv=>whnf
 refine .take 0 ?_
 conv=>whnf
 refine ⟨rfl, ?_⟩
 conv=>whnf
 refine .take 1 ?_
 conv=>whnf
 refine ⟨rfl, ?_⟩
 conv=>whnf
 refine .take 2 ?_
 conv=>whnf
 refine ⟨rfl, ?_⟩
 conv=>whnf
 refine LoadNG.at (vs := bvs to) (by rw [bvs_len, hto]) (.tl (.tl (.tl (.tl (.tl (.all)))))) ?_
 conv=>whnf
 refine .take 4 ?_
 conv=>whnf
 refine ⟨rfl, ?_⟩
 conv=>whnf
 refine LoadNG.at (vs := uvs (addL (amtQ find (runQ find R m).2 (balKey m to)).1.1 a)) rfl (.all) ?_
 conv=>whnf
 refine .all ?_
 conv=>whnf
 refine ⟨by decide, ?_⟩
 conv=>whnf
 refine CallG.pure (balanceKey8_spec _ m hm to hto) ?_
 rintro _ _ ⟨rfl, rfl⟩
 conv=>whnf
 refine .all ?_
 conv=>whnf
 refine ⟨by decide, ?_⟩
 conv=>whnf
 refine CallG.of (pre := [refR 83 s hv part nv (layTokQ find (amtQ find (runQ find R m).2 (balKey m to)).2 m ({ (runQ find R m).1.1 with sup := addL (runQ find R m).1.1.sup a } : TokD)).2]) (rest := []) (lay8_q _ s (layTokQ find (amtQ find (runQ find R m).2 (balKey m to)).2 m ({ (runQ find R m).1.1 with sup := addL (runQ find R m).1.1.sup a } : TokD)).2 (balKey m to) (addL (amtQ find (runQ find R m).2 (balKey m to)).1.1 a) (addL_ok _ _) ((hd.left _).left _) hlz) (Ent.refl _) ?_
 rintro _ _ ⟨rfl, rfl⟩
 conv=>whnf
 refine .take 6 ?_
 conv=>whnf
 refine ⟨rfl, ?_⟩
 conv=>whnf
 refine ⟨rfl, ?_⟩
 conv=>whnf
 refine ⟨_, Ent.sel (T := []) (A := [_, _, _, _, _, _, _]) [0] rfl, ?_⟩
 unfold mintQ mintA lay2Q
 rw [if_neg h1', if_neg h2, em, if_neg h3', if_neg h4, if_neg h5, if_neg (show ¬ _ ≠ (0 : Int) from fun h => h h6)]
 exact ⟨rfl, rfl⟩
theorem burn8_q (F : List HP) (s : Nat) (R : RSt) (t : Int) (to a : List Nat) (hto : to.length = 20) (ha : wOk a) (hd : DocF F hv nv part find) (hl : Lim R 4) :
 SpecF Tryz.prog 69 [.pointer (some ⟨s, 0, none⟩), .int .i64 t, .agg ⟨bvs to⟩, .agg ⟨uvs a⟩] F [refR 83 s hv part nv R] (fun r L => r = .int .i64 (burnQ find R t to a).1 ∧ L = [refR 83 s hv part nv (burnQ find R t to a).2]) := by
 have hal : (uvs a).length = 4 := by rw [uvs_len, ha.len]
 refine fun69.spec rfl ?_
 conv=>whnf
 intro b6
 conv=>whnf
 intro b7
 conv=>whnf
 refine CallG.of (pre := [refR 83 s hv part nv R]) (rest := [cel b7 38 (uvs a), cel b6 35 (bvs to)]) (there8_q _ s R t true (hd.left _) (hl.mono (by decide))) (Ent.sel (T := []) (A := [_, _, _]) [2, 0, 1] rfl) ?_
 rintro _ _ ⟨d, hdk, rfl, hdx, rfl⟩
 rw [show thrQ find R t true = runQ find R t from rfl] at hdx ⊢
 have hl1 : d.cells.length = 6 := TokD.cells_len hdk.len
 conv=>whnf
 intro b9
 conv=>whnf
 refine StoreG.at hl1 (Upd.whole (by rw [hl1]; rfl) (TokD.cells_one _)) ?_
 conv=>whnf
 refine CondG.ndec (fun h1 => ?_) (fun h1 => ?_)
 ·conv=>whnf
  refine ⟨_, Ent.sel (T := []) (A := [_, _, _, _]) [1] rfl, ?_⟩
  unfold burnQ
  rw [if_pos h1]
  exact ⟨rfl, rfl⟩
 obtain rfl := hdx h1
 obtain ⟨m, rfl, hm⟩ := runQ_nat find h1
 have h1' : ¬ (runQ find R m).1.2 ≠ 0 := fun h => h h1
 have em : ((m : Nat) : Int).toNat = m := Int.toNat_natCast m
 have hsl : (uvs (runQ find R m).1.1.sup).length = 4 := by rw [uvs_len, hdk.len]
 have hlx : Lim (runQ find R m).2 3 := hl.run hd.1 m
 have hly : Lim (amtQ find (runQ find R m).2 (balKey m to)).2 2 := hlx.amt hd.1 _
 have hbk := amtQ_ok find (runQ find R m).2 (balKey m to)
 have hbl : (uvs (amtQ find (runQ find R m).2 (balKey m to)).1.1).length = 4 := by rw [uvs_len, hbk.len]
 have hA : (uvs (subR (runQ find R m).1.1.sup a).1).length = 4 := by rw [uvs_len, subR_ok]
 have hB : (uvs (subR (amtQ find (runQ find R m).2 (balKey m to)).1.1 a).1).length = 4 := by rw [uvs_len, subR_ok]
 conv=>whnf
 refine LoadNG.at (vs := bvs to) (by rw [bvs_len, hto]) (.tl (.tl (.tl (.all)))) ?_
 conv=>whnf
 refine CallG.pure (balanceKey8_spec _ m hm to hto) ?_
 rintro _ _ ⟨rfl, rfl⟩
 conv=>whnf
 refine CallG.of (pre := [refR 83 s hv part nv (runQ find R m).2]) (rest := [cel b9 61 (runQ find R m).1.1.cells, cel b7 38 (uvs a), cel b6 35 (bvs to)]) (asked8_q _ s (runQ find R m).2 (balKey m to) (hd.left _) (hlx.mono (by decide))) (Ent.sel (T := []) (A := [_, _, _, _]) [1, 0, 2, 3] rfl) ?_
 rintro _ _ ⟨rfl, rfl⟩
 conv=>whnf
 intro bh
 conv=>whnf
 refine StoreG.at hbl (Upd.whole (by rw [hbl]; rfl) (uvs_one _)) ?_
 conv=>whnf
 refine CondG.ndec (fun h3 => ?_) (fun h3 => ?_)
 ·conv=>whnf
  refine ⟨_, Ent.sel (T := []) (A := [_, _, _, _, _]) [1] rfl, ?_⟩
  unfold burnQ burnA lay2Q
  rw [if_neg h1', em, if_pos h3]
  exact ⟨rfl, rfl⟩
 have h3' : ¬ (amtQ find (runQ find R m).2 (balKey m to)).1.2 ≠ 0 := fun h => h h3
 conv=>whnf
 refine LoadNG.at (vs := uvs (amtQ find (runQ find R m).2 (balKey m to)).1.1) hbl .all ?_
 conv=>whnf
 refine LoadNG.at (vs := uvs a) hal (.tl (.tl (.tl (.all)))) ?_
 conv=>whnf
 refine CallG.pure (sub2_q _ _ a hbk ha) ?_
 rintro _ _ ⟨rfl, rfl⟩
 conv=>whnf
 intro bm
 conv=>whnf
 refine StoreG.at hB (Upd.whole (by rw [hB]; rfl) (uvs_one _)) ?_
 conv=>whnf
 by_cases h4 : nat4 (amtQ find (runQ find R m).2 (balKey m to)).1.1 < nat4 a
 ·rw [subR_no h4]
  refine CondG.tt ?_
  conv=>whnf
  refine ⟨_, Ent.sel (T := []) (A := [_, _, _, _, _, _]) [2] rfl, ?_⟩
  unfold burnQ burnA lay2Q
  rw [if_neg h1', em, if_neg h3', if_pos h4]
  exact ⟨rfl, rfl⟩
 rw [subR_yes h4]
 refine CondG.ff ?_
 conv=>whnf
 refine LoadNG.at (vs := uvs (runQ find R m).1.1.sup) hsl (.tl (.tl (.tl (.here (sup_at _))))) ?_
 conv=>whnf
 refine LoadNG.at (vs := uvs a) hal (.tl (.tl (.tl (.tl (.all))))) ?_
 conv=>whnf
 refine CallG.pure (sub2_q _ _ a hdk ha) ?_
 rintro _ _ ⟨rfl, rfl⟩
 conv=>whnf
 intro bs
 conv=>whnf
 refine StoreG.at hA (Upd.whole (by rw [hA]; rfl) (uvs_one _)) ?_
 conv=>whnf
 by_cases h2 : nat4 (runQ find R m).1.1.sup < nat4 a
 ·rw [subR_no h2]
  refine CondG.tt ?_
  conv=>whnf
  refine ⟨_, Ent.sel (T := []) (A := [_, _, _, _, _, _, _]) [3] rfl, ?_⟩
  unfold burnQ burnA lay2Q
  rw [if_neg h1', em, if_neg h3', if_neg h4, if_pos h2]
  exact ⟨rfl, rfl⟩
 rw [subR_yes h2]
 refine CondG.ff ?_
 conv=>whnf
 refine LoadNG.at (vs := uvs a) hal (.tl (.tl (.tl (.tl (.tl (.all)))))) ?_
 conv=>whnf
 refine CallG.pure (zero2_spec _ a ha.len) ?_
 rintro _ _ ⟨rfl, rfl⟩
 conv=>whnf
 refine CondG.dec (fun h5 => ?_) (fun h5 => ?_)
 ·conv=>whnf
  refine ⟨_, Ent.sel (T := []) (A := [_, _, _, _, _, _, _]) [3] rfl, ?_⟩
  unfold burnQ burnA lay2Q
  rw [if_neg h1', em, if_neg h3', if_neg h4, if_neg h2, if_pos h5]
  exact ⟨rfl, rfl⟩
 have hz : layTokQ find (amtQ find (runQ find R m).2 (balKey m to)).2 m ⟨true, false, subL (runQ find R m).1.1.sup a⟩ = layTokQ find (amtQ find (runQ find R m).2 (balKey m to)).2 m ({ (runQ find R m).1.1 with sup := subL (runQ find R m).1.1.sup a } : TokD) := by
  unfold layTokQ tokB
  rw [show ({ (runQ find R m).1.1 with sup := subL (runQ find R m).1.1.sup a } : TokD).paused = false from runQ_run h1]
 have hlz : Lim (layTokQ find (amtQ find (runQ find R m).2 (balKey m to)).2 m ({ (runQ find R m).1.1 with sup := subL (runQ find R m).1.1.sup a } : TokD)).2 1 := hly.layTok hd.1 m _
 conv=>whnf
 refine LoadNG.at (vs := uvs (subL (runQ find R m).1.1.sup a)) rfl (.all) ?_
 conv=>whnf
 refine CallG.of (pre := [refR 83 s hv part nv (amtQ find (runQ find R m).2 (balKey m to)).2]) (rest := [cel bs 38 (uvs (subL (runQ find R m).1.1.sup a)), cel bm 38 (uvs (subL (amtQ find (runQ find R m).2 (balKey m to)).1.1 a)), cel bh 38 (uvs (amtQ find (runQ find R m).2 (balKey m to)).1.1), cel b9 61 (runQ find R m).1.1.cells, cel b7 38 (uvs a), cel b6 35 (bvs to)]) (layToken8_q _ s (amtQ find (runQ find R m).2 (balKey m to)).2 m hm false (subL (runQ find R m).1.1.sup a) (subL_ok _ _) (hd.left _) (hly.mono (by decide))) (Ent.sel (T := []) (A := [_, _, _, _, _, _, _]) [3, 0, 1, 2, 4, 5, 6] rfl) ?_
 rw [hz]
 rintro _ _ ⟨rfl, rfl⟩
 conv=>whnf
 refine CondG.ndec (fun h6 => ?_) (fun h6 => ?_)
 ·conv=>whnf
  refine ⟨_, Ent.sel (T := []) (A := [_, _, _, _, _, _, _]) [0] rfl, ?_⟩
  unfold burnQ burnA lay2Q
  rw [if_neg h1', em, if_neg h3', if_neg h4, if_neg h2, if_neg h5, if_pos h6]
  exact ⟨rfl, rfl⟩
 conv=>whnf
 refine DrawG.mk 7 [cel bs 38 (uvs (subL (runQ find R m).1.1.sup a)), cel bm 38 (uvs (subL (amtQ find (runQ find R m).2 (balKey m to)).1.1 a)), cel bh 38 (uvs (amtQ find (runQ find R m).2 (balKey m to)).1.1), cel b9 61 (runQ find R m).1.1.cells, cel b7 38 (uvs a), cel b6 35 (bvs to)] [refR 83 s hv part nv (layTokQ find (amtQ find (runQ find R m).2 (balKey m to)).2 m ({ (runQ find R m).1.1 with sup := subL (runQ find R m).1.1.sup a } : TokD)).2] (Ent.refl _) ?_
 conv=>whnf
 refine .take 0 ?_
 conv=>whnf
 refine ⟨rfl, ?_⟩
 conv=>whnf
 refine .take 1 ?_
 conv=>whnf
 refine ⟨rfl, ?_⟩
 conv=>whnf
 refine .take 2 ?_
 conv=>whnf
 refine ⟨rfl, ?_⟩
 conv=>whnf
 refine LoadNG.at (vs := bvs to) (by rw [bvs_len, hto]) (.tl (.tl (.tl (.tl (.tl (.all)))))) ?_
 conv=>whnf
 refine .take 4 ?_
 conv=>whnf
 refine ⟨rfl, ?_⟩
 conv=>whnf
 refine LoadNG.at (vs := uvs (subL (amtQ find (runQ find R m).2 (balKey m to)).1.1 a)) rfl (.tl (.all)) ?_
 conv=>whnf
 refine .all ?_
 conv=>whnf
 refine ⟨by decide, ?_⟩
 conv=>whnf
 refine CallG.pure (balanceKey8_spec _ m hm to hto) ?_
 rintro _ _ ⟨rfl, rfl⟩
 conv=>whnf
 refine .all ?_
 conv=>whnf
 refine ⟨by decide, ?_⟩
 conv=>whnf
 refine CallG.of (pre := [refR 83 s hv part nv (layTokQ find (amtQ find (runQ find R m).2 (balKey m to)).2 m ({ (runQ find R m).1.1 with sup := subL (runQ find R m).1.1.sup a } : TokD)).2]) (rest := []) (lay8_q _ s (layTokQ find (amtQ find (runQ find R m).2 (balKey m to)).2 m ({ (runQ find R m).1.1 with sup := subL (runQ find R m).1.1.sup a } : TokD)).2 (balKey m to) (subL (amtQ find (runQ find R m).2 (balKey m to)).1.1 a) (subL_ok _ _) ((hd.left _).left _) hlz) (Ent.refl _) ?_
 rintro _ _ ⟨rfl, rfl⟩
 conv=>whnf
 refine .take 6 ?_
 conv=>whnf
 refine ⟨rfl, ?_⟩
 conv=>whnf
 refine ⟨rfl, ?_⟩
 conv=>whnf
 refine ⟨_, Ent.sel (T := []) (A := [_, _, _, _, _, _, _]) [0] rfl, ?_⟩
 unfold burnQ burnA lay2Q
 rw [if_neg h1', em, if_neg h3', if_neg h4, if_neg h2, if_neg h5, if_neg (show ¬ _ ≠ (0 : Int) from fun h => h h6)]
 exact ⟨rfl, rfl⟩
def movedB (find : SrcF) (m : Nat) (fr to a : List Nat) (key : ByteArray) (may : List Nat) (f : FundR × RSt) : Int × RSt :=
 if f.1.e ≠ 0 then (f.1.e, f.2) else
 if a = z4 then (0, f.2) else
 if key = ⟨#[]⟩ then turnQ find f.2 m fr to a f.1.less f.1.more else
 if (layQ find f.2 key may).1 ≠ 0 then layQ find f.2 key may else turnQ find (layQ find f.2 key may).2 m fr to a f.1.less f.1.more
theorem movedB_none (find : SrcF) (m : Nat) (fr to a may : List Nat) (f : FundR × RSt) : movedB find m fr to a ⟨#[]⟩ may f = moveB find m fr to a f := by
 unfold movedB moveB
 by_cases h1 : f.1.e ≠ 0
 ·rw [if_pos h1, if_pos h1]
 rw [if_neg h1, if_neg h1, if_pos rfl]
 by_cases h2 : a = z4
 ·rw [if_pos h2, turnQ, if_pos (.inr h2)]
 ·rw [if_neg h2]
theorem movedB_key (find : SrcF) (m : Nat) (sp fr to a may : List Nat) (f : FundR × RSt) : movedB find m fr to a (allKey m fr sp) may f = pullB find m sp fr to a may f := by
 unfold movedB pullB
 by_cases h1 : f.1.e ≠ 0
 ·rw [if_pos h1, if_pos h1]
 have hk : ¬ allKey m fr sp = ⟨#[]⟩ := fun e => by
  have h := strB_size (108 :: m :: (fr ++ sp))
  rw [show strB (108 :: m :: (fr ++ sp)) = ⟨#[]⟩ from e] at h
  simp at h
  cases h
 rw [if_neg h1, if_neg h1, if_neg hk]
 by_cases h2 : a = z4
 ·rw [if_pos h2, if_pos h2, turnQ, if_pos (.inr h2)]
 ·rw [if_neg h2, if_neg h2]
theorem moved8_q (F : List HP) (s : Nat) (R : RSt) (m : Nat) (hm : m < 64) (fr to a : List Nat) (key : ByteArray) (may : List Nat) (hfr : fr.length = 20) (hto : to.length = 20) (ha : wOk a) (hmay : wOk may) (hd : DocF F hv nv part find) (hl : Lim R 5) :
 SpecF Tryz.prog 123 [.pointer (some ⟨s, 0, none⟩), .int .i64 m, .agg ⟨bvs fr⟩, .agg ⟨bvs to⟩, .agg ⟨uvs a⟩, .string key, .agg ⟨uvs may⟩] F [refR 83 s hv part nv R] (fun r L => r = .int .i64 (movedB find m fr to a key may (fundsQ find R m fr to a)).1 ∧ L = [refR 83 s hv part nv (movedB find m fr to a key may (fundsQ find R m fr to a)).2]) := by
 have hal : (uvs a).length = 4 := by rw [uvs_len, ha.len]
 have hyl : (uvs may).length = 4 := by rw [uvs_len, hmay.len]
 have hfk := amtQ_ok find R (balKey m fr)
 have htk := amtQ_ok find (amtQ find R (balKey m fr)).2 (balKey m to)
 have hfl : (uvs (amtQ find R (balKey m fr)).1.1).length = 4 := by rw [uvs_len, hfk.len]
 have htl : (uvs (amtQ find (amtQ find R (balKey m fr)).2 (balKey m to)).1.1).length = 4 := by rw [uvs_len, htk.len]
 have hlx : Lim (amtQ find R (balKey m fr)).2 4 := hl.amt hd.1 _
 have hly : Lim (amtQ find (amtQ find R (balKey m fr)).2 (balKey m to)).2 3 := hlx.amt hd.1 _
 refine fun123.spec rfl ?_
 conv=>whnf
 intro b9
 conv=>whnf
 intro b10
 conv=>whnf
 intro b11
 conv=>whnf
 intro b13
 conv=>whnf
 refine LoadNG.at (vs := bvs fr) (by rw [bvs_len, hfr]) (.tl (.tl (.tl .all))) ?_
 conv=>whnf
 refine CallG.pure (balanceKey8_spec _ m hm fr hfr) ?_
 rintro _ _ ⟨rfl, rfl⟩
 conv=>whnf
 refine CallG.of (pre := [refR 83 s hv part nv R]) (rest := [cel b13 38 (uvs may), cel b11 38 (uvs a), cel b10 35 (bvs to), cel b9 35 (bvs fr)]) (asked8_q _ s R (balKey m fr) (hd.left _) (hl.mono (by decide))) (Ent.sel (T := []) (A := [_, _, _, _, _]) [4, 0, 1, 2, 3] rfl) ?_
 rintro _ _ ⟨rfl, rfl⟩
 conv=>whnf
 intro b15
 conv=>whnf
 refine StoreG.at hfl (Upd.whole (by rw [hfl]; rfl) (uvs_one _)) ?_
 conv=>whnf
 refine CondG.ndec (fun h1 => ?_) (fun h1 => ?_)
 ·conv=>whnf
  refine ⟨_, Ent.sel (T := []) (A := [_, _, _, _, _, _]) [1] rfl, ?_⟩
  have e : fundsQ find R m fr to a = (⟨z4, z4, (amtQ find R (balKey m fr)).1.2⟩, (amtQ find R (balKey m fr)).2) := by unfold fundsQ fundsA; rw [if_pos h1]
  rw [e, movedB, if_pos h1]
  exact ⟨rfl, rfl⟩
 have h1' : ¬ (amtQ find R (balKey m fr)).1.2 ≠ 0 := fun h => h h1
 conv=>whnf
 refine LoadNG.at (vs := uvs (amtQ find R (balKey m fr)).1.1) hfl .all ?_
 conv=>whnf
 refine LoadNG.at (vs := uvs a) hal (.tl (.tl (.tl .all))) ?_
 conv=>whnf
 refine CallG.pure (sub2_q _ _ a hfk ha) ?_
 rintro _ _ ⟨rfl, rfl⟩
 have hB : (uvs (subR (amtQ find R (balKey m fr)).1.1 a).1).length = 4 := by rw [uvs_len, subR_ok]
 conv=>whnf
 intro b17
 conv=>whnf
 refine StoreG.at hB (Upd.whole (by rw [hB]; rfl) (uvs_one _)) ?_
 conv=>whnf
 by_cases h2 : nat4 (amtQ find R (balKey m fr)).1.1 < nat4 a
 ·rw [subR_no h2]
  refine CondG.tt ?_
  conv=>whnf
  refine ⟨_, Ent.sel (T := []) (A := [_, _, _, _, _, _, _]) [2] rfl, ?_⟩
  have e : fundsQ find R m fr to a = (⟨z4, z4, 85⟩, (amtQ find R (balKey m fr)).2) := by unfold fundsQ fundsA; rw [if_neg h1', if_pos h2]
  rw [e, movedB, if_pos (show (85 : Int) ≠ 0 by decide)]
  exact ⟨rfl, rfl⟩
 rw [subR_yes h2]
 refine CondG.ff ?_
 conv=>whnf
 refine LoadNG.at (vs := bvs to) (by rw [bvs_len, hto]) (.tl (.tl (.tl (.tl (.tl .all))))) ?_
 conv=>whnf
 refine CallG.pure (balanceKey8_spec _ m hm to hto) ?_
 rintro _ _ ⟨rfl, rfl⟩
 conv=>whnf
 refine CallG.of (pre := [refR 83 s hv part nv (amtQ find R (balKey m fr)).2]) (rest := [cel b17 38 (uvs (subL (amtQ find R (balKey m fr)).1.1 a)), cel b15 38 (uvs (amtQ find R (balKey m fr)).1.1), cel b13 38 (uvs may), cel b11 38 (uvs a), cel b10 35 (bvs to), cel b9 35 (bvs fr)]) (asked8_q _ s (amtQ find R (balKey m fr)).2 (balKey m to) (hd.left _) (hlx.mono (by decide))) (Ent.sel (T := []) (A := [_, _, _, _, _, _, _]) [2, 0, 1, 3, 4, 5, 6] rfl) ?_
 rintro _ _ ⟨rfl, rfl⟩
 conv=>whnf
 intro b18
 conv=>whnf
 refine StoreG.at htl (Upd.whole (by rw [htl]; rfl) (uvs_one _)) ?_
 conv=>whnf
 refine CondG.ndec (fun h3 => ?_) (fun h3 => ?_)
 ·conv=>whnf
  refine ⟨_, Ent.sel (T := []) (A := [_, _, _, _, _, _, _, _]) [1] rfl, ?_⟩
  have e : fundsQ find R m fr to a = (⟨subL (amtQ find R (balKey m fr)).1.1 a, (amtQ find (amtQ find R (balKey m fr)).2 (balKey m to)).1.1, (amtQ find (amtQ find R (balKey m fr)).2 (balKey m to)).1.2⟩, (amtQ find (amtQ find R (balKey m fr)).2 (balKey m to)).2) := by unfold fundsQ fundsA fundsB; rw [if_neg h1', if_neg h2, if_pos (.inl h3)]
  rw [e, movedB, if_pos h3]
  exact ⟨rfl, rfl⟩
 conv=>whnf
 refine LoadNG.at (vs := uvs (amtQ find (amtQ find R (balKey m fr)).2 (balKey m to)).1.1) htl .all ?_
 conv=>whnf
 refine LoadNG.at (vs := uvs a) hal (.tl (.tl (.tl (.tl (.tl .all))))) ?_
 conv=>whnf
 refine CallG.pure (add2_q _ _ a htk ha) ?_
 rintro _ _ ⟨rfl, rfl⟩
 have hC : (uvs (addR (amtQ find (amtQ find R (balKey m fr)).2 (balKey m to)).1.1 a).1).length = 4 := by rw [uvs_len, addR_ok]
 conv=>whnf
 intro b19
 conv=>whnf
 refine StoreG.at hC (Upd.whole (by rw [hC]; rfl) (uvs_one _)) ?_
 conv=>whnf
 have eF : fundsQ find R m fr to a = if fr = to then (⟨subL (amtQ find R (balKey m fr)).1.1 a, (amtQ find (amtQ find R (balKey m fr)).2 (balKey m to)).1.1, 0⟩, (amtQ find (amtQ find R (balKey m fr)).2 (balKey m to)).2) else
  if m256 ≤ nat4 (amtQ find (amtQ find R (balKey m fr)).2 (balKey m to)).1.1 + nat4 a then (⟨subL (amtQ find R (balKey m fr)).1.1 a, z4, 75⟩, (amtQ find (amtQ find R (balKey m fr)).2 (balKey m to)).2) else
  (⟨subL (amtQ find R (balKey m fr)).1.1 a, addL (amtQ find (amtQ find R (balKey m fr)).2 (balKey m to)).1.1 a, 0⟩, (amtQ find (amtQ find R (balKey m fr)).2 (balKey m to)).2) := by
  unfold fundsQ fundsA fundsB
  rw [if_neg h1', if_neg h2]
  by_cases h : fr = to
  ·rw [if_pos (.inr h), if_pos h, h3]
  ·rw [if_neg (fun hh => hh.elim (fun x => x h3) h), if_neg h]
 have hF2 : (fundsQ find R m fr to a).2 = (amtQ find (amtQ find R (balKey m fr)).2 (balKey m to)).2 := by
  rw [eF]
  (repeat' split) <;> rfl
 have hFl : (fundsQ find R m fr to a).1.less = subL (amtQ find R (balKey m fr)).1.1 a := by
  rw [eF]
  (repeat' split) <;> rfl
 obtain ⟨hlo, hmm⟩ := fundsQ_ok find R m fr to a
 rw [← hFl]
 by_cases h4 : m256 ≤ nat4 (amtQ find (amtQ find R (balKey m fr)).2 (balKey m to)).1.1 + nat4 a
 ·rw [addR_no h4]
  refine CondG.tt ?_
  conv=>whnf
  refine LoadNG.at (vs := bvs fr) (by rw [bvs_len, hfr]) (.tl (.tl (.tl (.tl (.tl (.tl (.tl (.tl .all)))))))) ?_
  (conv=>whnf);refine .tt ?_;(conv=>whnf)
  refine LoadNG.at (vs := bvs to) (by rw [bvs_len, hto]) (.tl (.tl (.tl (.tl (.tl (.tl (.tl .all))))))) ?_
  (conv=>whnf);refine .tt ?_;(conv=>whnf)
  refine DoesG.eqv 8 (List.replicate 20 (.int .u8)) (by kernel_rfl) (by decide) (by kernel_rfl) (by kernel_rfl) (wt_bvs hfr) (wt_bvs hto) ?_
  (conv=>whnf);refine .tt ?_;(conv=>whnf)
  refine CondG.split (fun hq => ?_) (fun hq => ?_)
  ·have hne : ¬ fr = to := fun e => by
    rw [e] at hq
    simp at hq
   conv=>whnf
   refine ⟨_, Ent.sel (T := []) (A := [_, _, _, _, _, _, _, _, _]) [2] rfl, ?_⟩
   rw [eF, if_neg hne, if_pos h4, movedB, if_pos (show (75 : Int) ≠ 0 by decide)]
   exact ⟨rfl, rfl⟩
  have heq : fr = to := by
   simp only [Bool.not_eq_false', decide_eq_true_eq] at hq
   exact bvs_inj.1 hq
  have hF0 : (fundsQ find R m fr to a).1.e = 0 := by rw [eF, if_pos heq]
  obtain ⟨mo, hmo'⟩ : ∃ mo, mo = z4 := ⟨_, rfl⟩
  have hmo : ¬ fr = to → mo = (fundsQ find R m fr to a).1.more := fun h => absurd heq h
  rw [← hmo']
  have hll : (uvs (fundsQ find R m fr to a).1.less).length = 4 := by rw [uvs_len, hlo.len]
  have hml : (uvs (fundsQ find R m fr to a).1.more).length = 4 := by rw [uvs_len, hmm.len]
  have hE : ¬ (fundsQ find R m fr to a).1.e ≠ 0 := fun h => h hF0
  conv=>whnf
  refine LoadNG.at (vs := uvs a) hal (.tl (.tl (.tl (.tl (.tl (.tl .all)))))) ?_
  conv=>whnf
  refine CallG.pure (zero2_spec _ a ha.len) ?_
  rintro _ _ ⟨rfl, rfl⟩
  conv=>whnf
  refine CondG.dec (fun h5 => ?_) (fun h5 => ?_)
  ·conv=>whnf
   refine ⟨_, Ent.sel (T := []) (A := [_, _, _, _, _, _, _, _, _]) [2] rfl, ?_⟩
   unfold movedB
   rw [if_neg hE, if_pos h5, hF2]
   exact ⟨rfl, rfl⟩
  conv=>whnf
  refine CondG.ndec (fun h6 => ?_) (fun h6 => ?_)
  ·conv=>whnf
   refine LoadNG.at (vs := uvs may) hyl (.tl (.tl (.tl (.tl (.tl .all))))) ?_
   conv=>whnf
   refine CallG.of (pre := [refR 83 s hv part nv (amtQ find (amtQ find R (balKey m fr)).2 (balKey m to)).2]) (rest := [cel b19 38 (uvs mo), cel b18 38 (uvs (amtQ find (amtQ find R (balKey m fr)).2 (balKey m to)).1.1), cel b17 38 (uvs (fundsQ find R m fr to a).1.less), cel b15 38 (uvs (amtQ find R (balKey m fr)).1.1), cel b13 38 (uvs may), cel b11 38 (uvs a), cel b10 35 (bvs to), cel b9 35 (bvs fr)]) (lay8_q _ s (amtQ find (amtQ find R (balKey m fr)).2 (balKey m to)).2 key may hmay (hd.left _) (hly.mono (by decide))) (Ent.sel (T := []) (A := [_, _, _, _, _, _, _, _, _]) [2, 0, 1, 3, 4, 5, 6, 7, 8] rfl) ?_
   rintro _ _ ⟨rfl, rfl⟩
   have hlw : Lim (layQ find (amtQ find (amtQ find R (balKey m fr)).2 (balKey m to)).2 key may).2 2 := hly.lay hd.1 _ _
   conv=>whnf
   refine CondG.ndec (fun h10 => ?_) (fun h10 => ?_)
   ·conv=>whnf
    refine ⟨_, Ent.sel (T := []) (A := [_, _, _, _, _, _, _, _, _]) [0] rfl, ?_⟩
    unfold movedB
    rw [if_neg hE, if_neg h5, if_neg h6, hF2, if_pos h10]
    exact ⟨rfl, rfl⟩
   have hW : movedB find m fr to a key may (fundsQ find R m fr to a) = turnQ find (layQ find (amtQ find (amtQ find R (balKey m fr)).2 (balKey m to)).2 key may).2 m fr to a (fundsQ find R m fr to a).1.less (fundsQ find R m fr to a).1.more := by
    unfold movedB
    rw [if_neg hE, if_neg h5, if_neg h6, hF2, if_neg (fun h => h h10)]
   conv=>whnf
   refine LoadNG.at (vs := bvs fr) (by rw [bvs_len, hfr]) (.tl (.tl (.tl (.tl (.tl (.tl (.tl (.tl .all)))))))) ?_
   conv=>whnf
   refine LoadNG.at (vs := bvs to) (by rw [bvs_len, hto]) (.tl (.tl (.tl (.tl (.tl (.tl (.tl .all))))))) ?_
   conv=>whnf
   refine DoesG.eqv 8 (List.replicate 20 (.int .u8)) (by kernel_rfl) (by decide) (by kernel_rfl) (by kernel_rfl) (wt_bvs hfr) (wt_bvs hto) ?_
   conv=>whnf
   refine CondG.split (fun h7 => ?_) (fun h7 => ?_)
   ·simp only [decide_eq_true_eq] at h7
    have h7 := bvs_inj.1 h7
    conv=>whnf
    refine ⟨_, Ent.sel (T := []) (A := [_, _, _, _, _, _, _, _, _]) [0] rfl, ?_⟩
    rw [hW, turnQ, if_pos (.inl h7)]
    exact ⟨rfl, rfl⟩
   simp only [decide_eq_false_iff_not] at h7
   have h7 : ¬ fr = to := fun e => h7 (by rw [e])
   have h8 : ¬ (fr = to ∨ a = z4) := fun h => h.elim h7 h5
   obtain rfl := hmo h7
   conv=>whnf
   refine DrawG.mk 7 [cel b19 38 (uvs (fundsQ find R m fr to a).1.more), cel b18 38 (uvs (amtQ find (amtQ find R (balKey m fr)).2 (balKey m to)).1.1), cel b17 38 (uvs (fundsQ find R m fr to a).1.less), cel b15 38 (uvs (amtQ find R (balKey m fr)).1.1), cel b13 38 (uvs may), cel b11 38 (uvs a), cel b10 35 (bvs to), cel b9 35 (bvs fr)] [refR 83 s hv part nv ((layQ find (amtQ find (amtQ find R (balKey m fr)).2 (balKey m to)).2 key may).2)] (Ent.sel (T := []) (A := [_, _, _, _, _, _, _, _, _]) [0, 1, 2, 3, 4, 5, 6, 7, 8] rfl) ?_
   conv=>whnf
   refine .take 0 ?_
   conv=>whnf
   refine ⟨rfl, ?_⟩
   conv=>whnf
   refine .take 1 ?_
   conv=>whnf
   refine ⟨rfl, ?_⟩
   conv=>whnf
   refine .take 2 ?_
   conv=>whnf
   refine ⟨rfl, ?_⟩
   conv=>whnf
   refine LoadNG.at (vs := bvs fr) (by rw [bvs_len, hfr]) (.tl (.tl (.tl (.tl (.tl (.tl (.tl .all))))))) ?_
   conv=>whnf
   refine .take 4 ?_
   conv=>whnf
   refine ⟨rfl, ?_⟩
   conv=>whnf
   refine LoadNG.at (vs := uvs (fundsQ find R m fr to a).1.less) hll (.tl (.tl .all)) ?_
   conv=>whnf
   refine .all ?_
   conv=>whnf
   refine ⟨by decide, ?_⟩
   conv=>whnf
   refine CallG.pure (balanceKey8_spec _ m hm fr hfr) ?_
   rintro _ _ ⟨rfl, rfl⟩
   conv=>whnf
   refine .all ?_
   conv=>whnf
   refine ⟨by decide, ?_⟩
   conv=>whnf
   refine CallG.of (pre := [refR 83 s hv part nv ((layQ find (amtQ find (amtQ find R (balKey m fr)).2 (balKey m to)).2 key may).2)]) (rest := []) (lay8_q _ s ((layQ find (amtQ find (amtQ find R (balKey m fr)).2 (balKey m to)).2 key may).2) (balKey m fr) _ hlo ((hd.left _).left _) (hlw.mono (by decide))) (Ent.refl _) ?_
   rintro _ _ ⟨rfl, rfl⟩
   have hlw2 : Lim (layQ find ((layQ find (amtQ find (amtQ find R (balKey m fr)).2 (balKey m to)).2 key may).2) (balKey m fr) (fundsQ find R m fr to a).1.less).2 1 := hlw.lay hd.1 _ _
   conv=>whnf
   refine .take 6 ?_
   conv=>whnf
   refine ⟨rfl, ?_⟩
   conv=>whnf
   refine ⟨rfl, ?_⟩
   conv=>whnf
   refine CondG.ndec (fun h9 => ?_) (fun h9 => ?_)
   ·conv=>whnf
    refine ⟨_, Ent.sel (T := []) (A := [_, _, _, _, _, _, _, _, _]) [0] rfl, ?_⟩
    rw [hW, turnQ, if_neg h8, if_pos h9]
    exact ⟨rfl, rfl⟩
   conv=>whnf
   refine DrawG.mk 7 [cel b19 38 (uvs (fundsQ find R m fr to a).1.more), cel b18 38 (uvs (amtQ find (amtQ find R (balKey m fr)).2 (balKey m to)).1.1), cel b17 38 (uvs (fundsQ find R m fr to a).1.less), cel b15 38 (uvs (amtQ find R (balKey m fr)).1.1), cel b13 38 (uvs may), cel b11 38 (uvs a), cel b10 35 (bvs to), cel b9 35 (bvs fr)] [refR 83 s hv part nv (layQ find ((layQ find (amtQ find (amtQ find R (balKey m fr)).2 (balKey m to)).2 key may).2) (balKey m fr) (fundsQ find R m fr to a).1.less).2] (Ent.refl _) ?_
   conv=>whnf
   refine .take 0 ?_
   conv=>whnf
   refine ⟨rfl, ?_⟩
   conv=>whnf
   refine .take 1 ?_
   conv=>whnf
   refine ⟨rfl, ?_⟩
   conv=>whnf
   refine .take 2 ?_
   conv=>whnf
   refine ⟨rfl, ?_⟩
   conv=>whnf
   refine LoadNG.at (vs := bvs to) (by rw [bvs_len, hto]) (.tl (.tl (.tl (.tl (.tl (.tl .all)))))) ?_
   conv=>whnf
   refine .take 4 ?_
   conv=>whnf
   refine ⟨rfl, ?_⟩
   conv=>whnf
   refine LoadNG.at (vs := uvs (fundsQ find R m fr to a).1.more) hml .all ?_
   conv=>whnf
   refine .all ?_
   conv=>whnf
   refine ⟨by decide, ?_⟩
   conv=>whnf
   refine CallG.pure (balanceKey8_spec _ m hm to hto) ?_
   rintro _ _ ⟨rfl, rfl⟩
   conv=>whnf
   refine .all ?_
   conv=>whnf
   refine ⟨by decide, ?_⟩
   conv=>whnf
   refine CallG.of (pre := [refR 83 s hv part nv (layQ find ((layQ find (amtQ find (amtQ find R (balKey m fr)).2 (balKey m to)).2 key may).2) (balKey m fr) (fundsQ find R m fr to a).1.less).2]) (rest := []) (lay8_q _ s _ (balKey m to) _ hmm ((hd.left _).left _) hlw2) (Ent.refl _) ?_
   rintro _ _ ⟨rfl, rfl⟩
   conv=>whnf
   refine .take 6 ?_
   conv=>whnf
   refine ⟨rfl, ?_⟩
   conv=>whnf
   refine ⟨rfl, ?_⟩
   conv=>whnf
   refine ⟨_, Ent.sel (T := []) (A := [_, _, _, _, _, _, _, _, _]) [0] rfl, ?_⟩
   rw [hW, turnQ, if_neg h8, if_neg (fun h => h h9)]
   exact ⟨rfl, rfl⟩
  ·have hlw : Lim (amtQ find (amtQ find R (balKey m fr)).2 (balKey m to)).2 2 := hly.mono (by decide)
   have hW : movedB find m fr to a key may (fundsQ find R m fr to a) = turnQ find (amtQ find (amtQ find R (balKey m fr)).2 (balKey m to)).2 m fr to a (fundsQ find R m fr to a).1.less (fundsQ find R m fr to a).1.more := by
    unfold movedB
    rw [if_neg hE, if_neg h5, if_pos h6, hF2]
   conv=>whnf
   refine LoadNG.at (vs := bvs fr) (by rw [bvs_len, hfr]) (.tl (.tl (.tl (.tl (.tl (.tl (.tl (.tl .all)))))))) ?_
   conv=>whnf
   refine LoadNG.at (vs := bvs to) (by rw [bvs_len, hto]) (.tl (.tl (.tl (.tl (.tl (.tl (.tl .all))))))) ?_
   conv=>whnf
   refine DoesG.eqv 8 (List.replicate 20 (.int .u8)) (by kernel_rfl) (by decide) (by kernel_rfl) (by kernel_rfl) (wt_bvs hfr) (wt_bvs hto) ?_
   conv=>whnf
   refine CondG.split (fun h7 => ?_) (fun h7 => ?_)
   ·simp only [decide_eq_true_eq] at h7
    have h7 := bvs_inj.1 h7
    conv=>whnf
    refine ⟨_, Ent.sel (T := []) (A := [_, _, _, _, _, _, _, _, _]) [2] rfl, ?_⟩
    rw [hW, turnQ, if_pos (.inl h7)]
    exact ⟨rfl, rfl⟩
   simp only [decide_eq_false_iff_not] at h7
   have h7 : ¬ fr = to := fun e => h7 (by rw [e])
   have h8 : ¬ (fr = to ∨ a = z4) := fun h => h.elim h7 h5
   obtain rfl := hmo h7
   conv=>whnf
   refine DrawG.mk 7 [cel b19 38 (uvs (fundsQ find R m fr to a).1.more), cel b18 38 (uvs (amtQ find (amtQ find R (balKey m fr)).2 (balKey m to)).1.1), cel b17 38 (uvs (fundsQ find R m fr to a).1.less), cel b15 38 (uvs (amtQ find R (balKey m fr)).1.1), cel b13 38 (uvs may), cel b11 38 (uvs a), cel b10 35 (bvs to), cel b9 35 (bvs fr)] [refR 83 s hv part nv ((amtQ find (amtQ find R (balKey m fr)).2 (balKey m to)).2)] (Ent.sel (T := []) (A := [_, _, _, _, _, _, _, _, _]) [2, 0, 1, 3, 4, 5, 6, 7, 8] rfl) ?_
   conv=>whnf
   refine .take 0 ?_
   conv=>whnf
   refine ⟨rfl, ?_⟩
   conv=>whnf
   refine .take 1 ?_
   conv=>whnf
   refine ⟨rfl, ?_⟩
   conv=>whnf
   refine .take 2 ?_
   conv=>whnf
   refine ⟨rfl, ?_⟩
   conv=>whnf
   refine LoadNG.at (vs := bvs fr) (by rw [bvs_len, hfr]) (.tl (.tl (.tl (.tl (.tl (.tl (.tl .all))))))) ?_
   conv=>whnf
   refine .take 4 ?_
   conv=>whnf
   refine ⟨rfl, ?_⟩
   conv=>whnf
   refine LoadNG.at (vs := uvs (fundsQ find R m fr to a).1.less) hll (.tl (.tl .all)) ?_
   conv=>whnf
   refine .all ?_
   conv=>whnf
   refine ⟨by decide, ?_⟩
   conv=>whnf
   refine CallG.pure (balanceKey8_spec _ m hm fr hfr) ?_
   rintro _ _ ⟨rfl, rfl⟩
   conv=>whnf
   refine .all ?_
   conv=>whnf
   refine ⟨by decide, ?_⟩
   conv=>whnf
   refine CallG.of (pre := [refR 83 s hv part nv ((amtQ find (amtQ find R (balKey m fr)).2 (balKey m to)).2)]) (rest := []) (lay8_q _ s ((amtQ find (amtQ find R (balKey m fr)).2 (balKey m to)).2) (balKey m fr) _ hlo ((hd.left _).left _) (hlw.mono (by decide))) (Ent.refl _) ?_
   rintro _ _ ⟨rfl, rfl⟩
   have hlw2 : Lim (layQ find ((amtQ find (amtQ find R (balKey m fr)).2 (balKey m to)).2) (balKey m fr) (fundsQ find R m fr to a).1.less).2 1 := hlw.lay hd.1 _ _
   conv=>whnf
   refine .take 6 ?_
   conv=>whnf
   refine ⟨rfl, ?_⟩
   conv=>whnf
   refine ⟨rfl, ?_⟩
   conv=>whnf
   refine CondG.ndec (fun h9 => ?_) (fun h9 => ?_)
   ·conv=>whnf
    refine ⟨_, Ent.sel (T := []) (A := [_, _, _, _, _, _, _, _, _]) [0] rfl, ?_⟩
    rw [hW, turnQ, if_neg h8, if_pos h9]
    exact ⟨rfl, rfl⟩
   conv=>whnf
   refine DrawG.mk 7 [cel b19 38 (uvs (fundsQ find R m fr to a).1.more), cel b18 38 (uvs (amtQ find (amtQ find R (balKey m fr)).2 (balKey m to)).1.1), cel b17 38 (uvs (fundsQ find R m fr to a).1.less), cel b15 38 (uvs (amtQ find R (balKey m fr)).1.1), cel b13 38 (uvs may), cel b11 38 (uvs a), cel b10 35 (bvs to), cel b9 35 (bvs fr)] [refR 83 s hv part nv (layQ find ((amtQ find (amtQ find R (balKey m fr)).2 (balKey m to)).2) (balKey m fr) (fundsQ find R m fr to a).1.less).2] (Ent.refl _) ?_
   conv=>whnf
   refine .take 0 ?_
   conv=>whnf
   refine ⟨rfl, ?_⟩
   conv=>whnf
   refine .take 1 ?_
   conv=>whnf
   refine ⟨rfl, ?_⟩
   conv=>whnf
   refine .take 2 ?_
   conv=>whnf
   refine ⟨rfl, ?_⟩
   conv=>whnf
   refine LoadNG.at (vs := bvs to) (by rw [bvs_len, hto]) (.tl (.tl (.tl (.tl (.tl (.tl .all)))))) ?_
   conv=>whnf
   refine .take 4 ?_
   conv=>whnf
   refine ⟨rfl, ?_⟩
   conv=>whnf
   refine LoadNG.at (vs := uvs (fundsQ find R m fr to a).1.more) hml .all ?_
   conv=>whnf
   refine .all ?_
   conv=>whnf
   refine ⟨by decide, ?_⟩
   conv=>whnf
   refine CallG.pure (balanceKey8_spec _ m hm to hto) ?_
   rintro _ _ ⟨rfl, rfl⟩
   conv=>whnf
   refine .all ?_
   conv=>whnf
   refine ⟨by decide, ?_⟩
   conv=>whnf
   refine CallG.of (pre := [refR 83 s hv part nv (layQ find ((amtQ find (amtQ find R (balKey m fr)).2 (balKey m to)).2) (balKey m fr) (fundsQ find R m fr to a).1.less).2]) (rest := []) (lay8_q _ s _ (balKey m to) _ hmm ((hd.left _).left _) hlw2) (Ent.refl _) ?_
   rintro _ _ ⟨rfl, rfl⟩
   conv=>whnf
   refine .take 6 ?_
   conv=>whnf
   refine ⟨rfl, ?_⟩
   conv=>whnf
   refine ⟨rfl, ?_⟩
   conv=>whnf
   refine ⟨_, Ent.sel (T := []) (A := [_, _, _, _, _, _, _, _, _]) [0] rfl, ?_⟩
   rw [hW, turnQ, if_neg h8, if_neg (fun h => h h9)]
   exact ⟨rfl, rfl⟩
 ·rw [addR_yes h4]
  refine CondG.ff ?_
  have hF0 : (fundsQ find R m fr to a).1.e = 0 := by
   rw [eF]
   rw [if_neg h4]
   split <;> rfl
  obtain ⟨mo, hmo'⟩ : ∃ mo, mo = addL (amtQ find (amtQ find R (balKey m fr)).2 (balKey m to)).1.1 a := ⟨_, rfl⟩
  have hmo : ¬ fr = to → mo = (fundsQ find R m fr to a).1.more := fun h => by rw [eF, if_neg h, if_neg h4, hmo']
  rw [show (addL (amtQ find (amtQ find R (balKey m fr)).2 (balKey m to)).1.1 a, (0 : Int)).1 = mo from hmo'.symm]
  have hll : (uvs (fundsQ find R m fr to a).1.less).length = 4 := by rw [uvs_len, hlo.len]
  have hml : (uvs (fundsQ find R m fr to a).1.more).length = 4 := by rw [uvs_len, hmm.len]
  have hE : ¬ (fundsQ find R m fr to a).1.e ≠ 0 := fun h => h hF0
  (conv=>whnf);refine .ff ?_;(conv=>whnf);refine .ff ?_;(conv=>whnf);refine .ff ?_;(conv=>whnf);refine .ff ?_;(conv=>whnf)
  refine LoadNG.at (vs := uvs a) hal (.tl (.tl (.tl (.tl (.tl (.tl .all)))))) ?_
  conv=>whnf
  refine CallG.pure (zero2_spec _ a ha.len) ?_
  rintro _ _ ⟨rfl, rfl⟩
  conv=>whnf
  refine CondG.dec (fun h5 => ?_) (fun h5 => ?_)
  ·conv=>whnf
   refine ⟨_, Ent.sel (T := []) (A := [_, _, _, _, _, _, _, _, _]) [2] rfl, ?_⟩
   unfold movedB
   rw [if_neg hE, if_pos h5, hF2]
   exact ⟨rfl, rfl⟩
  conv=>whnf
  refine CondG.ndec (fun h6 => ?_) (fun h6 => ?_)
  ·conv=>whnf
   refine LoadNG.at (vs := uvs may) hyl (.tl (.tl (.tl (.tl (.tl .all))))) ?_
   conv=>whnf
   refine CallG.of (pre := [refR 83 s hv part nv (amtQ find (amtQ find R (balKey m fr)).2 (balKey m to)).2]) (rest := [cel b19 38 (uvs mo), cel b18 38 (uvs (amtQ find (amtQ find R (balKey m fr)).2 (balKey m to)).1.1), cel b17 38 (uvs (fundsQ find R m fr to a).1.less), cel b15 38 (uvs (amtQ find R (balKey m fr)).1.1), cel b13 38 (uvs may), cel b11 38 (uvs a), cel b10 35 (bvs to), cel b9 35 (bvs fr)]) (lay8_q _ s (amtQ find (amtQ find R (balKey m fr)).2 (balKey m to)).2 key may hmay (hd.left _) (hly.mono (by decide))) (Ent.sel (T := []) (A := [_, _, _, _, _, _, _, _, _]) [2, 0, 1, 3, 4, 5, 6, 7, 8] rfl) ?_
   rintro _ _ ⟨rfl, rfl⟩
   have hlw : Lim (layQ find (amtQ find (amtQ find R (balKey m fr)).2 (balKey m to)).2 key may).2 2 := hly.lay hd.1 _ _
   conv=>whnf
   refine CondG.ndec (fun h10 => ?_) (fun h10 => ?_)
   ·conv=>whnf
    refine ⟨_, Ent.sel (T := []) (A := [_, _, _, _, _, _, _, _, _]) [0] rfl, ?_⟩
    unfold movedB
    rw [if_neg hE, if_neg h5, if_neg h6, hF2, if_pos h10]
    exact ⟨rfl, rfl⟩
   have hW : movedB find m fr to a key may (fundsQ find R m fr to a) = turnQ find (layQ find (amtQ find (amtQ find R (balKey m fr)).2 (balKey m to)).2 key may).2 m fr to a (fundsQ find R m fr to a).1.less (fundsQ find R m fr to a).1.more := by
    unfold movedB
    rw [if_neg hE, if_neg h5, if_neg h6, hF2, if_neg (fun h => h h10)]
   conv=>whnf
   refine LoadNG.at (vs := bvs fr) (by rw [bvs_len, hfr]) (.tl (.tl (.tl (.tl (.tl (.tl (.tl (.tl .all)))))))) ?_
   conv=>whnf
   refine LoadNG.at (vs := bvs to) (by rw [bvs_len, hto]) (.tl (.tl (.tl (.tl (.tl (.tl (.tl .all))))))) ?_
   conv=>whnf
   refine DoesG.eqv 8 (List.replicate 20 (.int .u8)) (by kernel_rfl) (by decide) (by kernel_rfl) (by kernel_rfl) (wt_bvs hfr) (wt_bvs hto) ?_
   conv=>whnf
   refine CondG.split (fun h7 => ?_) (fun h7 => ?_)
   ·simp only [decide_eq_true_eq] at h7
    have h7 := bvs_inj.1 h7
    conv=>whnf
    refine ⟨_, Ent.sel (T := []) (A := [_, _, _, _, _, _, _, _, _]) [0] rfl, ?_⟩
    rw [hW, turnQ, if_pos (.inl h7)]
    exact ⟨rfl, rfl⟩
   simp only [decide_eq_false_iff_not] at h7
   have h7 : ¬ fr = to := fun e => h7 (by rw [e])
   have h8 : ¬ (fr = to ∨ a = z4) := fun h => h.elim h7 h5
   obtain rfl := hmo h7
   conv=>whnf
   refine DrawG.mk 7 [cel b19 38 (uvs (fundsQ find R m fr to a).1.more), cel b18 38 (uvs (amtQ find (amtQ find R (balKey m fr)).2 (balKey m to)).1.1), cel b17 38 (uvs (fundsQ find R m fr to a).1.less), cel b15 38 (uvs (amtQ find R (balKey m fr)).1.1), cel b13 38 (uvs may), cel b11 38 (uvs a), cel b10 35 (bvs to), cel b9 35 (bvs fr)] [refR 83 s hv part nv ((layQ find (amtQ find (amtQ find R (balKey m fr)).2 (balKey m to)).2 key may).2)] (Ent.sel (T := []) (A := [_, _, _, _, _, _, _, _, _]) [0, 1, 2, 3, 4, 5, 6, 7, 8] rfl) ?_
   conv=>whnf
   refine .take 0 ?_
   conv=>whnf
   refine ⟨rfl, ?_⟩
   conv=>whnf
   refine .take 1 ?_
   conv=>whnf
   refine ⟨rfl, ?_⟩
   conv=>whnf
   refine .take 2 ?_
   conv=>whnf
   refine ⟨rfl, ?_⟩
   conv=>whnf
   refine LoadNG.at (vs := bvs fr) (by rw [bvs_len, hfr]) (.tl (.tl (.tl (.tl (.tl (.tl (.tl .all))))))) ?_
   conv=>whnf
   refine .take 4 ?_
   conv=>whnf
   refine ⟨rfl, ?_⟩
   conv=>whnf
   refine LoadNG.at (vs := uvs (fundsQ find R m fr to a).1.less) hll (.tl (.tl .all)) ?_
   conv=>whnf
   refine .all ?_
   conv=>whnf
   refine ⟨by decide, ?_⟩
   conv=>whnf
   refine CallG.pure (balanceKey8_spec _ m hm fr hfr) ?_
   rintro _ _ ⟨rfl, rfl⟩
   conv=>whnf
   refine .all ?_
   conv=>whnf
   refine ⟨by decide, ?_⟩
   conv=>whnf
   refine CallG.of (pre := [refR 83 s hv part nv ((layQ find (amtQ find (amtQ find R (balKey m fr)).2 (balKey m to)).2 key may).2)]) (rest := []) (lay8_q _ s ((layQ find (amtQ find (amtQ find R (balKey m fr)).2 (balKey m to)).2 key may).2) (balKey m fr) _ hlo ((hd.left _).left _) (hlw.mono (by decide))) (Ent.refl _) ?_
   rintro _ _ ⟨rfl, rfl⟩
   have hlw2 : Lim (layQ find ((layQ find (amtQ find (amtQ find R (balKey m fr)).2 (balKey m to)).2 key may).2) (balKey m fr) (fundsQ find R m fr to a).1.less).2 1 := hlw.lay hd.1 _ _
   conv=>whnf
   refine .take 6 ?_
   conv=>whnf
   refine ⟨rfl, ?_⟩
   conv=>whnf
   refine ⟨rfl, ?_⟩
   conv=>whnf
   refine CondG.ndec (fun h9 => ?_) (fun h9 => ?_)
   ·conv=>whnf
    refine ⟨_, Ent.sel (T := []) (A := [_, _, _, _, _, _, _, _, _]) [0] rfl, ?_⟩
    rw [hW, turnQ, if_neg h8, if_pos h9]
    exact ⟨rfl, rfl⟩
   conv=>whnf
   refine DrawG.mk 7 [cel b19 38 (uvs (fundsQ find R m fr to a).1.more), cel b18 38 (uvs (amtQ find (amtQ find R (balKey m fr)).2 (balKey m to)).1.1), cel b17 38 (uvs (fundsQ find R m fr to a).1.less), cel b15 38 (uvs (amtQ find R (balKey m fr)).1.1), cel b13 38 (uvs may), cel b11 38 (uvs a), cel b10 35 (bvs to), cel b9 35 (bvs fr)] [refR 83 s hv part nv (layQ find ((layQ find (amtQ find (amtQ find R (balKey m fr)).2 (balKey m to)).2 key may).2) (balKey m fr) (fundsQ find R m fr to a).1.less).2] (Ent.refl _) ?_
   conv=>whnf
   refine .take 0 ?_
   conv=>whnf
   refine ⟨rfl, ?_⟩
   conv=>whnf
   refine .take 1 ?_
   conv=>whnf
   refine ⟨rfl, ?_⟩
   conv=>whnf
   refine .take 2 ?_
   conv=>whnf
   refine ⟨rfl, ?_⟩
   conv=>whnf
   refine LoadNG.at (vs := bvs to) (by rw [bvs_len, hto]) (.tl (.tl (.tl (.tl (.tl (.tl .all)))))) ?_
   conv=>whnf
   refine .take 4 ?_
   conv=>whnf
   refine ⟨rfl, ?_⟩
   conv=>whnf
   refine LoadNG.at (vs := uvs (fundsQ find R m fr to a).1.more) hml .all ?_
   conv=>whnf
   refine .all ?_
   conv=>whnf
   refine ⟨by decide, ?_⟩
   conv=>whnf
   refine CallG.pure (balanceKey8_spec _ m hm to hto) ?_
   rintro _ _ ⟨rfl, rfl⟩
   conv=>whnf
   refine .all ?_
   conv=>whnf
   refine ⟨by decide, ?_⟩
   conv=>whnf
   refine CallG.of (pre := [refR 83 s hv part nv (layQ find ((layQ find (amtQ find (amtQ find R (balKey m fr)).2 (balKey m to)).2 key may).2) (balKey m fr) (fundsQ find R m fr to a).1.less).2]) (rest := []) (lay8_q _ s _ (balKey m to) _ hmm ((hd.left _).left _) hlw2) (Ent.refl _) ?_
   rintro _ _ ⟨rfl, rfl⟩
   conv=>whnf
   refine .take 6 ?_
   conv=>whnf
   refine ⟨rfl, ?_⟩
   conv=>whnf
   refine ⟨rfl, ?_⟩
   conv=>whnf
   refine ⟨_, Ent.sel (T := []) (A := [_, _, _, _, _, _, _, _, _]) [0] rfl, ?_⟩
   rw [hW, turnQ, if_neg h8, if_neg (fun h => h h9)]
   exact ⟨rfl, rfl⟩
  ·have hlw : Lim (amtQ find (amtQ find R (balKey m fr)).2 (balKey m to)).2 2 := hly.mono (by decide)
   have hW : movedB find m fr to a key may (fundsQ find R m fr to a) = turnQ find (amtQ find (amtQ find R (balKey m fr)).2 (balKey m to)).2 m fr to a (fundsQ find R m fr to a).1.less (fundsQ find R m fr to a).1.more := by
    unfold movedB
    rw [if_neg hE, if_neg h5, if_pos h6, hF2]
   conv=>whnf
   refine LoadNG.at (vs := bvs fr) (by rw [bvs_len, hfr]) (.tl (.tl (.tl (.tl (.tl (.tl (.tl (.tl .all)))))))) ?_
   conv=>whnf
   refine LoadNG.at (vs := bvs to) (by rw [bvs_len, hto]) (.tl (.tl (.tl (.tl (.tl (.tl (.tl .all))))))) ?_
   conv=>whnf
   refine DoesG.eqv 8 (List.replicate 20 (.int .u8)) (by kernel_rfl) (by decide) (by kernel_rfl) (by kernel_rfl) (wt_bvs hfr) (wt_bvs hto) ?_
   conv=>whnf
   refine CondG.split (fun h7 => ?_) (fun h7 => ?_)
   ·simp only [decide_eq_true_eq] at h7
    have h7 := bvs_inj.1 h7
    conv=>whnf
    refine ⟨_, Ent.sel (T := []) (A := [_, _, _, _, _, _, _, _, _]) [2] rfl, ?_⟩
    rw [hW, turnQ, if_pos (.inl h7)]
    exact ⟨rfl, rfl⟩
   simp only [decide_eq_false_iff_not] at h7
   have h7 : ¬ fr = to := fun e => h7 (by rw [e])
   have h8 : ¬ (fr = to ∨ a = z4) := fun h => h.elim h7 h5
   obtain rfl := hmo h7
   conv=>whnf
   refine DrawG.mk 7 [cel b19 38 (uvs (fundsQ find R m fr to a).1.more), cel b18 38 (uvs (amtQ find (amtQ find R (balKey m fr)).2 (balKey m to)).1.1), cel b17 38 (uvs (fundsQ find R m fr to a).1.less), cel b15 38 (uvs (amtQ find R (balKey m fr)).1.1), cel b13 38 (uvs may), cel b11 38 (uvs a), cel b10 35 (bvs to), cel b9 35 (bvs fr)] [refR 83 s hv part nv ((amtQ find (amtQ find R (balKey m fr)).2 (balKey m to)).2)] (Ent.sel (T := []) (A := [_, _, _, _, _, _, _, _, _]) [2, 0, 1, 3, 4, 5, 6, 7, 8] rfl) ?_
   conv=>whnf
   refine .take 0 ?_
   conv=>whnf
   refine ⟨rfl, ?_⟩
   conv=>whnf
   refine .take 1 ?_
   conv=>whnf
   refine ⟨rfl, ?_⟩
   conv=>whnf
   refine .take 2 ?_
   conv=>whnf
   refine ⟨rfl, ?_⟩
   conv=>whnf
   refine LoadNG.at (vs := bvs fr) (by rw [bvs_len, hfr]) (.tl (.tl (.tl (.tl (.tl (.tl (.tl .all))))))) ?_
   conv=>whnf
   refine .take 4 ?_
   conv=>whnf
   refine ⟨rfl, ?_⟩
   conv=>whnf
   refine LoadNG.at (vs := uvs (fundsQ find R m fr to a).1.less) hll (.tl (.tl .all)) ?_
   conv=>whnf
   refine .all ?_
   conv=>whnf
   refine ⟨by decide, ?_⟩
   conv=>whnf
   refine CallG.pure (balanceKey8_spec _ m hm fr hfr) ?_
   rintro _ _ ⟨rfl, rfl⟩
   conv=>whnf
   refine .all ?_
   conv=>whnf
   refine ⟨by decide, ?_⟩
   conv=>whnf
   refine CallG.of (pre := [refR 83 s hv part nv ((amtQ find (amtQ find R (balKey m fr)).2 (balKey m to)).2)]) (rest := []) (lay8_q _ s ((amtQ find (amtQ find R (balKey m fr)).2 (balKey m to)).2) (balKey m fr) _ hlo ((hd.left _).left _) (hlw.mono (by decide))) (Ent.refl _) ?_
   rintro _ _ ⟨rfl, rfl⟩
   have hlw2 : Lim (layQ find ((amtQ find (amtQ find R (balKey m fr)).2 (balKey m to)).2) (balKey m fr) (fundsQ find R m fr to a).1.less).2 1 := hlw.lay hd.1 _ _
   conv=>whnf
   refine .take 6 ?_
   conv=>whnf
   refine ⟨rfl, ?_⟩
   conv=>whnf
   refine ⟨rfl, ?_⟩
   conv=>whnf
   refine CondG.ndec (fun h9 => ?_) (fun h9 => ?_)
   ·conv=>whnf
    refine ⟨_, Ent.sel (T := []) (A := [_, _, _, _, _, _, _, _, _]) [0] rfl, ?_⟩
    rw [hW, turnQ, if_neg h8, if_pos h9]
    exact ⟨rfl, rfl⟩
   conv=>whnf
   refine DrawG.mk 7 [cel b19 38 (uvs (fundsQ find R m fr to a).1.more), cel b18 38 (uvs (amtQ find (amtQ find R (balKey m fr)).2 (balKey m to)).1.1), cel b17 38 (uvs (fundsQ find R m fr to a).1.less), cel b15 38 (uvs (amtQ find R (balKey m fr)).1.1), cel b13 38 (uvs may), cel b11 38 (uvs a), cel b10 35 (bvs to), cel b9 35 (bvs fr)] [refR 83 s hv part nv (layQ find ((amtQ find (amtQ find R (balKey m fr)).2 (balKey m to)).2) (balKey m fr) (fundsQ find R m fr to a).1.less).2] (Ent.refl _) ?_
   conv=>whnf
   refine .take 0 ?_
   conv=>whnf
   refine ⟨rfl, ?_⟩
   conv=>whnf
   refine .take 1 ?_
   conv=>whnf
   refine ⟨rfl, ?_⟩
   conv=>whnf
   refine .take 2 ?_
   conv=>whnf
   refine ⟨rfl, ?_⟩
   conv=>whnf
   refine LoadNG.at (vs := bvs to) (by rw [bvs_len, hto]) (.tl (.tl (.tl (.tl (.tl (.tl .all)))))) ?_
   conv=>whnf
   refine .take 4 ?_
   conv=>whnf
   refine ⟨rfl, ?_⟩
   conv=>whnf
   refine LoadNG.at (vs := uvs (fundsQ find R m fr to a).1.more) hml .all ?_
   conv=>whnf
   refine .all ?_
   conv=>whnf
   refine ⟨by decide, ?_⟩
   conv=>whnf
   refine CallG.pure (balanceKey8_spec _ m hm to hto) ?_
   rintro _ _ ⟨rfl, rfl⟩
   conv=>whnf
   refine .all ?_
   conv=>whnf
   refine ⟨by decide, ?_⟩
   conv=>whnf
   refine CallG.of (pre := [refR 83 s hv part nv (layQ find ((amtQ find (amtQ find R (balKey m fr)).2 (balKey m to)).2) (balKey m fr) (fundsQ find R m fr to a).1.less).2]) (rest := []) (lay8_q _ s _ (balKey m to) _ hmm ((hd.left _).left _) hlw2) (Ent.refl _) ?_
   rintro _ _ ⟨rfl, rfl⟩
   conv=>whnf
   refine .take 6 ?_
   conv=>whnf
   refine ⟨rfl, ?_⟩
   conv=>whnf
   refine ⟨rfl, ?_⟩
   conv=>whnf
   refine ⟨_, Ent.sel (T := []) (A := [_, _, _, _, _, _, _, _, _]) [0] rfl, ?_⟩
   rw [hW, turnQ, if_neg h8, if_neg (fun h => h h9)]
   exact ⟨rfl, rfl⟩
theorem move8_q (F : List HP) (s : Nat) (R : RSt) (t : Int) (fr to a : List Nat) (hfr : fr.length = 20) (hto : to.length = 20) (ha : wOk a) (hd : DocF F hv nv part find) (hl : Lim R 6) :
 SpecF Tryz.prog 70 [.pointer (some ⟨s, 0, none⟩), .int .i64 t, .agg ⟨bvs fr⟩, .agg ⟨bvs to⟩, .agg ⟨uvs a⟩] F [refR 83 s hv part nv R] (fun r L => r = .int .i64 (moveQ find R t fr to a).1 ∧ L = [refR 83 s hv part nv (moveQ find R t fr to a).2]) := by
 have hal : (uvs a).length = 4 := by rw [uvs_len, ha.len]
 refine fun70.spec rfl ?_
 conv=>whnf
 intro b7
 conv=>whnf
 intro b8
 conv=>whnf
 intro b9
 conv=>whnf
 refine CallG.of (pre := [refR 83 s hv part nv R]) (rest := [cel b9 38 (uvs a), cel b8 35 (bvs to), cel b7 35 (bvs fr)]) (there8_q _ s R t true (hd.left _) (hl.mono (by decide))) (Ent.sel (T := []) (A := [_, _, _, _]) [3, 0, 1, 2] rfl) ?_
 rintro _ _ ⟨d, hdk, rfl, hdx, rfl⟩
 rw [show thrQ find R t true = runQ find R t from rfl] at hdx ⊢
 have hl1 : d.cells.length = 6 := TokD.cells_len hdk.len
 conv=>whnf
 intro b11
 conv=>whnf
 refine StoreG.at hl1 (Upd.whole (by rw [hl1]; rfl) (TokD.cells_one _)) ?_
 conv=>whnf
 refine CondG.ndec (fun h1 => ?_) (fun h1 => ?_)
 ·conv=>whnf
  refine ⟨_, Ent.sel (T := []) (A := [_, _, _, _, _]) [1] rfl, ?_⟩
  rw [moveQ, if_pos h1]
  exact ⟨rfl, rfl⟩
 obtain rfl := hdx h1
 obtain ⟨m, rfl, hm⟩ := runQ_nat find h1
 conv=>whnf
 refine LoadNG.at (vs := bvs fr) (by rw [bvs_len, hfr]) (.tl (.tl (.tl (.tl .all)))) ?_
 conv=>whnf
 refine LoadNG.at (vs := bvs to) (by rw [bvs_len, hto]) (.tl (.tl (.tl .all))) ?_
 conv=>whnf
 refine LoadNG.at (vs := uvs a) hal (.tl (.tl .all)) ?_
 conv=>whnf
 refine BuildG.of (cs := uvs z4) rfl ?_
 conv=>whnf
 refine CallG.of (pre := [refR 83 s hv part nv (runQ find R m).2]) (rest := [cel b11 61 (runQ find R m).1.1.cells, cel b9 38 (uvs a), cel b8 35 (bvs to), cel b7 35 (bvs fr)]) (moved8_q _ s (runQ find R m).2 m hm fr to a ⟨#[]⟩ z4 hfr hto ha zero4_ok (hd.left _) (hl.run hd.1 m)) (Ent.sel (T := []) (A := [_, _, _, _, _]) [1, 0, 2, 3, 4] rfl) ?_
 rw [movedB_none]
 rintro _ _ ⟨rfl, rfl⟩
 conv=>whnf
 refine ⟨_, Ent.sel (T := []) (A := [_, _, _, _, _]) [0] rfl, ?_⟩
 rw [moveQ, if_neg (fun h => h h1)]
 exact ⟨rfl, rfl⟩
theorem pull8_q (F : List HP) (s : Nat) (R : RSt) (t : Int) (sp fr to a : List Nat) (hsp : sp.length = 20) (hfr : fr.length = 20) (hto : to.length = 20) (ha : wOk a) (hd : DocF F hv nv part find) (hl : Lim R 7) :
 SpecF Tryz.prog 72 [.pointer (some ⟨s, 0, none⟩), .int .i64 t, .agg ⟨bvs sp⟩, .agg ⟨bvs fr⟩, .agg ⟨bvs to⟩, .agg ⟨uvs a⟩] F [refR 83 s hv part nv R] (fun r L => r = .int .i64 (pullQ find R t sp fr to a).1 ∧ L = [refR 83 s hv part nv (pullQ find R t sp fr to a).2]) := by
 have hal : (uvs a).length = 4 := by rw [uvs_len, ha.len]
 refine fun72.spec rfl ?_
 conv=>whnf
 intro b8
 conv=>whnf
 intro b9
 conv=>whnf
 intro b10
 conv=>whnf
 intro b11
 conv=>whnf
 refine CallG.of (pre := [refR 83 s hv part nv R]) (rest := [cel b11 38 (uvs a), cel b10 35 (bvs to), cel b9 35 (bvs fr), cel b8 35 (bvs sp)]) (there8_q _ s R t true (hd.left _) (hl.mono (by decide))) (Ent.sel (T := []) (A := [_, _, _, _, _]) [4, 0, 1, 2, 3] rfl) ?_
 rintro _ _ ⟨d, hdk, rfl, hdx, rfl⟩
 rw [show thrQ find R t true = runQ find R t from rfl] at hdx ⊢
 have hl1 : d.cells.length = 6 := TokD.cells_len hdk.len
 conv=>whnf
 intro b13
 conv=>whnf
 refine StoreG.at hl1 (Upd.whole (by rw [hl1]; rfl) (TokD.cells_one _)) ?_
 conv=>whnf
 refine CondG.ndec (fun h1 => ?_) (fun h1 => ?_)
 ·conv=>whnf
  refine ⟨_, Ent.sel (T := []) (A := [_, _, _, _, _, _]) [1] rfl, ?_⟩
  rw [pullQ, if_pos h1]
  exact ⟨rfl, rfl⟩
 obtain rfl := hdx h1
 obtain ⟨m, rfl, hm⟩ := runQ_nat find h1
 have h1' : ¬ (runQ find R m).1.2 ≠ 0 := fun h => h h1
 have hlx : Lim (runQ find R m).2 6 := hl.run hd.1 m
 have hly : Lim (amtQ find (runQ find R m).2 (allKey m fr sp)).2 5 := hlx.amt hd.1 _
 have hmk := amtQ_ok find (runQ find R m).2 (allKey m fr sp)
 have hml : (uvs (amtQ find (runQ find R m).2 (allKey m fr sp)).1.1).length = 4 := by rw [uvs_len, hmk.len]
 conv=>whnf
 refine LoadNG.at (vs := bvs fr) (by rw [bvs_len, hfr]) (.tl (.tl (.tl (.tl .all)))) ?_
 conv=>whnf
 refine LoadNG.at (vs := bvs sp) (by rw [bvs_len, hsp]) (.tl (.tl (.tl (.tl (.tl .all))))) ?_
 conv=>whnf
 refine CallG.pure (allowanceKey8_spec _ m hm fr sp hfr hsp) ?_
 rintro _ _ ⟨rfl, rfl⟩
 conv=>whnf
 refine CallG.of (pre := [refR 83 s hv part nv (runQ find R m).2]) (rest := [cel b13 61 (runQ find R m).1.1.cells, cel b11 38 (uvs a), cel b10 35 (bvs to), cel b9 35 (bvs fr), cel b8 35 (bvs sp)]) (asked8_q _ s (runQ find R m).2 (allKey m fr sp) (hd.left _) (hlx.mono (by decide))) (Ent.sel (T := []) (A := [_, _, _, _, _, _]) [1, 0, 2, 3, 4, 5] rfl) ?_
 rintro _ _ ⟨rfl, rfl⟩
 conv=>whnf
 intro b16
 conv=>whnf
 refine StoreG.at hml (Upd.whole (by rw [hml]; rfl) (uvs_one _)) ?_
 conv=>whnf
 refine CondG.ndec (fun h2 => ?_) (fun h2 => ?_)
 ·conv=>whnf
  refine ⟨_, Ent.sel (T := []) (A := [_, _, _, _, _, _, _]) [1] rfl, ?_⟩
  unfold pullQ pullA
  rw [if_neg h1', Int.toNat_natCast, if_pos h2]
  exact ⟨rfl, rfl⟩
 have h2' : ¬ (amtQ find (runQ find R m).2 (allKey m fr sp)).1.2 ≠ 0 := fun h => h h2
 conv=>whnf
 refine LoadNG.at (vs := uvs (amtQ find (runQ find R m).2 (allKey m fr sp)).1.1) hml .all ?_
 conv=>whnf
 refine LoadNG.at (vs := uvs a) hal (.tl (.tl (.tl .all))) ?_
 conv=>whnf
 refine CallG.pure (sub2_q _ _ a hmk ha) ?_
 rintro _ _ ⟨rfl, rfl⟩
 have hB : (uvs (subR (amtQ find (runQ find R m).2 (allKey m fr sp)).1.1 a).1).length = 4 := by rw [uvs_len, subR_ok]
 conv=>whnf
 refine StoreG.at hB (Upd.whole (by rw [hB, hml]) (uvs_one _)) ?_
 conv=>whnf
 by_cases h3 : nat4 (amtQ find (runQ find R m).2 (allKey m fr sp)).1.1 < nat4 a
 ·rw [subR_no h3]
  refine CondG.tt ?_
  conv=>whnf
  refine ⟨_, Ent.sel (T := []) (A := [_, _, _, _, _, _, _]) [1] rfl, ?_⟩
  unfold pullQ pullA
  rw [if_neg h1', Int.toNat_natCast, if_neg h2', if_pos h3]
  exact ⟨rfl, rfl⟩
 rw [subR_yes h3]
 refine CondG.ff ?_
 conv=>whnf
 refine LoadNG.at (vs := bvs fr) (by rw [bvs_len, hfr]) (.tl (.tl (.tl (.tl (.tl .all))))) ?_
 conv=>whnf
 refine LoadNG.at (vs := bvs to) (by rw [bvs_len, hto]) (.tl (.tl (.tl (.tl .all)))) ?_
 conv=>whnf
 refine LoadNG.at (vs := uvs a) hal (.tl (.tl (.tl .all))) ?_
 conv=>whnf
 refine LoadNG.at (vs := uvs (subL (amtQ find (runQ find R m).2 (allKey m fr sp)).1.1 a)) rfl .all ?_
 conv=>whnf
 refine CallG.of (pre := [refR 83 s hv part nv (amtQ find (runQ find R m).2 (allKey m fr sp)).2]) (rest := [cel b16 38 (uvs (subL (amtQ find (runQ find R m).2 (allKey m fr sp)).1.1 a)), cel b13 61 (runQ find R m).1.1.cells, cel b11 38 (uvs a), cel b10 35 (bvs to), cel b9 35 (bvs fr), cel b8 35 (bvs sp)]) (moved8_q _ s (amtQ find (runQ find R m).2 (allKey m fr sp)).2 m hm fr to a (allKey m fr sp) (subL (amtQ find (runQ find R m).2 (allKey m fr sp)).1.1 a) hfr hto ha (subL_ok _ _) (hd.left _) hly) (Ent.sel (T := []) (A := [_, _, _, _, _, _, _]) [1, 0, 2, 3, 4, 5, 6] rfl) ?_
 rw [movedB_key]
 rintro _ _ ⟨rfl, rfl⟩
 conv=>whnf
 refine ⟨_, Ent.sel (T := []) (A := [_, _, _, _, _, _, _]) [0] rfl, ?_⟩
 unfold pullQ pullA
 rw [if_neg h1', Int.toNat_natCast, if_neg h2', if_neg h3]
 exact ⟨rfl, rfl⟩
end
end Go.Proofs.YtjacolfhlfogkabGreatDoor
