import Derived.Test.YtjacolfhlfogkabGreatDoorMu
import Derived.Test.YtjacolfhlfogkabGreatDoorLz
namespace Go.Proofs.YtjacolfhlfogkabGreatDoor
open Go Go.Sl
theorem add2_q (F : List HP) (a b : List Nat) (ha : wOk a) (hb : wOk b) : SpecF Tryz.prog 117 [.agg ⟨uvs a⟩, .agg ⟨uvs b⟩] F [] (fun r L => r = .tuple #[.agg ⟨uvs (addR a b).1⟩, .int .i64 (addR a b).2] ∧ L = []) := by
 have e : numN (nat4 a + nat4 b) = (addR a b).1 ∧ ansE (nat4 a + nat4 b) = (addR a b).2 := by
  unfold numN ansE addR
  rw [show (2 : Nat) ^ 256 = m256 from rfl]
  by_cases h : m256 ≤ nat4 a + nat4 b
  ·rw [if_pos h, if_neg (Nat.not_lt.2 h), if_neg (Nat.not_lt.2 h)]; exact ⟨rfl, rfl⟩
  ·rw [if_neg h, if_pos (Nat.lt_of_not_le h), if_pos (Nat.lt_of_not_le h)]; exact ⟨rfl, rfl⟩
 have h := add2_spec F a b ha hb
 rw [e.1, e.2] at h
 exact h
section
variable {find : SrcF} {hv nv : Value} {part : Bool}
theorem register8_q (F : List HP) (s : Nat) (R : RSt) (t : Int) (hd : DocF F hv nv part find) (hl : Lim R 2) :
 SpecF Tryz.prog 43 [.pointer (some ⟨s, 0, none⟩), .int .i64 t] F [refR 83 s hv part nv R] (fun r L => r = .int .i64 (registerQ find R t).1 ∧ L = [refR 83 s hv part nv (registerQ find R t).2]) := by
 have hok := (tokenQ_ok find R t).len
 have hl1 : (tokenQ find R t).1.1.cells.length = 6 := TokD.cells_len hok
 refine fun43.spec rfl ?_
 conv=>whnf
 refine CallG.of (pre := [refR 83 s hv part nv R]) (rest := []) (token8_q _ s R t (hd.left _) (hl.mono (by decide))) (Ent.refl _) ?_
 rintro _ _ ⟨rfl, rfl⟩
 conv=>whnf
 intro b5
 conv=>whnf
 refine StoreG.at hl1 (Upd.whole (by rw [hl1]; rfl) (TokD.cells_one _)) ?_
 conv=>whnf
 refine CondG.ndec (fun h1 => ?_) (fun h1 => ?_)
 ·conv=>whnf
  refine ⟨_, Ent.sel (T := []) (A := [_, _]) [1] rfl, ?_⟩
  rw [registerQ, if_pos h1]
  exact ⟨rfl, rfl⟩
 obtain ⟨m, rfl, hm⟩ := tokenQ_nat find h1
 have h1' : ¬ (tokenQ find R m).1.2 ≠ 0 := fun h => h h1
 conv=>whnf
 refine LoadG.at (v := .bool (tokenQ find R m).1.1.there) (.here rfl) ?_
 conv=>whnf
 refine CondG.split (fun h2 => ?_) (fun h2 => ?_)
 ·conv=>whnf
  refine ⟨_, Ent.sel (T := []) (A := [_, _]) [1] rfl, ?_⟩
  rw [registerQ, if_neg h1', if_pos h2]
  exact ⟨rfl, rfl⟩
 conv=>whnf
 refine BuildG.of (cs := uvs z4) rfl ?_
 conv=>whnf
 refine CallG.of (pre := [refR 83 s hv part nv (tokenQ find R m).2]) (rest := [cel b5 61 (tokenQ find R m).1.1.cells]) (layToken8_q _ s (tokenQ find R m).2 m hm false z4 zero4_ok (hd.left _) (hl.token hd.1 m)) (Ent.perm (List.Perm.swap _ _ _)) ?_
 rintro _ _ ⟨rfl, rfl⟩
 conv=>whnf
 refine ⟨_, Ent.sel (T := []) (A := [_, _]) [0] rfl, ?_⟩
 rw [registerQ, if_neg h1', if_neg (by rw [h2]; decide)]
 exact ⟨rfl, rfl⟩
theorem pause8_q (F : List HP) (s : Nat) (R : RSt) (t : Int) (hd : DocF F hv nv part find) (hl : Lim R 2) :
 SpecF Tryz.prog 44 [.pointer (some ⟨s, 0, none⟩), .int .i64 t] F [refR 83 s hv part nv R] (fun r L => r = .int .i64 (pauseQ find R t).1 ∧ L = [refR 83 s hv part nv (pauseQ find R t).2]) := by
 refine fun44.spec rfl ?_
 conv=>whnf
 refine CallG.of (pre := [refR 83 s hv part nv R]) (rest := []) (there8_q _ s R t true (hd.left _) (hl.mono (by decide))) (Ent.refl _) ?_
 rintro _ _ ⟨d, hdk, rfl, hdx, rfl⟩
 rw [show thrQ find R t true = runQ find R t from rfl] at hdx ⊢
 have hl1 : d.cells.length = 6 := TokD.cells_len hdk.len
 conv=>whnf
 intro b5
 conv=>whnf
 refine StoreG.at hl1 (Upd.whole (by rw [hl1]; rfl) (TokD.cells_one _)) ?_
 conv=>whnf
 refine CondG.ndec (fun h1 => ?_) (fun h1 => ?_)
 ·conv=>whnf
  refine ⟨_, Ent.sel (T := []) (A := [_, _]) [1] rfl, ?_⟩
  rw [pauseQ, if_pos h1]
  exact ⟨rfl, rfl⟩
 obtain rfl := hdx h1
 obtain ⟨m, rfl, hm⟩ := runQ_nat find h1
 conv=>whnf
 refine LoadNG.at (vs := uvs (runQ find R m).1.1.sup) (by rw [uvs_len, hdk.len]) (.here (sup_at _)) ?_
 conv=>whnf
 refine CallG.of (pre := [refR 83 s hv part nv (runQ find R m).2]) (rest := [cel b5 61 (runQ find R m).1.1.cells]) (layToken8_q _ s (runQ find R m).2 m hm true _ hdk (hd.left _) (hl.run hd.1 m)) (Ent.perm (List.Perm.swap _ _ _)) ?_
 rintro _ _ ⟨rfl, rfl⟩
 conv=>whnf
 refine ⟨_, Ent.sel (T := []) (A := [_, _]) [0] rfl, ?_⟩
 rw [pauseQ, if_neg (fun h => h h1)]
 exact ⟨rfl, rfl⟩
theorem resume8_q (F : List HP) (s : Nat) (R : RSt) (t : Int) (hd : DocF F hv nv part find) (hl : Lim R 2) :
 SpecF Tryz.prog 45 [.pointer (some ⟨s, 0, none⟩), .int .i64 t] F [refR 83 s hv part nv R] (fun r L => r = .int .i64 (resumeQ find R t).1 ∧ L = [refR 83 s hv part nv (resumeQ find R t).2]) := by
 refine fun45.spec rfl ?_
 conv=>whnf
 refine CallG.of (pre := [refR 83 s hv part nv R]) (rest := []) (there8_q _ s R t false (hd.left _) (hl.mono (by decide))) (Ent.refl _) ?_
 rintro _ _ ⟨d, hdk, rfl, hdx, rfl⟩
 rw [show thrQ find R t false = thereQ find R t from rfl] at hdx ⊢
 have hl1 : d.cells.length = 6 := TokD.cells_len hdk.len
 conv=>whnf
 intro b5
 conv=>whnf
 refine StoreG.at hl1 (Upd.whole (by rw [hl1]; rfl) (TokD.cells_one _)) ?_
 conv=>whnf
 refine CondG.ndec (fun h1 => ?_) (fun h1 => ?_)
 ·conv=>whnf
  refine ⟨_, Ent.sel (T := []) (A := [_, _]) [1] rfl, ?_⟩
  rw [resumeQ, if_pos h1]
  exact ⟨rfl, rfl⟩
 obtain rfl := hdx h1
 obtain ⟨m, rfl, hm⟩ := thereQ_nat find h1
 conv=>whnf
 refine LoadG.at (v := .bool (thereQ find R m).1.1.paused) (.here rfl) ?_
 conv=>whnf
 refine CondG.split (fun h2 => ?_) (fun h2 => ?_)
 ·have h2' : (thereQ find R m).1.1.paused = false := by simpa using h2
  conv=>whnf
  refine ⟨_, Ent.sel (T := []) (A := [_, _]) [1] rfl, ?_⟩
  rw [resumeQ, if_neg (fun h => h h1), if_pos h2']
  exact ⟨rfl, rfl⟩
 have h2' : ¬ (thereQ find R m).1.1.paused = false := fun e => by rw [e] at h2; exact absurd h2 (by decide)
 conv=>whnf
 refine LoadNG.at (vs := uvs (thereQ find R m).1.1.sup) (by rw [uvs_len, hdk.len]) (.here (sup_at _)) ?_
 conv=>whnf
 refine CallG.of (pre := [refR 83 s hv part nv (thereQ find R m).2]) (rest := [cel b5 61 (thereQ find R m).1.1.cells]) (layToken8_q _ s (thereQ find R m).2 m hm false _ hdk (hd.left _) (hl.there hd.1 m)) (Ent.perm (List.Perm.swap _ _ _)) ?_
 rintro _ _ ⟨rfl, rfl⟩
 conv=>whnf
 refine ⟨_, Ent.sel (T := []) (A := [_, _]) [0] rfl, ?_⟩
 rw [resumeQ, if_neg (fun h => h h1), if_neg h2']
 exact ⟨rfl, rfl⟩
end
end Go.Proofs.YtjacolfhlfogkabGreatDoor
namespace Go.Proofs.YtjacolfhlfogkabGreatDoor
open Go Go.Sl
section
variable {find : SrcF} {hv nv : Value} {part : Bool}
theorem mint8_q (F : List HP) (s : Nat) (R : RSt) (t : Int) (to a : List Nat) (hto : to.length = 20) (ha : wOk a) (hd : DocF F hv nv part find) (hl : Lim R 4) :
 SpecF Tryz.prog 68 [.pointer (some ⟨s, 0, none⟩), .int .i64 t, .agg ⟨bvs to⟩, .agg ⟨uvs a⟩] F [refR 83 s hv part nv R] (fun r L => r = .int .i64 (mintQ find R t to a).1 ∧ L = [refR 83 s hv part nv (mintQ find R t to a).2]) := by
 have hal : (uvs a).length = 4 := by rw [uvs_len, ha.len]
 refine fun68.spec rfl ?_
 conv=>whnf
 intro b6
 conv=>whnf
 intro b7
 conv=>whnf
 refine CallG.of (pre := [refR 83 s hv part nv R]) (rest := [cel b7 38 (uvs a), cel b6 35 (bvs to)]) (there8_q _ s R t true (hd.left _) (hl.mono (by decide))) (Ent.sel (T := []) (A := [_, _, _]) [2, 0, 1] rfl) ?_
 rintro _ _ ⟨d, hdk, rfl, hdx, rfl⟩
 rw [show thrQ find R t true = runQ find R t from rfl] at hdx ⊢
 have hl1 : d.cells.length = 6 := TokD.cells_len hdk.len
 conv=>whnf
 intro b9
 conv=>whnf
 refine StoreG.at hl1 (Upd.whole (by rw [hl1]; rfl) (TokD.cells_one _)) ?_
 conv=>whnf
 refine CondG.ndec (fun h1 => ?_) (fun h1 => ?_)
 ·conv=>whnf
  refine ⟨_, Ent.sel (T := []) (A := [_, _, _, _]) [1] rfl, ?_⟩
  unfold mintQ
  rw [if_pos h1]
  exact ⟨rfl, rfl⟩
 obtain rfl := hdx h1
 obtain ⟨m, rfl, hm⟩ := runQ_nat find h1
 have h1' : ¬ (runQ find R m).1.2 ≠ 0 := fun h => h h1
 have em : ((m : Nat) : Int).toNat = m := Int.toNat_natCast m
 have hsl : (uvs (runQ find R m).1.1.sup).length = 4 := by rw [uvs_len, hdk.len]
 have hlx : Lim (runQ find R m).2 3 := hl.run hd.1 m
 have hly : Lim (amtQ find (runQ find R m).2 (balKey m to)).2 2 := hlx.amt hd.1 _
 have hbk := amtQ_ok find (runQ find R m).2 (balKey m to)
 have hbl : (uvs (amtQ find (runQ find R m).2 (balKey m to)).1.1).length = 4 := by rw [uvs_len, hbk.len]
 have hA : (uvs (addR (runQ find R m).1.1.sup a).1).length = 4 := by rw [uvs_len, addR_ok]
 have hB : (uvs (addR (amtQ find (runQ find R m).2 (balKey m to)).1.1 a).1).length = 4 := by rw [uvs_len, addR_ok]
 conv=>whnf
 refine LoadNG.at (vs := uvs (runQ find R m).1.1.sup) hsl (.here (sup_at _)) ?_
 conv=>whnf
 refine LoadNG.at (vs := uvs a) hal (.tl (.tl (.all))) ?_
 conv=>whnf
 refine CallG.pure (add2_q _ _ a hdk ha) ?_
 rintro _ _ ⟨rfl, rfl⟩
 conv=>whnf
 intro bs
 conv=>whnf
 refine StoreG.at hA (Upd.whole (by rw [hA]; rfl) (uvs_one _)) ?_
 conv=>whnf
 by_cases h2 : m256 ≤ nat4 (runQ find R m).1.1.sup + nat4 a
 ·rw [addR_no h2]
  refine CondG.tt ?_
  conv=>whnf
  refine ⟨_, Ent.sel (T := []) (A := [_, _, _, _, _]) [2] rfl, ?_⟩
  unfold mintQ mintA lay2Q
  rw [if_neg h1', if_pos h2]
  exact ⟨rfl, rfl⟩
 rw [addR_yes h2]
 refine CondG.ff ?_
 conv=>whnf
 refine LoadNG.at (vs := bvs to) (by rw [bvs_len, hto]) (.tl (.tl (.tl (.tl (.all))))) ?_
 conv=>whnf
 refine CallG.pure (balanceKey8_spec _ m hm to hto) ?_
 rintro _ _ ⟨rfl, rfl⟩
 conv=>whnf
 refine CallG.of (pre := [refR 83 s hv part nv (runQ find R m).2]) (rest := [cel bs 38 (uvs (addL (runQ find R m).1.1.sup a)), cel b9 61 (runQ find R m).1.1.cells, cel b7 38 (uvs a), cel b6 35 (bvs to)]) (asked8_q _ s (runQ find R m).2 (balKey m to) (hd.left _) (hlx.mono (by decide))) (Ent.sel (T := []) (A := [_, _, _, _, _]) [2, 0, 1, 3, 4] rfl) ?_
 rintro _ _ ⟨rfl, rfl⟩
 conv=>whnf
 intro bh
 conv=>whnf
 refine StoreG.at hbl (Upd.whole (by rw [hbl]; rfl) (uvs_one _)) ?_
 conv=>whnf
 refine CondG.ndec (fun h3 => ?_) (fun h3 => ?_)
 ·conv=>whnf
  refine ⟨_, Ent.sel (T := []) (A := [_, _, _, _, _, _]) [1] rfl, ?_⟩
  unfold mintQ mintA lay2Q
  rw [if_neg h1', if_neg h2, em, if_pos h3]
  exact ⟨rfl, rfl⟩
 have h3' : ¬ (amtQ find (runQ find R m).2 (balKey m to)).1.2 ≠ 0 := fun h => h h3
 conv=>whnf
 refine LoadNG.at (vs := uvs (amtQ find (runQ find R m).2 (balKey m to)).1.1) hbl .all ?_
 conv=>whnf
 refine LoadNG.at (vs := uvs a) hal (.tl (.tl (.tl (.tl (.all))))) ?_
 conv=>whnf
 refine CallG.pure (add2_q _ _ a hbk ha) ?_
 rintro _ _ ⟨rfl, rfl⟩
 conv=>whnf
 intro bm
 conv=>whnf
 refine StoreG.at hB (Upd.whole (by rw [hB]; rfl) (uvs_one _)) ?_
 conv=>whnf
 by_cases h4 : m256 ≤ nat4 (amtQ find (runQ find R m).2 (balKey m to)).1.1 + nat4 a
 ·rw [addR_no h4]
  refine CondG.tt ?_
  conv=>whnf
  refine ⟨_, Ent.sel (T := []) (A := [_, _, _, _, _, _, _]) [2] rfl, ?_⟩
  unfold mintQ mintA lay2Q
  rw [if_neg h1', if_neg h2, em, if_neg h3', if_pos h4]
  exact ⟨rfl, rfl⟩
 rw [addR_yes h4]
 refine CondG.ff ?_
 conv=>whnf
 refine LoadNG.at (vs := uvs a) hal (.tl (.tl (.tl (.tl (.tl (.all)))))) ?_
 conv=>whnf
 refine CallG.pure (zero2_spec _ a ha.len) ?_
 rintro _ _ ⟨rfl, rfl⟩
 conv=>whnf
 refine CondG.dec (fun h5 => ?_) (fun h5 => ?_)
 ·conv=>whnf
  refine ⟨_, Ent.sel (T := []) (A := [_, _, _, _, _, _, _]) [2] rfl, ?_⟩
  unfold mintQ mintA lay2Q
  rw [if_neg h1', if_neg h2, em, if_neg h3', if_neg h4, if_pos h5]
  exact ⟨rfl, rfl⟩
 have hz : layTokQ find (amtQ find (runQ find R m).2 (balKey m to)).2 m ⟨true, false, addL (runQ find R m).1.1.sup a⟩ = layTokQ find (amtQ find (runQ find R m).2 (balKey m to)).2 m ({ (runQ find R m).1.1 with sup := addL (runQ find R m).1.1.sup a } : TokD) := by
  unfold layTokQ tokB
  rw [show ({ (runQ find R m).1.1 with sup := addL (runQ find R m).1.1.sup a } : TokD).paused = false from runQ_run h1]
 have hlz : Lim (layTokQ find (amtQ find (runQ find R m).2 (balKey m to)).2 m ({ (runQ find R m).1.1 with sup := addL (runQ find R m).1.1.sup a } : TokD)).2 1 := hly.layTok hd.1 m _
 conv=>whnf
 refine LoadNG.at (vs := uvs (addL (runQ find R m).1.1.sup a)) rfl (.tl (.tl (.tl (.all)))) ?_
 conv=>whnf
 refine CallG.of (pre := [refR 83 s hv part nv (amtQ find (runQ find R m).2 (balKey m to)).2]) (rest := [cel bm 38 (uvs (addL (amtQ find (runQ find R m).2 (balKey m to)).1.1 a)), cel bh 38 (uvs (amtQ find (runQ find R m).2 (balKey m to)).1.1), cel bs 38 (uvs (addL (runQ find R m).1.1.sup a)), cel b9 61 (runQ find R m).1.1.cells, cel b7 38 (uvs a), cel b6 35 (bvs to)]) (layToken8_q _ s (amtQ find (runQ find R m).2 (balKey m to)).2 m hm false (addL (runQ find R m).1.1.sup a) (addL_ok _ _) (hd.left _) (hly.mono (by decide))) (Ent.sel (T := []) (A := [_, _, _, _, _, _, _]) [2, 0, 1, 3, 4, 5, 6] rfl) ?_
 rw [hz]
 rintro _ _ ⟨rfl, rfl⟩
 conv=>whnf
 refine CondG.ndec (fun h6 => ?_) (fun h6 => ?_)
 ·conv=>whnf
  refine ⟨_, Ent.sel (T := []) (A := [_, _, _, _, _, _, _]) [0] rfl, ?_⟩
  unfold mintQ mintA lay2Q
  rw [if_neg h1', if_neg h2, em, if_neg h3', if_neg h4, if_neg h5, if_pos h6]
  exact ⟨rfl, rfl⟩
 conv=>whnf
 refine DrawG.mk 7 [cel bm 38 (uvs (addL (amtQ find (runQ find R m).2 (balKey m to)).1.1 a)), cel bh 38 (uvs (amtQ find (runQ find R m).2 (balKey m to)).1.1), cel bs 38 (uvs (addL (runQ find R m).1.1.sup a)), cel b9 61 (runQ find R m).1.1.cells, cel b7 38 (uvs a), cel b6 35 (bvs to)] [refR 83 s hv part nv (layTokQ find (amtQ find (runQ find R m).2 (balKey m to)).2 m ({ (runQ find R m).1.1 with sup := addL (runQ find R m).1.1.sup a } : TokD)).2] (Ent.refl _) ?_
 conv=>whnf
 refine .take 0 ?_
 conv=>whnf
 refine ⟨rfl, ?_⟩
 conv=>whnf
 refine .take 1 ?_
 conv=>whnf
 refine ⟨rfl, ?_⟩
 conv=>whnf
 refine .take 2 ?_
 conv=>whnf
 refine ⟨rfl, ?_⟩
 conv=>whnf
 refine LoadNG.at (vs := bvs to) (by rw [bvs_len, hto]) (.tl (.tl (.tl (.tl (.tl (.all)))))) ?_
 conv=>whnf
 refine .take 4 ?_
 conv=>whnf
 refine ⟨rfl, ?_⟩
 conv=>whnf
 refine LoadNG.at (vs := uvs (addL (amtQ find (runQ find R m).2 (balKey m to)).1.1 a)) rfl (.all) ?_
 conv=>whnf
 refine .all ?_
 conv=>whnf
 refine ⟨by decide, ?_⟩
 conv=>whnf
 refine CallG.pure (balanceKey8_spec _ m hm to hto) ?_
 rintro _ _ ⟨rfl, rfl⟩
 conv=>whnf
 refine .all ?_
 conv=>whnf
 refine ⟨by decide, ?_⟩
 conv=>whnf
 refine CallG.of (pre := [refR 83 s hv part nv (layTokQ find (amtQ find (runQ find R m).2 (balKey m to)).2 m ({ (runQ find R m).1.1 with sup := addL (runQ find R m).1.1.sup a } : TokD)).2]) (rest := []) (lay8_q _ s (layTokQ find (amtQ find (runQ find R m).2 (balKey m to)).2 m ({ (runQ find R m).1.1 with sup := addL (runQ find R m).1.1.sup a } : TokD)).2 (balKey m to) (addL (amtQ find (runQ find R m).2 (balKey m to)).1.1 a) (addL_ok _ _) ((hd.left _).left _) hlz) (Ent.refl _) ?_
 rintro _ _ ⟨rfl, rfl⟩
 conv=>whnf
 refine .take 6 ?_
 conv=>whnf
 refine ⟨rfl, ?_⟩
 conv=>whnf
 refine ⟨rfl, ?_⟩
 conv=>whnf
 refine ⟨_, Ent.sel (T := []) (A := [_, _, _, _, _, _, _]) [0] rfl, ?_⟩
 unfold mintQ mintA lay2Q
 rw [if_neg h1', if_neg h2, em, if_neg h3', if_neg h4, if_neg h5, if_neg (show ¬ _ ≠ (0 : Int) from fun h => h h6)]
 exact ⟨rfl, rfl⟩
end
end Go.Proofs.YtjacolfhlfogkabGreatDoor
