import Derived.Test.YtjacolfhlfogkabGreatDoorMy
import Derived.Test.YtjacolfhlfogkabGreatDoorMz
import Derived.Test.YtjacolfhlfogkabGreatDoorWa
import Derived.Test.YtjacolfhlfogkabGreatDoorZLd
import Derived.Test.YtjacolfhlfogkabGreatDoorR7
import Derived.Test.YtjacolfhlfogkabGreatDoorRm
import Derived.Test.YtjacolfhlfogkabGreatDoorTa
import Derived.Test.YtjacolfhlfogkabGreatDoorZCh
import Derived.Test.YtjacolfhlfogkabGreatDoorZWh
namespace Go.Proofs.YtjacolfhlfogkabGreatDoor
open Go Go.Sl
section
variable {find : SrcF} {hv nv : Value} {part : Bool}
theorem stepped_q (F : List HP) (s : Nat) (src : Value) (R : RSt) (x : StepD) (hx : x.wf) (hs : SrcG Tryz.prog F src find) (hn : R.steps.length + 2 ≤ 4398046511104) (hh : R.marks.length ≤ 4398046511104) :
 SpecF Tryz.prog 24 [.pointer (some ⟨s, 0, none⟩), .agg ⟨x.cells⟩] F [stR 75 s src R] (fun r L => r = .agg ⟨(stepQ find R x).1.cells⟩ ∧ L = [stR 75 s src (stepQ find R x).2]) := by
 have h20a : (bvs x.a).length = 20 := by rw [bvs_len, hx.a.1]
 have h20b : (bvs x.b).length = 20 := by rw [bvs_len, hx.b.1]
 have h20c : (bvs x.c).length = 20 := by rw [bvs_len, hx.c.1]
 have h4w : (uvs x.amt).length = 4 := by rw [uvs_len, hx.amt.len]
 refine fun24.spec rfl ?_
 conv=>whnf
 intro b3
 conv=>whnf
 intro b4
 conv=>whnf
 refine LoadG.at (v := .int .i64 x.what) (.tl (.here rfl)) ?_
 conv=>whnf
 refine CallG.pure (lpick_spec _ x.what 13 hx.w1 hx.w2 (by decide)) ?_
 rintro _ _ ⟨rfl, rfl⟩
 conv=>whnf
 refine CondG.dec (fun e0 => ?_) (fun e0 => ?_)
 ·have es : stepQ find R x = (told1 (registerQ find R x.tok).1, (registerQ find R x.tok).2) := by
   unfold stepQ
   rw [show pickN x.what 13 = 0 by omega]
   rfl
  conv=>whnf
  refine LoadG.at (v := .int .i64 x.tok) (.tl (.here rfl)) ?_
  conv=>whnf
  refine CallG.of (pre := [stR 75 s src R]) (register_q _ s src R x.tok (hs.left _) (by omega)) (Ent.front 2 rfl) ?_
  rintro _ _ ⟨rfl, rfl⟩
  conv=>whnf
  refine BuildG.of (cs := (told1 (registerQ find R x.tok).1).cells) rfl ?_
  conv=>whnf
  refine StoreG.at (by rw [ToldD.cells_len (show _ = 4 from rfl) (show _ = 4 from rfl)]) (Upd.tl (Upd.whole (by rw [ToldD.cells_len (show _ = 4 from rfl) (show _ = 4 from rfl)]; rfl) (ToldD.cells_one _))) ?_
  conv=>whnf
  refine LoadNG.at (vs := ((told1 (registerQ find R x.tok).1) : ToldD).cells) (by rw [ToldD.cells_len (show _ = 4 from rfl) (show _ = 4 from rfl)]) (.tl .all) ?_
  conv=>whnf
  rw [es]
  exact ⟨_, Ent.sel (T := []) (A := [_, _, _]) [0] rfl, rfl, rfl⟩
 conv=>whnf
 refine CondG.dec (fun e1 => ?_) (fun e1 => ?_)
 ·have es : stepQ find R x = (told1 (pauseQ find R x.tok).1, (pauseQ find R x.tok).2) := by
   unfold stepQ
   rw [show pickN x.what 13 = 1 by omega]
   rfl
  conv=>whnf
  refine LoadG.at (v := .int .i64 x.tok) (.tl (.here rfl)) ?_
  conv=>whnf
  refine CallG.of (pre := [stR 75 s src R]) (pause_q _ s src R x.tok (hs.left _) (by omega)) (Ent.front 2 rfl) ?_
  rintro _ _ ⟨rfl, rfl⟩
  conv=>whnf
  refine BuildG.of (cs := (told1 (pauseQ find R x.tok).1).cells) rfl ?_
  conv=>whnf
  refine StoreG.at (by rw [ToldD.cells_len (show _ = 4 from rfl) (show _ = 4 from rfl)]) (Upd.tl (Upd.whole (by rw [ToldD.cells_len (show _ = 4 from rfl) (show _ = 4 from rfl)]; rfl) (ToldD.cells_one _))) ?_
  conv=>whnf
  refine LoadNG.at (vs := ((told1 (pauseQ find R x.tok).1) : ToldD).cells) (by rw [ToldD.cells_len (show _ = 4 from rfl) (show _ = 4 from rfl)]) (.tl .all) ?_
  conv=>whnf
  rw [es]
  exact ⟨_, Ent.sel (T := []) (A := [_, _, _]) [0] rfl, rfl, rfl⟩
 conv=>whnf
 refine CondG.dec (fun e2 => ?_) (fun e2 => ?_)
 ·have es : stepQ find R x = (told1 (resumeQ find R x.tok).1, (resumeQ find R x.tok).2) := by
   unfold stepQ
   rw [show pickN x.what 13 = 2 by omega]
   rfl
  conv=>whnf
  refine LoadG.at (v := .int .i64 x.tok) (.tl (.here rfl)) ?_
  conv=>whnf
  refine CallG.of (pre := [stR 75 s src R]) (resume_q _ s src R x.tok (hs.left _) (by omega)) (Ent.front 2 rfl) ?_
  rintro _ _ ⟨rfl, rfl⟩
  conv=>whnf
  refine BuildG.of (cs := (told1 (resumeQ find R x.tok).1).cells) rfl ?_
  conv=>whnf
  refine StoreG.at (by rw [ToldD.cells_len (show _ = 4 from rfl) (show _ = 4 from rfl)]) (Upd.tl (Upd.whole (by rw [ToldD.cells_len (show _ = 4 from rfl) (show _ = 4 from rfl)]; rfl) (ToldD.cells_one _))) ?_
  conv=>whnf
  refine LoadNG.at (vs := ((told1 (resumeQ find R x.tok).1) : ToldD).cells) (by rw [ToldD.cells_len (show _ = 4 from rfl) (show _ = 4 from rfl)]) (.tl .all) ?_
  conv=>whnf
  rw [es]
  exact ⟨_, Ent.sel (T := []) (A := [_, _, _]) [0] rfl, rfl, rfl⟩
 conv=>whnf
 refine CondG.dec (fun e3 => ?_) (fun e3 => ?_)
 ·have es : stepQ find R x = (told1 (mintQ find R x.tok x.a x.amt).1, (mintQ find R x.tok x.a x.amt).2) := by
   unfold stepQ
   rw [show pickN x.what 13 = 3 by omega]
   rfl
  conv=>whnf
  refine LoadG.at (v := .int .i64 x.tok) (.tl (.here rfl)) ?_
  conv=>whnf
  refine LoadNG.at (vs := bvs x.a) h20a (.tl (.here (StepD.a_at x))) ?_
  conv=>whnf
  refine LoadNG.at (vs := uvs x.amt) h4w (.tl (.here (StepD.amt_at hx))) ?_
  conv=>whnf
  refine CallG.of (pre := [stR 75 s src R]) (mint_q _ s src R x.tok x.a x.amt hx.a.1 hx.amt (hs.left _) (by omega)) (Ent.front 2 rfl) ?_
  rintro _ _ ⟨rfl, rfl⟩
  conv=>whnf
  refine BuildG.of (cs := (told1 (mintQ find R x.tok x.a x.amt).1).cells) rfl ?_
  conv=>whnf
  refine StoreG.at (by rw [ToldD.cells_len (show _ = 4 from rfl) (show _ = 4 from rfl)]) (Upd.tl (Upd.whole (by rw [ToldD.cells_len (show _ = 4 from rfl) (show _ = 4 from rfl)]; rfl) (ToldD.cells_one _))) ?_
  conv=>whnf
  refine LoadNG.at (vs := ((told1 (mintQ find R x.tok x.a x.amt).1) : ToldD).cells) (by rw [ToldD.cells_len (show _ = 4 from rfl) (show _ = 4 from rfl)]) (.tl .all) ?_
  conv=>whnf
  rw [es]
  exact ⟨_, Ent.sel (T := []) (A := [_, _, _]) [0] rfl, rfl, rfl⟩
 conv=>whnf
 refine CondG.dec (fun e4 => ?_) (fun e4 => ?_)
 ·have es : stepQ find R x = (told1 (burnQ find R x.tok x.a x.amt).1, (burnQ find R x.tok x.a x.amt).2) := by
   unfold stepQ
   rw [show pickN x.what 13 = 4 by omega]
   rfl
  conv=>whnf
  refine LoadG.at (v := .int .i64 x.tok) (.tl (.here rfl)) ?_
  conv=>whnf
  refine LoadNG.at (vs := bvs x.a) h20a (.tl (.here (StepD.a_at x))) ?_
  conv=>whnf
  refine LoadNG.at (vs := uvs x.amt) h4w (.tl (.here (StepD.amt_at hx))) ?_
  conv=>whnf
  refine CallG.of (pre := [stR 75 s src R]) (burn_q _ s src R x.tok x.a x.amt hx.a.1 hx.amt (hs.left _) (by omega)) (Ent.front 2 rfl) ?_
  rintro _ _ ⟨rfl, rfl⟩
  conv=>whnf
  refine BuildG.of (cs := (told1 (burnQ find R x.tok x.a x.amt).1).cells) rfl ?_
  conv=>whnf
  refine StoreG.at (by rw [ToldD.cells_len (show _ = 4 from rfl) (show _ = 4 from rfl)]) (Upd.tl (Upd.whole (by rw [ToldD.cells_len (show _ = 4 from rfl) (show _ = 4 from rfl)]; rfl) (ToldD.cells_one _))) ?_
  conv=>whnf
  refine LoadNG.at (vs := ((told1 (burnQ find R x.tok x.a x.amt).1) : ToldD).cells) (by rw [ToldD.cells_len (show _ = 4 from rfl) (show _ = 4 from rfl)]) (.tl .all) ?_
  conv=>whnf
  rw [es]
  exact ⟨_, Ent.sel (T := []) (A := [_, _, _]) [0] rfl, rfl, rfl⟩
 conv=>whnf
 refine CondG.dec (fun e5 => ?_) (fun e5 => ?_)
 ·have es : stepQ find R x = (told1 (moveQ find R x.tok x.a x.b x.amt).1, (moveQ find R x.tok x.a x.b x.amt).2) := by
   unfold stepQ
   rw [show pickN x.what 13 = 5 by omega]
   rfl
  conv=>whnf
  refine LoadG.at (v := .int .i64 x.tok) (.tl (.here rfl)) ?_
  conv=>whnf
  refine LoadNG.at (vs := bvs x.a) h20a (.tl (.here (StepD.a_at x))) ?_
  conv=>whnf
  refine LoadNG.at (vs := bvs x.b) h20b (.tl (.here (StepD.b_at hx))) ?_
  conv=>whnf
  refine LoadNG.at (vs := uvs x.amt) h4w (.tl (.here (StepD.amt_at hx))) ?_
  conv=>whnf
  refine CallG.of (pre := [stR 75 s src R]) (move_q _ s src R x.tok x.a x.b x.amt hx.a.1 hx.b.1 hx.amt (hs.left _) (by omega)) (Ent.front 2 rfl) ?_
  rintro _ _ ⟨rfl, rfl⟩
  conv=>whnf
  refine BuildG.of (cs := (told1 (moveQ find R x.tok x.a x.b x.amt).1).cells) rfl ?_
  conv=>whnf
  refine StoreG.at (by rw [ToldD.cells_len (show _ = 4 from rfl) (show _ = 4 from rfl)]) (Upd.tl (Upd.whole (by rw [ToldD.cells_len (show _ = 4 from rfl) (show _ = 4 from rfl)]; rfl) (ToldD.cells_one _))) ?_
  conv=>whnf
  refine LoadNG.at (vs := ((told1 (moveQ find R x.tok x.a x.b x.amt).1) : ToldD).cells) (by rw [ToldD.cells_len (show _ = 4 from rfl) (show _ = 4 from rfl)]) (.tl .all) ?_
  conv=>whnf
  rw [es]
  exact ⟨_, Ent.sel (T := []) (A := [_, _, _]) [0] rfl, rfl, rfl⟩
 conv=>whnf
 refine CondG.dec (fun e6 => ?_) (fun e6 => ?_)
 ·have es : stepQ find R x = (told1 (allowQ find R x.tok x.a x.b x.amt).1, (allowQ find R x.tok x.a x.b x.amt).2) := by
   unfold stepQ
   rw [show pickN x.what 13 = 6 by omega]
   rfl
  conv=>whnf
  refine LoadG.at (v := .int .i64 x.tok) (.tl (.here rfl)) ?_
  conv=>whnf
  refine LoadNG.at (vs := bvs x.a) h20a (.tl (.here (StepD.a_at x))) ?_
  conv=>whnf
  refine LoadNG.at (vs := bvs x.b) h20b (.tl (.here (StepD.b_at hx))) ?_
  conv=>whnf
  refine LoadNG.at (vs := uvs x.amt) h4w (.tl (.here (StepD.amt_at hx))) ?_
  conv=>whnf
  refine CallG.of (pre := [stR 75 s src R]) (allow_q _ s src R x.tok x.a x.b x.amt hx.a.1 hx.b.1 hx.amt (hs.left _) (by omega)) (Ent.front 2 rfl) ?_
  rintro _ _ ⟨rfl, rfl⟩
  conv=>whnf
  refine BuildG.of (cs := (told1 (allowQ find R x.tok x.a x.b x.amt).1).cells) rfl ?_
  conv=>whnf
  refine StoreG.at (by rw [ToldD.cells_len (show _ = 4 from rfl) (show _ = 4 from rfl)]) (Upd.tl (Upd.whole (by rw [ToldD.cells_len (show _ = 4 from rfl) (show _ = 4 from rfl)]; rfl) (ToldD.cells_one _))) ?_
  conv=>whnf
  refine LoadNG.at (vs := ((told1 (allowQ find R x.tok x.a x.b x.amt).1) : ToldD).cells) (by rw [ToldD.cells_len (show _ = 4 from rfl) (show _ = 4 from rfl)]) (.tl .all) ?_
  conv=>whnf
  rw [es]
  exact ⟨_, Ent.sel (T := []) (A := [_, _, _]) [0] rfl, rfl, rfl⟩
 conv=>whnf
 refine CondG.dec (fun e7 => ?_) (fun e7 => ?_)
 ·have es : stepQ find R x = (told1 (pullQ find R x.tok x.a x.b x.c x.amt).1, (pullQ find R x.tok x.a x.b x.c x.amt).2) := by
   unfold stepQ
   rw [show pickN x.what 13 = 7 by omega]
   rfl
  conv=>whnf
  refine LoadG.at (v := .int .i64 x.tok) (.tl (.here rfl)) ?_
  conv=>whnf
  refine LoadNG.at (vs := bvs x.a) h20a (.tl (.here (StepD.a_at x))) ?_
  conv=>whnf
  refine LoadNG.at (vs := bvs x.b) h20b (.tl (.here (StepD.b_at hx))) ?_
  conv=>whnf
  refine LoadNG.at (vs := bvs x.c) h20c (.tl (.here (StepD.c_at hx))) ?_
  conv=>whnf
  refine LoadNG.at (vs := uvs x.amt) h4w (.tl (.here (StepD.amt_at hx))) ?_
  conv=>whnf
  refine CallG.of (pre := [stR 75 s src R]) (pull_q _ s src R x.tok x.a x.b x.c x.amt hx.a.1 hx.b.1 hx.c.1 hx.amt (hs.left _) (by omega)) (Ent.front 2 rfl) ?_
  rintro _ _ ⟨rfl, rfl⟩
  conv=>whnf
  refine BuildG.of (cs := (told1 (pullQ find R x.tok x.a x.b x.c x.amt).1).cells) rfl ?_
  conv=>whnf
  refine StoreG.at (by rw [ToldD.cells_len (show _ = 4 from rfl) (show _ = 4 from rfl)]) (Upd.tl (Upd.whole (by rw [ToldD.cells_len (show _ = 4 from rfl) (show _ = 4 from rfl)]; rfl) (ToldD.cells_one _))) ?_
  conv=>whnf
  refine LoadNG.at (vs := ((told1 (pullQ find R x.tok x.a x.b x.c x.amt).1) : ToldD).cells) (by rw [ToldD.cells_len (show _ = 4 from rfl) (show _ = 4 from rfl)]) (.tl .all) ?_
  conv=>whnf
  rw [es]
  exact ⟨_, Ent.sel (T := []) (A := [_, _, _]) [0] rfl, rfl, rfl⟩
 conv=>whnf
 refine CondG.dec (fun e8 => ?_) (fun e8 => ?_)
 ·have es : stepQ find R x = (⟨(tokenQ find R x.tok).1.2, (tokenQ find R x.tok).1.1, z4, 0⟩, (tokenQ find R x.tok).2) := by
   unfold stepQ
   rw [show pickN x.what 13 = 8 by omega]
   rfl
  have h4 := (tokenQ_ok find R x.tok).len
  conv=>whnf
  refine LoadG.at (v := .int .i64 x.tok) (.tl (.here rfl)) ?_
  conv=>whnf
  refine CallG.of (pre := [stR 75 s src R]) (token_q _ s src R x.tok (hs.left _)) (Ent.front 2 rfl) ?_
  rintro _ _ ⟨rfl, rfl⟩
  conv=>whnf
  intro b5
  conv=>whnf
  refine StoreG.at (by rw [TokD.cells_len h4]) (Upd.whole (by rw [TokD.cells_len h4]; rfl) (TokD.cells_one _)) ?_
  conv=>whnf
  refine LoadNG.at (vs := (tokenQ find R x.tok).1.1.cells) (by rw [TokD.cells_len h4]) .all ?_
  conv=>whnf
  refine BuildG.of (cs := (⟨(tokenQ find R x.tok).1.2, (tokenQ find R x.tok).1.1, z4, 0⟩ : ToldD).cells) (told_tok h4) ?_
  conv=>whnf
  refine StoreG.at (by rw [ToldD.cells_len h4 (show _ = 4 from rfl)]) (Upd.tl (Upd.tl (Upd.whole (by rw [ToldD.cells_len h4 (show _ = 4 from rfl)]; rfl) (ToldD.cells_one _)))) ?_
  conv=>whnf
  refine LoadNG.at (vs := (⟨(tokenQ find R x.tok).1.2, (tokenQ find R x.tok).1.1, z4, 0⟩ : ToldD).cells) (by rw [ToldD.cells_len h4 (show _ = 4 from rfl)]) (.tl (.tl .all)) ?_
  conv=>whnf
  rw [es]
  exact ⟨_, Ent.sel (T := []) (A := [_, _, _, _]) [1] rfl, rfl, rfl⟩
 conv=>whnf
 refine CondG.dec (fun e9 => ?_) (fun e9 => ?_)
 ·have es : stepQ find R x = (⟨(balQ find R x.tok x.a).1.2, zTok, (balQ find R x.tok x.a).1.1, 0⟩, (balQ find R x.tok x.a).2) := by
   unfold stepQ
   rw [show pickN x.what 13 = 9 by omega]
   rfl
  have h4 := (balQ_len find R x.tok x.a)
  conv=>whnf
  refine LoadG.at (v := .int .i64 x.tok) (.tl (.here rfl)) ?_
  conv=>whnf
  refine LoadNG.at (vs := bvs x.a) h20a (.tl (.here (StepD.a_at x))) ?_
  conv=>whnf
  refine CallG.of (pre := [stR 75 s src R]) (balance_q _ s src R x.tok x.a hx.a.1 (hs.left _)) (Ent.front 2 rfl) ?_
  rintro _ _ ⟨rfl, rfl⟩
  conv=>whnf
  intro b5
  conv=>whnf
  refine StoreG.at (by rw [uvs_len, h4]) (Upd.whole (by rw [uvs_len, h4]; rfl) (uvs_one _)) ?_
  conv=>whnf
  refine LoadNG.at (vs := uvs (balQ find R x.tok x.a).1.1) (by rw [uvs_len, h4]) .all ?_
  conv=>whnf
  refine BuildG.of (cs := (⟨(balQ find R x.tok x.a).1.2, zTok, (balQ find R x.tok x.a).1.1, 0⟩ : ToldD).cells) (told_amt h4) ?_
  conv=>whnf
  refine StoreG.at (by rw [ToldD.cells_len (show _ = 4 from rfl) h4]) (Upd.tl (Upd.tl (Upd.whole (by rw [ToldD.cells_len (show _ = 4 from rfl) h4]; rfl) (ToldD.cells_one _)))) ?_
  conv=>whnf
  refine LoadNG.at (vs := (⟨(balQ find R x.tok x.a).1.2, zTok, (balQ find R x.tok x.a).1.1, 0⟩ : ToldD).cells) (by rw [ToldD.cells_len (show _ = 4 from rfl) h4]) (.tl (.tl .all)) ?_
  conv=>whnf
  rw [es]
  exact ⟨_, Ent.sel (T := []) (A := [_, _, _, _]) [1] rfl, rfl, rfl⟩
 conv=>whnf
 refine CondG.dec (fun e10 => ?_) (fun e10 => ?_)
 ·have es : stepQ find R x = (⟨(allowedQ find R x.tok x.a x.b).1.2, zTok, (allowedQ find R x.tok x.a x.b).1.1, 0⟩, (allowedQ find R x.tok x.a x.b).2) := by
   unfold stepQ
   rw [show pickN x.what 13 = 10 by omega]
   rfl
  have h4 := (allowedQ_len find R x.tok x.a x.b)
  conv=>whnf
  refine LoadG.at (v := .int .i64 x.tok) (.tl (.here rfl)) ?_
  conv=>whnf
  refine LoadNG.at (vs := bvs x.a) h20a (.tl (.here (StepD.a_at x))) ?_
  conv=>whnf
  refine LoadNG.at (vs := bvs x.b) h20b (.tl (.here (StepD.b_at hx))) ?_
  conv=>whnf
  refine CallG.of (pre := [stR 75 s src R]) (allowed_q _ s src R x.tok x.a x.b hx.a.1 hx.b.1 (hs.left _)) (Ent.front 2 rfl) ?_
  rintro _ _ ⟨rfl, rfl⟩
  conv=>whnf
  intro b5
  conv=>whnf
  refine StoreG.at (by rw [uvs_len, h4]) (Upd.whole (by rw [uvs_len, h4]; rfl) (uvs_one _)) ?_
  conv=>whnf
  refine LoadNG.at (vs := uvs (allowedQ find R x.tok x.a x.b).1.1) (by rw [uvs_len, h4]) .all ?_
  conv=>whnf
  refine BuildG.of (cs := (⟨(allowedQ find R x.tok x.a x.b).1.2, zTok, (allowedQ find R x.tok x.a x.b).1.1, 0⟩ : ToldD).cells) (told_amt h4) ?_
  conv=>whnf
  refine StoreG.at (by rw [ToldD.cells_len (show _ = 4 from rfl) h4]) (Upd.tl (Upd.tl (Upd.whole (by rw [ToldD.cells_len (show _ = 4 from rfl) h4]; rfl) (ToldD.cells_one _)))) ?_
  conv=>whnf
  refine LoadNG.at (vs := (⟨(allowedQ find R x.tok x.a x.b).1.2, zTok, (allowedQ find R x.tok x.a x.b).1.1, 0⟩ : ToldD).cells) (by rw [ToldD.cells_len (show _ = 4 from rfl) h4]) (.tl (.tl .all)) ?_
  conv=>whnf
  rw [es]
  exact ⟨_, Ent.sel (T := []) (A := [_, _, _, _]) [1] rfl, rfl, rfl⟩
 conv=>whnf
 refine CondG.dec (fun e11 => ?_) (fun e11 => ?_)
 ·have es : stepQ find R x = (⟨0, zTok, z4, (markQ R).1⟩, (markQ R).2) := by
   unfold stepQ
   rw [show pickN x.what 13 = 11 by omega]
   rfl
  conv=>whnf
  refine CallG.of (pre := [stR 75 s src R]) (mark_h _ s src (by omega) hh) (Ent.front 2 rfl) ?_
  rintro _ _ ⟨rfl, rfl⟩
  conv=>whnf
  refine BuildG.of (cs := (⟨0, zTok, z4, (markQ R).1⟩ : ToldD).cells) rfl ?_
  conv=>whnf
  refine StoreG.at (by rw [ToldD.cells_len (show _ = 4 from rfl) (show _ = 4 from rfl)]) (Upd.tl (Upd.whole (by rw [ToldD.cells_len (show _ = 4 from rfl) (show _ = 4 from rfl)]; rfl) (ToldD.cells_one _))) ?_
  conv=>whnf
  refine LoadNG.at (vs := (⟨0, zTok, z4, (markQ R).1⟩ : ToldD).cells) (by rw [ToldD.cells_len (show _ = 4 from rfl) (show _ = 4 from rfl)]) (.tl .all) ?_
  conv=>whnf
  rw [es]
  exact ⟨_, Ent.sel (T := []) (A := [_, _, _]) [0] rfl, rfl, rfl⟩
 have hk12 : pickN x.what 13 = 12 := by
  have := pickN_lt x.what (n := 13) (by decide)
  omega
 have es : stepQ find R x = (told1 (backQ R x.tok).1, (backQ R x.tok).2) := by
  unfold stepQ
  rw [hk12]
  rfl
 conv=>whnf
 refine LoadG.at (v := .int .i64 x.tok) (.tl (.here rfl)) ?_
 conv=>whnf
 refine CallG.of (pre := [stR 75 s src R]) (back_h _ s src (by omega) hh x.tok hx.t1 hx.t2) (Ent.front 2 rfl) ?_
 rintro _ _ ⟨rfl, rfl⟩
 conv=>whnf
 refine BuildG.of (cs := (told1 (backQ R x.tok).1).cells) rfl ?_
 conv=>whnf
 refine StoreG.at (by rw [ToldD.cells_len (show _ = 4 from rfl) (show _ = 4 from rfl)]) (Upd.tl (Upd.whole (by rw [ToldD.cells_len (show _ = 4 from rfl) (show _ = 4 from rfl)]; rfl) (ToldD.cells_one _))) ?_
 conv=>whnf
 refine LoadNG.at (vs := ((told1 (backQ R x.tok).1) : ToldD).cells) (by rw [ToldD.cells_len (show _ = 4 from rfl) (show _ = 4 from rfl)]) (.tl .all) ?_
 conv=>whnf
 rw [es]
 exact ⟨_, Ent.sel (T := []) (A := [_, _, _]) [0] rfl, rfl, rfl⟩
theorem wanted_q (F : List HP) (s : Nat) (R : RSt) (x : StepD) (hx : x.wf) (hd : DocF F hv nv part find) (hl : Lim R 7) (hh : R.marks.length ≤ 4398046511104) :
 SpecF Tryz.prog 25 [.pointer (some ⟨s, 0, none⟩), .agg ⟨x.cells⟩] F [refR 83 s hv part nv R] (fun r L => r = .agg ⟨(stepQ find R x).1.cells⟩ ∧ L = [refR 83 s hv part nv (stepQ find R x).2]) := by
 have h20a : (bvs x.a).length = 20 := by rw [bvs_len, hx.a.1]
 have h20b : (bvs x.b).length = 20 := by rw [bvs_len, hx.b.1]
 have h20c : (bvs x.c).length = 20 := by rw [bvs_len, hx.c.1]
 have h4w : (uvs x.amt).length = 4 := by rw [uvs_len, hx.amt.len]
 refine fun25.spec rfl ?_
 conv=>whnf
 intro b3
 conv=>whnf
 intro b4
 conv=>whnf
 refine LoadG.at (v := .int .i64 x.what) (.tl (.here rfl)) ?_
 conv=>whnf
 refine CallG.pure (lpick_spec _ x.what 13 hx.w1 hx.w2 (by decide)) ?_
 rintro _ _ ⟨rfl, rfl⟩
 conv=>whnf
 refine CondG.dec (fun e0 => ?_) (fun e0 => ?_)
 ·have es : stepQ find R x = (told1 (registerQ find R x.tok).1, (registerQ find R x.tok).2) := by
   unfold stepQ
   rw [show pickN x.what 13 = 0 by omega]
   rfl
  conv=>whnf
  refine LoadG.at (v := .int .i64 x.tok) (.tl (.here rfl)) ?_
  conv=>whnf
  refine CallG.of (pre := [refR 83 s hv part nv R]) (register8_q _ s R x.tok (hd.left _) (hl.mono (by decide))) (Ent.front 2 rfl) ?_
  rintro _ _ ⟨rfl, rfl⟩
  conv=>whnf
  refine BuildG.of (cs := (told1 (registerQ find R x.tok).1).cells) rfl ?_
  conv=>whnf
  refine StoreG.at (by rw [ToldD.cells_len (show _ = 4 from rfl) (show _ = 4 from rfl)]) (Upd.tl (Upd.whole (by rw [ToldD.cells_len (show _ = 4 from rfl) (show _ = 4 from rfl)]; rfl) (ToldD.cells_one _))) ?_
  conv=>whnf
  refine LoadNG.at (vs := ((told1 (registerQ find R x.tok).1) : ToldD).cells) (by rw [ToldD.cells_len (show _ = 4 from rfl) (show _ = 4 from rfl)]) (.tl .all) ?_
  conv=>whnf
  rw [es]
  exact ⟨_, Ent.sel (T := []) (A := [_, _, _]) [0] rfl, rfl, rfl⟩
 conv=>whnf
 refine CondG.dec (fun e1 => ?_) (fun e1 => ?_)
 ·have es : stepQ find R x = (told1 (pauseQ find R x.tok).1, (pauseQ find R x.tok).2) := by
   unfold stepQ
   rw [show pickN x.what 13 = 1 by omega]
   rfl
  conv=>whnf
  refine LoadG.at (v := .int .i64 x.tok) (.tl (.here rfl)) ?_
  conv=>whnf
  refine CallG.of (pre := [refR 83 s hv part nv R]) (pause8_q _ s R x.tok (hd.left _) (hl.mono (by decide))) (Ent.front 2 rfl) ?_
  rintro _ _ ⟨rfl, rfl⟩
  conv=>whnf
  refine BuildG.of (cs := (told1 (pauseQ find R x.tok).1).cells) rfl ?_
  conv=>whnf
  refine StoreG.at (by rw [ToldD.cells_len (show _ = 4 from rfl) (show _ = 4 from rfl)]) (Upd.tl (Upd.whole (by rw [ToldD.cells_len (show _ = 4 from rfl) (show _ = 4 from rfl)]; rfl) (ToldD.cells_one _))) ?_
  conv=>whnf
  refine LoadNG.at (vs := ((told1 (pauseQ find R x.tok).1) : ToldD).cells) (by rw [ToldD.cells_len (show _ = 4 from rfl) (show _ = 4 from rfl)]) (.tl .all) ?_
  conv=>whnf
  rw [es]
  exact ⟨_, Ent.sel (T := []) (A := [_, _, _]) [0] rfl, rfl, rfl⟩
 conv=>whnf
 refine CondG.dec (fun e2 => ?_) (fun e2 => ?_)
 ·have es : stepQ find R x = (told1 (resumeQ find R x.tok).1, (resumeQ find R x.tok).2) := by
   unfold stepQ
   rw [show pickN x.what 13 = 2 by omega]
   rfl
  conv=>whnf
  refine LoadG.at (v := .int .i64 x.tok) (.tl (.here rfl)) ?_
  conv=>whnf
  refine CallG.of (pre := [refR 83 s hv part nv R]) (resume8_q _ s R x.tok (hd.left _) (hl.mono (by decide))) (Ent.front 2 rfl) ?_
  rintro _ _ ⟨rfl, rfl⟩
  conv=>whnf
  refine BuildG.of (cs := (told1 (resumeQ find R x.tok).1).cells) rfl ?_
  conv=>whnf
  refine StoreG.at (by rw [ToldD.cells_len (show _ = 4 from rfl) (show _ = 4 from rfl)]) (Upd.tl (Upd.whole (by rw [ToldD.cells_len (show _ = 4 from rfl) (show _ = 4 from rfl)]; rfl) (ToldD.cells_one _))) ?_
  conv=>whnf
  refine LoadNG.at (vs := ((told1 (resumeQ find R x.tok).1) : ToldD).cells) (by rw [ToldD.cells_len (show _ = 4 from rfl) (show _ = 4 from rfl)]) (.tl .all) ?_
  conv=>whnf
  rw [es]
  exact ⟨_, Ent.sel (T := []) (A := [_, _, _]) [0] rfl, rfl, rfl⟩
 conv=>whnf
 refine CondG.dec (fun e3 => ?_) (fun e3 => ?_)
 ·have es : stepQ find R x = (told1 (mintQ find R x.tok x.a x.amt).1, (mintQ find R x.tok x.a x.amt).2) := by
   unfold stepQ
   rw [show pickN x.what 13 = 3 by omega]
   rfl
  conv=>whnf
  refine LoadG.at (v := .int .i64 x.tok) (.tl (.here rfl)) ?_
  conv=>whnf
  refine LoadNG.at (vs := bvs x.a) h20a (.tl (.here (StepD.a_at x))) ?_
  conv=>whnf
  refine LoadNG.at (vs := uvs x.amt) h4w (.tl (.here (StepD.amt_at hx))) ?_
  conv=>whnf
  refine CallG.of (pre := [refR 83 s hv part nv R]) (mint8_q _ s R x.tok x.a x.amt hx.a.1 hx.amt (hd.left _) (hl.mono (by decide))) (Ent.front 2 rfl) ?_
  rintro _ _ ⟨rfl, rfl⟩
  conv=>whnf
  refine BuildG.of (cs := (told1 (mintQ find R x.tok x.a x.amt).1).cells) rfl ?_
  conv=>whnf
  refine StoreG.at (by rw [ToldD.cells_len (show _ = 4 from rfl) (show _ = 4 from rfl)]) (Upd.tl (Upd.whole (by rw [ToldD.cells_len (show _ = 4 from rfl) (show _ = 4 from rfl)]; rfl) (ToldD.cells_one _))) ?_
  conv=>whnf
  refine LoadNG.at (vs := ((told1 (mintQ find R x.tok x.a x.amt).1) : ToldD).cells) (by rw [ToldD.cells_len (show _ = 4 from rfl) (show _ = 4 from rfl)]) (.tl .all) ?_
  conv=>whnf
  rw [es]
  exact ⟨_, Ent.sel (T := []) (A := [_, _, _]) [0] rfl, rfl, rfl⟩
 conv=>whnf
 refine CondG.dec (fun e4 => ?_) (fun e4 => ?_)
 ·have es : stepQ find R x = (told1 (burnQ find R x.tok x.a x.amt).1, (burnQ find R x.tok x.a x.amt).2) := by
   unfold stepQ
   rw [show pickN x.what 13 = 4 by omega]
   rfl
  conv=>whnf
  refine LoadG.at (v := .int .i64 x.tok) (.tl (.here rfl)) ?_
  conv=>whnf
  refine LoadNG.at (vs := bvs x.a) h20a (.tl (.here (StepD.a_at x))) ?_
  conv=>whnf
  refine LoadNG.at (vs := uvs x.amt) h4w (.tl (.here (StepD.amt_at hx))) ?_
  conv=>whnf
  refine CallG.of (pre := [refR 83 s hv part nv R]) (burn8_q _ s R x.tok x.a x.amt hx.a.1 hx.amt (hd.left _) (hl.mono (by decide))) (Ent.front 2 rfl) ?_
  rintro _ _ ⟨rfl, rfl⟩
  conv=>whnf
  refine BuildG.of (cs := (told1 (burnQ find R x.tok x.a x.amt).1).cells) rfl ?_
  conv=>whnf
  refine StoreG.at (by rw [ToldD.cells_len (show _ = 4 from rfl) (show _ = 4 from rfl)]) (Upd.tl (Upd.whole (by rw [ToldD.cells_len (show _ = 4 from rfl) (show _ = 4 from rfl)]; rfl) (ToldD.cells_one _))) ?_
  conv=>whnf
  refine LoadNG.at (vs := ((told1 (burnQ find R x.tok x.a x.amt).1) : ToldD).cells) (by rw [ToldD.cells_len (show _ = 4 from rfl) (show _ = 4 from rfl)]) (.tl .all) ?_
  conv=>whnf
  rw [es]
  exact ⟨_, Ent.sel (T := []) (A := [_, _, _]) [0] rfl, rfl, rfl⟩
 conv=>whnf
 refine CondG.dec (fun e5 => ?_) (fun e5 => ?_)
 ·have es : stepQ find R x = (told1 (moveQ find R x.tok x.a x.b x.amt).1, (moveQ find R x.tok x.a x.b x.amt).2) := by
   unfold stepQ
   rw [show pickN x.what 13 = 5 by omega]
   rfl
  conv=>whnf
  refine LoadG.at (v := .int .i64 x.tok) (.tl (.here rfl)) ?_
  conv=>whnf
  refine LoadNG.at (vs := bvs x.a) h20a (.tl (.here (StepD.a_at x))) ?_
  conv=>whnf
  refine LoadNG.at (vs := bvs x.b) h20b (.tl (.here (StepD.b_at hx))) ?_
  conv=>whnf
  refine LoadNG.at (vs := uvs x.amt) h4w (.tl (.here (StepD.amt_at hx))) ?_
  conv=>whnf
  refine CallG.of (pre := [refR 83 s hv part nv R]) (move8_q _ s R x.tok x.a x.b x.amt hx.a.1 hx.b.1 hx.amt (hd.left _) (hl.mono (by decide))) (Ent.front 2 rfl) ?_
  rintro _ _ ⟨rfl, rfl⟩
  conv=>whnf
  refine BuildG.of (cs := (told1 (moveQ find R x.tok x.a x.b x.amt).1).cells) rfl ?_
  conv=>whnf
  refine StoreG.at (by rw [ToldD.cells_len (show _ = 4 from rfl) (show _ = 4 from rfl)]) (Upd.tl (Upd.whole (by rw [ToldD.cells_len (show _ = 4 from rfl) (show _ = 4 from rfl)]; rfl) (ToldD.cells_one _))) ?_
  conv=>whnf
  refine LoadNG.at (vs := ((told1 (moveQ find R x.tok x.a x.b x.amt).1) : ToldD).cells) (by rw [ToldD.cells_len (show _ = 4 from rfl) (show _ = 4 from rfl)]) (.tl .all) ?_
  conv=>whnf
  rw [es]
  exact ⟨_, Ent.sel (T := []) (A := [_, _, _]) [0] rfl, rfl, rfl⟩
 conv=>whnf
 refine CondG.dec (fun e6 => ?_) (fun e6 => ?_)
 ·have es : stepQ find R x = (told1 (allowQ find R x.tok x.a x.b x.amt).1, (allowQ find R x.tok x.a x.b x.amt).2) := by
   unfold stepQ
   rw [show pickN x.what 13 = 6 by omega]
   rfl
  conv=>whnf
  refine LoadG.at (v := .int .i64 x.tok) (.tl (.here rfl)) ?_
  conv=>whnf
  refine LoadNG.at (vs := bvs x.a) h20a (.tl (.here (StepD.a_at x))) ?_
  conv=>whnf
  refine LoadNG.at (vs := bvs x.b) h20b (.tl (.here (StepD.b_at hx))) ?_
  conv=>whnf
  refine LoadNG.at (vs := uvs x.amt) h4w (.tl (.here (StepD.amt_at hx))) ?_
  conv=>whnf
  refine CallG.of (pre := [refR 83 s hv part nv R]) (allow8_q _ s R x.tok x.a x.b x.amt hx.a.1 hx.b.1 hx.amt (hd.left _) (hl.mono (by decide))) (Ent.front 2 rfl) ?_
  rintro _ _ ⟨rfl, rfl⟩
  conv=>whnf
  refine BuildG.of (cs := (told1 (allowQ find R x.tok x.a x.b x.amt).1).cells) rfl ?_
  conv=>whnf
  refine StoreG.at (by rw [ToldD.cells_len (show _ = 4 from rfl) (show _ = 4 from rfl)]) (Upd.tl (Upd.whole (by rw [ToldD.cells_len (show _ = 4 from rfl) (show _ = 4 from rfl)]; rfl) (ToldD.cells_one _))) ?_
  conv=>whnf
  refine LoadNG.at (vs := ((told1 (allowQ find R x.tok x.a x.b x.amt).1) : ToldD).cells) (by rw [ToldD.cells_len (show _ = 4 from rfl) (show _ = 4 from rfl)]) (.tl .all) ?_
  conv=>whnf
  rw [es]
  exact ⟨_, Ent.sel (T := []) (A := [_, _, _]) [0] rfl, rfl, rfl⟩
 conv=>whnf
 refine CondG.dec (fun e7 => ?_) (fun e7 => ?_)
 ·have es : stepQ find R x = (told1 (pullQ find R x.tok x.a x.b x.c x.amt).1, (pullQ find R x.tok x.a x.b x.c x.amt).2) := by
   unfold stepQ
   rw [show pickN x.what 13 = 7 by omega]
   rfl
  conv=>whnf
  refine LoadG.at (v := .int .i64 x.tok) (.tl (.here rfl)) ?_
  conv=>whnf
  refine LoadNG.at (vs := bvs x.a) h20a (.tl (.here (StepD.a_at x))) ?_
  conv=>whnf
  refine LoadNG.at (vs := bvs x.b) h20b (.tl (.here (StepD.b_at hx))) ?_
  conv=>whnf
  refine LoadNG.at (vs := bvs x.c) h20c (.tl (.here (StepD.c_at hx))) ?_
  conv=>whnf
  refine LoadNG.at (vs := uvs x.amt) h4w (.tl (.here (StepD.amt_at hx))) ?_
  conv=>whnf
  refine CallG.of (pre := [refR 83 s hv part nv R]) (pull8_q _ s R x.tok x.a x.b x.c x.amt hx.a.1 hx.b.1 hx.c.1 hx.amt (hd.left _) (hl.mono (by decide))) (Ent.front 2 rfl) ?_
  rintro _ _ ⟨rfl, rfl⟩
  conv=>whnf
  refine BuildG.of (cs := (told1 (pullQ find R x.tok x.a x.b x.c x.amt).1).cells) rfl ?_
  conv=>whnf
  refine StoreG.at (by rw [ToldD.cells_len (show _ = 4 from rfl) (show _ = 4 from rfl)]) (Upd.tl (Upd.whole (by rw [ToldD.cells_len (show _ = 4 from rfl) (show _ = 4 from rfl)]; rfl) (ToldD.cells_one _))) ?_
  conv=>whnf
  refine LoadNG.at (vs := ((told1 (pullQ find R x.tok x.a x.b x.c x.amt).1) : ToldD).cells) (by rw [ToldD.cells_len (show _ = 4 from rfl) (show _ = 4 from rfl)]) (.tl .all) ?_
  conv=>whnf
  rw [es]
  exact ⟨_, Ent.sel (T := []) (A := [_, _, _]) [0] rfl, rfl, rfl⟩
 conv=>whnf
 refine CondG.dec (fun e8 => ?_) (fun e8 => ?_)
 ·have es : stepQ find R x = (⟨(tokenQ find R x.tok).1.2, (tokenQ find R x.tok).1.1, z4, 0⟩, (tokenQ find R x.tok).2) := by
   unfold stepQ
   rw [show pickN x.what 13 = 8 by omega]
   rfl
  have h4 := (tokenQ_ok find R x.tok).len
  conv=>whnf
  refine LoadG.at (v := .int .i64 x.tok) (.tl (.here rfl)) ?_
  conv=>whnf
  refine CallG.of (pre := [refR 83 s hv part nv R]) (token8_q _ s R x.tok (hd.left _) (hl.mono (by decide))) (Ent.front 2 rfl) ?_
  rintro _ _ ⟨rfl, rfl⟩
  conv=>whnf
  intro b5
  conv=>whnf
  refine StoreG.at (by rw [TokD.cells_len h4]) (Upd.whole (by rw [TokD.cells_len h4]; rfl) (TokD.cells_one _)) ?_
  conv=>whnf
  refine LoadNG.at (vs := (tokenQ find R x.tok).1.1.cells) (by rw [TokD.cells_len h4]) .all ?_
  conv=>whnf
  refine BuildG.of (cs := (⟨(tokenQ find R x.tok).1.2, (tokenQ find R x.tok).1.1, z4, 0⟩ : ToldD).cells) (told_tok h4) ?_
  conv=>whnf
  refine StoreG.at (by rw [ToldD.cells_len h4 (show _ = 4 from rfl)]) (Upd.tl (Upd.tl (Upd.whole (by rw [ToldD.cells_len h4 (show _ = 4 from rfl)]; rfl) (ToldD.cells_one _)))) ?_
  conv=>whnf
  refine LoadNG.at (vs := (⟨(tokenQ find R x.tok).1.2, (tokenQ find R x.tok).1.1, z4, 0⟩ : ToldD).cells) (by rw [ToldD.cells_len h4 (show _ = 4 from rfl)]) (.tl (.tl .all)) ?_
  conv=>whnf
  rw [es]
  exact ⟨_, Ent.sel (T := []) (A := [_, _, _, _]) [1] rfl, rfl, rfl⟩
 conv=>whnf
 refine CondG.dec (fun e9 => ?_) (fun e9 => ?_)
 ·have es : stepQ find R x = (⟨(balQ find R x.tok x.a).1.2, zTok, (balQ find R x.tok x.a).1.1, 0⟩, (balQ find R x.tok x.a).2) := by
   unfold stepQ
   rw [show pickN x.what 13 = 9 by omega]
   rfl
  have h4 := (balQ_len find R x.tok x.a)
  conv=>whnf
  refine LoadG.at (v := .int .i64 x.tok) (.tl (.here rfl)) ?_
  conv=>whnf
  refine LoadNG.at (vs := bvs x.a) h20a (.tl (.here (StepD.a_at x))) ?_
  conv=>whnf
  refine CallG.of (pre := [refR 83 s hv part nv R]) (balance8_q _ s R x.tok x.a hx.a.1 (hd.left _) (hl.mono (by decide))) (Ent.front 2 rfl) ?_
  rintro _ _ ⟨rfl, rfl⟩
  conv=>whnf
  intro b5
  conv=>whnf
  refine StoreG.at (by rw [uvs_len, h4]) (Upd.whole (by rw [uvs_len, h4]; rfl) (uvs_one _)) ?_
  conv=>whnf
  refine LoadNG.at (vs := uvs (balQ find R x.tok x.a).1.1) (by rw [uvs_len, h4]) .all ?_
  conv=>whnf
  refine BuildG.of (cs := (⟨(balQ find R x.tok x.a).1.2, zTok, (balQ find R x.tok x.a).1.1, 0⟩ : ToldD).cells) (told_amt h4) ?_
  conv=>whnf
  refine StoreG.at (by rw [ToldD.cells_len (show _ = 4 from rfl) h4]) (Upd.tl (Upd.tl (Upd.whole (by rw [ToldD.cells_len (show _ = 4 from rfl) h4]; rfl) (ToldD.cells_one _)))) ?_
  conv=>whnf
  refine LoadNG.at (vs := (⟨(balQ find R x.tok x.a).1.2, zTok, (balQ find R x.tok x.a).1.1, 0⟩ : ToldD).cells) (by rw [ToldD.cells_len (show _ = 4 from rfl) h4]) (.tl (.tl .all)) ?_
  conv=>whnf
  rw [es]
  exact ⟨_, Ent.sel (T := []) (A := [_, _, _, _]) [1] rfl, rfl, rfl⟩
 conv=>whnf
 refine CondG.dec (fun e10 => ?_) (fun e10 => ?_)
 ·have es : stepQ find R x = (⟨(allowedQ find R x.tok x.a x.b).1.2, zTok, (allowedQ find R x.tok x.a x.b).1.1, 0⟩, (allowedQ find R x.tok x.a x.b).2) := by
   unfold stepQ
   rw [show pickN x.what 13 = 10 by omega]
   rfl
  have h4 := (allowedQ_len find R x.tok x.a x.b)
  conv=>whnf
  refine LoadG.at (v := .int .i64 x.tok) (.tl (.here rfl)) ?_
  conv=>whnf
  refine LoadNG.at (vs := bvs x.a) h20a (.tl (.here (StepD.a_at x))) ?_
  conv=>whnf
  refine LoadNG.at (vs := bvs x.b) h20b (.tl (.here (StepD.b_at hx))) ?_
  conv=>whnf
  refine CallG.of (pre := [refR 83 s hv part nv R]) (allowed8_q _ s R x.tok x.a x.b hx.a.1 hx.b.1 (hd.left _) (hl.mono (by decide))) (Ent.front 2 rfl) ?_
  rintro _ _ ⟨rfl, rfl⟩
  conv=>whnf
  intro b5
  conv=>whnf
  refine StoreG.at (by rw [uvs_len, h4]) (Upd.whole (by rw [uvs_len, h4]; rfl) (uvs_one _)) ?_
  conv=>whnf
  refine LoadNG.at (vs := uvs (allowedQ find R x.tok x.a x.b).1.1) (by rw [uvs_len, h4]) .all ?_
  conv=>whnf
  refine BuildG.of (cs := (⟨(allowedQ find R x.tok x.a x.b).1.2, zTok, (allowedQ find R x.tok x.a x.b).1.1, 0⟩ : ToldD).cells) (told_amt h4) ?_
  conv=>whnf
  refine StoreG.at (by rw [ToldD.cells_len (show _ = 4 from rfl) h4]) (Upd.tl (Upd.tl (Upd.whole (by rw [ToldD.cells_len (show _ = 4 from rfl) h4]; rfl) (ToldD.cells_one _)))) ?_
  conv=>whnf
  refine LoadNG.at (vs := (⟨(allowedQ find R x.tok x.a x.b).1.2, zTok, (allowedQ find R x.tok x.a x.b).1.1, 0⟩ : ToldD).cells) (by rw [ToldD.cells_len (show _ = 4 from rfl) h4]) (.tl (.tl .all)) ?_
  conv=>whnf
  rw [es]
  exact ⟨_, Ent.sel (T := []) (A := [_, _, _, _]) [1] rfl, rfl, rfl⟩
 conv=>whnf
 refine CondG.dec (fun e11 => ?_) (fun e11 => ?_)
 ·have es : stepQ find R x = (⟨0, zTok, z4, (markQ R).1⟩, (markQ R).2) := by
   unfold stepQ
   rw [show pickN x.what 13 = 11 by omega]
   rfl
  conv=>whnf
  refine CallG.of (pre := [refR 83 s hv part nv R]) (mark7_spec _ s hv part nv (by have := hl.steps; omega) hh) (Ent.front 2 rfl) ?_
  rintro _ _ ⟨rfl, rfl⟩
  conv=>whnf
  refine BuildG.of (cs := (⟨0, zTok, z4, (markQ R).1⟩ : ToldD).cells) rfl ?_
  conv=>whnf
  refine StoreG.at (by rw [ToldD.cells_len (show _ = 4 from rfl) (show _ = 4 from rfl)]) (Upd.tl (Upd.whole (by rw [ToldD.cells_len (show _ = 4 from rfl) (show _ = 4 from rfl)]; rfl) (ToldD.cells_one _))) ?_
  conv=>whnf
  refine LoadNG.at (vs := (⟨0, zTok, z4, (markQ R).1⟩ : ToldD).cells) (by rw [ToldD.cells_len (show _ = 4 from rfl) (show _ = 4 from rfl)]) (.tl .all) ?_
  conv=>whnf
  rw [es]
  exact ⟨_, Ent.sel (T := []) (A := [_, _, _]) [0] rfl, rfl, rfl⟩
 have hk12 : pickN x.what 13 = 12 := by
  have := pickN_lt x.what (n := 13) (by decide)
  omega
 have es : stepQ find R x = (told1 (backQ R x.tok).1, (backQ R x.tok).2) := by
  unfold stepQ
  rw [hk12]
  rfl
 conv=>whnf
 refine LoadG.at (v := .int .i64 x.tok) (.tl (.here rfl)) ?_
 conv=>whnf
 refine CallG.of (pre := [refR 83 s hv part nv R]) (back7_spec _ s hv part nv (by have := hl.steps; omega) hh x.tok hx.t1 hx.t2) (Ent.front 2 rfl) ?_
 rintro _ _ ⟨rfl, rfl⟩
 conv=>whnf
 refine BuildG.of (cs := (told1 (backQ R x.tok).1).cells) rfl ?_
 conv=>whnf
 refine StoreG.at (by rw [ToldD.cells_len (show _ = 4 from rfl) (show _ = 4 from rfl)]) (Upd.tl (Upd.whole (by rw [ToldD.cells_len (show _ = 4 from rfl) (show _ = 4 from rfl)]; rfl) (ToldD.cells_one _))) ?_
 conv=>whnf
 refine LoadNG.at (vs := ((told1 (backQ R x.tok).1) : ToldD).cells) (by rw [ToldD.cells_len (show _ = 4 from rfl) (show _ = 4 from rfl)]) (.tl .all) ?_
 conv=>whnf
 rw [es]
 exact ⟨_, Ent.sel (T := []) (A := [_, _, _]) [0] rfl, rfl, rfl⟩
end
end Go.Proofs.YtjacolfhlfogkabGreatDoor
namespace Go.Proofs.YtjacolfhlfogkabGreatDoor
open Go Go.Sl Go.Sort
def ChRd (F : List HP) (l : List ChD) : Prop := ∀ d ∈ l, RdS F d.ov d.old.length (bvs d.old) ∧ RdS F d.nv d.new.length (bvs d.new)
theorem chC_len (l : List ChD) : (l.flatMap ChD.cells).length = l.length * 3 := flat_len fun _ _ => rfl
theorem chC_at {l : List ChD} {i : Nat} {d : ChD} (h : l[i]? = some d) : (l.flatMap ChD.cells)[i * 3]? = some (.string d.key) ∧ (l.flatMap ChD.cells)[i * 3 + 1]? = some d.ov ∧ (l.flatMap ChD.cells)[i * 3 + 2]? = some d.nv := by
 obtain ⟨h1, rfl⟩ := List.getElem?_eq_some_iff.1 h
 have h2 : ((l.flatMap ChD.cells).drop (i * 3)).take 3 = l[i].cells := flat_get (cells := ChD.cells) (sz := 3) (fun _ _ => rfl) h1
 have h3 : ∀ j, j < 3 → (l.flatMap ChD.cells)[i * 3 + j]? = (l[i].cells)[j]? := fun j hj => by
  rw [← h2, List.getElem?_take, if_pos hj, List.getElem?_drop]
 exact ⟨h3 0 (by decide), h3 1 (by decide), h3 2 (by decide)⟩
theorem texts8_same (F : List HP) (a b : Value) (ks : List ByteArray) (ha : RdS F a ks.length (keysB ks)) (hb : RdS F b ks.length (keysB ks)) (hl : ks.length ≤ 4611686018427387904) : SpecF Tryz.prog 26 [a, b] F [] (fun r L => r = .bool true ∧ L = []) := by
 have kB : ∀ i (h : i < ks.length), (keysB ks)[((i : Nat) : Int).toNat * 1]? = some (.string ks[i]) := fun i h => by rw [keysB, Int.toNat_natCast, Nat.mul_one, List.getElem?_map, List.getElem?_eq_getElem h]; rfl
 refine fun26.spec rfl ?_
 conv=>whnf
 refine LenG.rd ha ?_
 conv=>whnf
 refine LenG.rd hb ?_
 conv=>whnf
 refine CondG.ndec (fun h => absurd rfl h) (fun _ => ?_)
 conv=>whnf
 refine LoopG.mk (fun mm e L => ∃ q : Nat, q ≤ ks.length ∧ mm = ks.length - q ∧ e = [(0, a), (1, b), (4, .bool false), (5, .int .i64 q)] ∧ L = []) ks.length
  [(0, a), (1, b), (4, .bool false), (5, .int .i64 0)] _ ⟨rfl, rfl, rfl, rfl, trivial⟩ (Ent.refl _) ⟨0, by omega, rfl, rfl, rfl⟩ ?_
 rintro mm e L ⟨q, hq, rfl, rfl, rfl⟩
 conv=>whnf
 refine LenG.rd ha ?_
 conv=>whnf
 refine CondG.dec (fun h1 => ?_) (fun h1 => ?_)
 ·have hql : q < ks.length := by omega
  conv=>whnf
  refine DrawG.mk 9 [] [] (Ent.refl _) ?_
  conv=>whnf
  refine .take 0 ?_
  conv=>whnf
  refine ⟨rfl, ?_⟩
  conv=>whnf
  refine .take 1 ?_
  conv=>whnf
  refine ⟨rfl, ?_⟩
  conv=>whnf
  refine .take 2 ?_
  conv=>whnf
  refine ⟨rfl, ?_⟩
  conv=>whnf
  refine IdxG.rd ha (by omega) fun c o hc => ?_
  conv=>whnf
  refine .take 3 ?_
  conv=>whnf
  refine ⟨rfl, ?_⟩
  conv=>whnf
  refine LoadG.atF (hc.one (kB q hql)) ?_
  conv=>whnf
  refine .take 4 ?_
  conv=>whnf
  refine ⟨rfl, ?_⟩
  conv=>whnf
  refine .take 5 ?_
  conv=>whnf
  refine ⟨rfl, ?_⟩
  conv=>whnf
  refine .take 6 ?_
  conv=>whnf
  refine ⟨rfl, ?_⟩
  conv=>whnf
  refine IdxG.rd hb (by omega) fun c o hc => ?_
  conv=>whnf
  refine .take 7 ?_
  conv=>whnf
  refine ⟨rfl, ?_⟩
  conv=>whnf
  refine LoadG.atF (hc.one (kB q hql)) ?_
  conv=>whnf
  refine .take 8 ?_
  conv=>whnf
  refine ⟨rfl, ?_⟩
  conv=>whnf
  refine ⟨rfl, ?_⟩
  conv=>whnf
  refine CondG.ndec (fun h => absurd rfl h) (fun _ => ?_)
  conv=>whnf
  refine ArithG.i64' ((q + 1 : Nat) : Int) (by omega) (by omega) ?_
  conv=>whnf
  exact ⟨ks.length - (q + 1), [(0, a), (1, b), (4, .bool false), (5, .int .i64 ((q + 1 : Nat) : Int))], _, by omega, ⟨rfl, rfl, rfl, rfl, trivial⟩, Ent.refl _, q + 1, by omega, rfl, rfl, rfl⟩
 ·conv=>whnf
  exact ret_here ⟨rfl, rfl⟩
theorem changes8_same (F : List HP) (va vb : Value) (l m : List ChD) (hn : l.length ≤ 4611686018427387904) (he : l.map (fun d => (d.key, d.old, d.new)) = m.map (fun d => (d.key, d.old, d.new))) (hA : RdS F va l.length (l.flatMap ChD.cells)) (hB : RdS F vb m.length (m.flatMap ChD.cells)) (hra : ChRd F l) (hrb : ChRd F m) :
 SpecF Tryz.prog 27 [va, vb] F [] (fun r L => r = .bool true ∧ L = []) := by
 have hl : l.length = m.length := by
  have := congrArg List.length he
  simpa using this
 refine fun27.spec rfl ?_
 conv=>whnf
 refine LenG.rd hA ?_
 conv=>whnf
 refine LenG.rd hB ?_
 conv=>whnf
 refine CondG.ndec (fun h => absurd (by rw [hl]) h) (fun _ => ?_)
 conv=>whnf
 refine LoopG.mk (fun mm e L => ∃ q : Nat, q ≤ l.length ∧ mm = l.length - q ∧ e = [(0, va), (1, vb), (4, .bool false), (5, .int .i64 q)] ∧ L = []) l.length
  [(0, va), (1, vb), (4, .bool false), (5, .int .i64 0)] _ ⟨rfl, rfl, rfl, rfl, trivial⟩ (Ent.refl _) ⟨0, by omega, rfl, rfl, rfl⟩ ?_
 rintro mm e L ⟨q, hq, rfl, rfl, rfl⟩
 conv=>whnf
 refine LenG.rd hA ?_
 conv=>whnf
 refine CondG.dec (fun h1 => ?_) (fun h1 => ?_)
 ·have hql : q < l.length := by omega
  have hqm : q < m.length := by omega
  obtain ⟨d, hd⟩ : ∃ d, l[q]? = some d := ⟨l[q], List.getElem?_eq_getElem hql⟩
  obtain ⟨f, hf⟩ : ∃ f, m[q]? = some f := ⟨m[q], List.getElem?_eq_getElem hqm⟩
  obtain ⟨d0, d1, d2⟩ := chC_at hd
  obtain ⟨f0, f1, f2⟩ := chC_at hf
  have hdm := List.mem_of_getElem? hd
  have hfm := List.mem_of_getElem? hf
  obtain ⟨ek, eo, en⟩ : d.key = f.key ∧ d.old = f.old ∧ d.new = f.new := by
   have h := congrArg (fun z => z[q]?) he
   simp only [List.getElem?_map, hd, hf, Option.map_some, Option.some.injEq, Prod.mk.injEq] at h
   exact h
  have e1 : (!decide (d.key = d.key)) = false := by simp
  have e2 : (!decide (strB d.old = strB f.old)) = false := by rw [eo]; simp
  have e3 : (!decide (strB d.new = strB f.new)) = false := by rw [en]; simp
  conv=>whnf
  refine DrawG.mk 41 [] [] (Ent.refl _) ?_
  conv=>whnf
  refine .take 0 ?_
  conv=>whnf
  refine ⟨rfl, ?_⟩
  conv=>whnf
  refine .take 1 ?_
  conv=>whnf
  refine ⟨rfl, ?_⟩
  conv=>whnf
  refine .take 2 ?_
  conv=>whnf
  refine ⟨rfl, ?_⟩
  conv=>whnf
  refine IdxG.rd hA (by omega) fun cb o hcc => ?_
  conv=>whnf
  refine .take 3 ?_
  conv=>whnf
  refine ⟨rfl, ?_⟩
  conv=>whnf
  refine .take 4 ?_
  conv=>whnf
  refine ⟨rfl, ?_⟩
  conv=>whnf
  refine LoadG.atF (hcc.one (i := q * 3) (u := (.string d.key)) d0) ?_
  clear hcc
  conv=>whnf
  refine .take 5 ?_
  conv=>whnf
  refine ⟨rfl, ?_⟩
  conv=>whnf
  refine .take 6 ?_
  conv=>whnf
  refine ⟨rfl, ?_⟩
  conv=>whnf
  refine .take 7 ?_
  conv=>whnf
  refine ⟨rfl, ?_⟩
  conv=>whnf
  refine IdxG.rd hB (by omega) fun cb o hcc => ?_
  conv=>whnf
  refine .take 8 ?_
  conv=>whnf
  refine ⟨rfl, ?_⟩
  conv=>whnf
  refine .take 9 ?_
  conv=>whnf
  refine ⟨rfl, ?_⟩
  conv=>whnf
  refine LoadG.atF (hcc.one (i := q * 3) (u := (.string f.key)) f0) ?_
  clear hcc
  conv=>whnf
  refine .take 10 ?_
  conv=>whnf
  refine ⟨rfl, ?_⟩
  conv=>whnf
  rw [← ek, e1]
  refine .take 11 ?_
  conv=>whnf
  refine ⟨rfl, ?_⟩
  conv=>whnf
  refine .take 12 ?_
  conv=>whnf
  refine ⟨rfl, ?_⟩
  (conv=>whnf);refine .ff ?_;(conv=>whnf)
  refine .take 13 ?_
  conv=>whnf
  refine ⟨rfl, ?_⟩
  (conv=>whnf);refine .ff ?_;(conv=>whnf)
  refine .take 14 ?_
  conv=>whnf
  refine ⟨rfl, ?_⟩
  (conv=>whnf);refine .ff ?_;(conv=>whnf)
  refine IdxG.rd hA (by omega) fun cb o hcc => ?_
  conv=>whnf
  refine .take 15 ?_
  conv=>whnf
  refine ⟨rfl, ?_⟩
  (conv=>whnf);refine .ff ?_;(conv=>whnf)
  refine .take 16 ?_
  conv=>whnf
  refine ⟨rfl, ?_⟩
  (conv=>whnf);refine .ff ?_;(conv=>whnf)
  refine LoadG.atF (hcc.one (i := q * 3 + 1) (u := d.ov) d1) ?_
  clear hcc
  conv=>whnf
  refine .take 18 ?_
  conv=>whnf
  refine ⟨rfl, ?_⟩
  (conv=>whnf);refine .ff ?_;(conv=>whnf)
  refine .take 19 ?_
  conv=>whnf
  refine ⟨rfl, ?_⟩
  (conv=>whnf);refine .ff ?_;(conv=>whnf)
  refine .take 20 ?_
  conv=>whnf
  refine ⟨rfl, ?_⟩
  (conv=>whnf);refine .ff ?_;(conv=>whnf)
  refine IdxG.rd hB (by omega) fun cb o hcc => ?_
  conv=>whnf
  refine .take 21 ?_
  conv=>whnf
  refine ⟨rfl, ?_⟩
  (conv=>whnf);refine .ff ?_;(conv=>whnf)
  refine .take 22 ?_
  conv=>whnf
  refine ⟨rfl, ?_⟩
  (conv=>whnf);refine .ff ?_;(conv=>whnf)
  refine LoadG.atF (hcc.one (i := q * 3 + 1) (u := f.ov) f1) ?_
  clear hcc
  conv=>whnf
  refine .all ?_
  conv=>whnf
  refine ⟨by decide, ?_, ?_⟩
  ·(conv=>whnf);refine .ff ?_;(conv=>whnf)
   refine DoesG.toStr (e := 5) (bs := d.old) (by kernel_rfl) (by kernel_rfl) (by kernel_rfl) (((hra d hdm).1.right []).right _) rfl ?_
   conv=>whnf
   refine .all ?_
   conv=>whnf
   refine ⟨by decide, ?_⟩
   (conv=>whnf);refine .ff ?_;(conv=>whnf)
   refine DoesG.toStr (e := 5) (bs := f.old) (by kernel_rfl) (by kernel_rfl) (by kernel_rfl) (((hrb f hfm).1.right []).right _) rfl ?_
   conv=>whnf
   refine .take 24 ?_
   conv=>whnf
   refine ⟨rfl, ?_⟩
   (conv=>whnf);refine .ff ?_;(conv=>whnf)
   rw [e2]
   conv=>whnf
   refine .take 25 ?_
   conv=>whnf
   refine ⟨rfl, ?_⟩
   (conv=>whnf);refine .ff ?_;(conv=>whnf)
   refine .take 26 ?_
   conv=>whnf
   refine ⟨rfl, ?_⟩
   conv=>whnf
   refine .take 27 ?_
   conv=>whnf
   refine ⟨rfl, ?_⟩
   (conv=>whnf);refine .ff ?_;(conv=>whnf)
   refine .take 28 ?_
   conv=>whnf
   refine ⟨rfl, ?_⟩
   (conv=>whnf);refine .ff ?_;(conv=>whnf)
   refine .take 29 ?_
   conv=>whnf
   refine ⟨rfl, ?_⟩
   (conv=>whnf);refine .ff ?_;(conv=>whnf)
   refine IdxG.rd hA (by omega) fun cb o hcc => ?_
   conv=>whnf
   refine .take 30 ?_
   conv=>whnf
   refine ⟨rfl, ?_⟩
   (conv=>whnf);refine .ff ?_;(conv=>whnf)
   refine .take 31 ?_
   conv=>whnf
   refine ⟨rfl, ?_⟩
   (conv=>whnf);refine .ff ?_;(conv=>whnf)
   refine LoadG.atF (hcc.one (i := q * 3 + 2) (u := d.nv) d2) ?_
   clear hcc
   conv=>whnf
   refine .take 33 ?_
   conv=>whnf
   refine ⟨rfl, ?_⟩
   (conv=>whnf);refine .ff ?_;(conv=>whnf)
   refine .take 34 ?_
   conv=>whnf
   refine ⟨rfl, ?_⟩
   (conv=>whnf);refine .ff ?_;(conv=>whnf)
   refine .take 35 ?_
   conv=>whnf
   refine ⟨rfl, ?_⟩
   (conv=>whnf);refine .ff ?_;(conv=>whnf)
   refine IdxG.rd hB (by omega) fun cb o hcc => ?_
   conv=>whnf
   refine .take 36 ?_
   conv=>whnf
   refine ⟨rfl, ?_⟩
   (conv=>whnf);refine .ff ?_;(conv=>whnf)
   refine .take 37 ?_
   conv=>whnf
   refine ⟨rfl, ?_⟩
   (conv=>whnf);refine .ff ?_;(conv=>whnf)
   refine LoadG.atF (hcc.one (i := q * 3 + 2) (u := f.nv) f2) ?_
   clear hcc
   conv=>whnf
   refine .all ?_
   conv=>whnf
   refine ⟨by decide, ?_, ?_⟩
   ·(conv=>whnf);refine .ff ?_;(conv=>whnf)
    refine DoesG.toStr (e := 5) (bs := d.new) (by kernel_rfl) (by kernel_rfl) (by kernel_rfl) (((hra d hdm).2.right []).right _) rfl ?_
    conv=>whnf
    refine .all ?_
    conv=>whnf
    refine ⟨by decide, ?_⟩
    (conv=>whnf);refine .ff ?_;(conv=>whnf)
    refine DoesG.toStr (e := 5) (bs := f.new) (by kernel_rfl) (by kernel_rfl) (by kernel_rfl) (((hrb f hfm).2.right []).right _) rfl ?_
    conv=>whnf
    refine .take 39 ?_
    conv=>whnf
    refine ⟨rfl, ?_⟩
    (conv=>whnf);refine .ff ?_;(conv=>whnf)
    rw [e3]
    conv=>whnf
    refine .take 40 ?_
    conv=>whnf
    refine ⟨rfl, ?_⟩
    (conv=>whnf);refine .ff ?_;(conv=>whnf)
    refine ⟨rfl, ?_⟩
    (conv=>whnf);refine .ff ?_;(conv=>whnf)
    refine ArithG.i64' ((q + 1 : Nat) : Int) (by omega) (by omega) ?_
    conv=>whnf
    exact ⟨l.length - (q + 1), [(0, va), (1, vb), (4, .bool false), (5, .int .i64 ((q + 1 : Nat) : Int))], _, by omega, ⟨rfl, rfl, rfl, rfl, trivial⟩, Ent.refl _, q + 1, by omega, rfl, rfl, rfl⟩
   ·(conv=>whnf);refine .ff ?_;(conv=>whnf)
    refine DoesG.toStr (e := 5) (bs := f.new) (by kernel_rfl) (by kernel_rfl) (by kernel_rfl) (((hrb f hfm).2.right []).right _) rfl ?_
    conv=>whnf
    refine .all ?_
    conv=>whnf
    refine ⟨by decide, ?_⟩
    (conv=>whnf);refine .ff ?_;(conv=>whnf)
    refine DoesG.toStr (e := 5) (bs := d.new) (by kernel_rfl) (by kernel_rfl) (by kernel_rfl) (((hra d hdm).2.right []).right _) rfl ?_
    conv=>whnf
    refine .take 39 ?_
    conv=>whnf
    refine ⟨rfl, ?_⟩
    (conv=>whnf);refine .ff ?_;(conv=>whnf)
    rw [e3]
    conv=>whnf
    refine .take 40 ?_
    conv=>whnf
    refine ⟨rfl, ?_⟩
    (conv=>whnf);refine .ff ?_;(conv=>whnf)
    refine ⟨rfl, ?_⟩
    (conv=>whnf);refine .ff ?_;(conv=>whnf)
    refine ArithG.i64' ((q + 1 : Nat) : Int) (by omega) (by omega) ?_
    conv=>whnf
    exact ⟨l.length - (q + 1), [(0, va), (1, vb), (4, .bool false), (5, .int .i64 ((q + 1 : Nat) : Int))], _, by omega, ⟨rfl, rfl, rfl, rfl, trivial⟩, Ent.refl _, q + 1, by omega, rfl, rfl, rfl⟩
  ·(conv=>whnf);refine .ff ?_;(conv=>whnf)
   refine DoesG.toStr (e := 5) (bs := f.old) (by kernel_rfl) (by kernel_rfl) (by kernel_rfl) (((hrb f hfm).1.right []).right _) rfl ?_
   conv=>whnf
   refine .all ?_
   conv=>whnf
   refine ⟨by decide, ?_⟩
   (conv=>whnf);refine .ff ?_;(conv=>whnf)
   refine DoesG.toStr (e := 5) (bs := d.old) (by kernel_rfl) (by kernel_rfl) (by kernel_rfl) (((hra d hdm).1.right []).right _) rfl ?_
   conv=>whnf
   refine .take 24 ?_
   conv=>whnf
   refine ⟨rfl, ?_⟩
   (conv=>whnf);refine .ff ?_;(conv=>whnf)
   rw [e2]
   conv=>whnf
   refine .take 25 ?_
   conv=>whnf
   refine ⟨rfl, ?_⟩
   (conv=>whnf);refine .ff ?_;(conv=>whnf)
   refine .take 26 ?_
   conv=>whnf
   refine ⟨rfl, ?_⟩
   conv=>whnf
   refine .take 27 ?_
   conv=>whnf
   refine ⟨rfl, ?_⟩
   (conv=>whnf);refine .ff ?_;(conv=>whnf)
   refine .take 28 ?_
   conv=>whnf
   refine ⟨rfl, ?_⟩
   (conv=>whnf);refine .ff ?_;(conv=>whnf)
   refine .take 29 ?_
   conv=>whnf
   refine ⟨rfl, ?_⟩
   (conv=>whnf);refine .ff ?_;(conv=>whnf)
   refine IdxG.rd hA (by omega) fun cb o hcc => ?_
   conv=>whnf
   refine .take 30 ?_
   conv=>whnf
   refine ⟨rfl, ?_⟩
   (conv=>whnf);refine .ff ?_;(conv=>whnf)
   refine .take 31 ?_
   conv=>whnf
   refine ⟨rfl, ?_⟩
   (conv=>whnf);refine .ff ?_;(conv=>whnf)
   refine LoadG.atF (hcc.one (i := q * 3 + 2) (u := d.nv) d2) ?_
   clear hcc
   conv=>whnf
   refine .take 33 ?_
   conv=>whnf
   refine ⟨rfl, ?_⟩
   (conv=>whnf);refine .ff ?_;(conv=>whnf)
   refine .take 34 ?_
   conv=>whnf
   refine ⟨rfl, ?_⟩
   (conv=>whnf);refine .ff ?_;(conv=>whnf)
   refine .take 35 ?_
   conv=>whnf
   refine ⟨rfl, ?_⟩
   (conv=>whnf);refine .ff ?_;(conv=>whnf)
   refine IdxG.rd hB (by omega) fun cb o hcc => ?_
   conv=>whnf
   refine .take 36 ?_
   conv=>whnf
   refine ⟨rfl, ?_⟩
   (conv=>whnf);refine .ff ?_;(conv=>whnf)
   refine .take 37 ?_
   conv=>whnf
   refine ⟨rfl, ?_⟩
   (conv=>whnf);refine .ff ?_;(conv=>whnf)
   refine LoadG.atF (hcc.one (i := q * 3 + 2) (u := f.nv) f2) ?_
   clear hcc
   conv=>whnf
   refine .all ?_
   conv=>whnf
   refine ⟨by decide, ?_, ?_⟩
   ·(conv=>whnf);refine .ff ?_;(conv=>whnf)
    refine DoesG.toStr (e := 5) (bs := d.new) (by kernel_rfl) (by kernel_rfl) (by kernel_rfl) (((hra d hdm).2.right []).right _) rfl ?_
    conv=>whnf
    refine .all ?_
    conv=>whnf
    refine ⟨by decide, ?_⟩
    (conv=>whnf);refine .ff ?_;(conv=>whnf)
    refine DoesG.toStr (e := 5) (bs := f.new) (by kernel_rfl) (by kernel_rfl) (by kernel_rfl) (((hrb f hfm).2.right []).right _) rfl ?_
    conv=>whnf
    refine .take 39 ?_
    conv=>whnf
    refine ⟨rfl, ?_⟩
    (conv=>whnf);refine .ff ?_;(conv=>whnf)
    rw [e3]
    conv=>whnf
    refine .take 40 ?_
    conv=>whnf
    refine ⟨rfl, ?_⟩
    (conv=>whnf);refine .ff ?_;(conv=>whnf)
    refine ⟨rfl, ?_⟩
    (conv=>whnf);refine .ff ?_;(conv=>whnf)
    refine ArithG.i64' ((q + 1 : Nat) : Int) (by omega) (by omega) ?_
    conv=>whnf
    exact ⟨l.length - (q + 1), [(0, va), (1, vb), (4, .bool false), (5, .int .i64 ((q + 1 : Nat) : Int))], _, by omega, ⟨rfl, rfl, rfl, rfl, trivial⟩, Ent.refl _, q + 1, by omega, rfl, rfl, rfl⟩
   ·(conv=>whnf);refine .ff ?_;(conv=>whnf)
    refine DoesG.toStr (e := 5) (bs := f.new) (by kernel_rfl) (by kernel_rfl) (by kernel_rfl) (((hrb f hfm).2.right []).right _) rfl ?_
    conv=>whnf
    refine .all ?_
    conv=>whnf
    refine ⟨by decide, ?_⟩
    (conv=>whnf);refine .ff ?_;(conv=>whnf)
    refine DoesG.toStr (e := 5) (bs := d.new) (by kernel_rfl) (by kernel_rfl) (by kernel_rfl) (((hra d hdm).2.right []).right _) rfl ?_
    conv=>whnf
    refine .take 39 ?_
    conv=>whnf
    refine ⟨rfl, ?_⟩
    (conv=>whnf);refine .ff ?_;(conv=>whnf)
    rw [e3]
    conv=>whnf
    refine .take 40 ?_
    conv=>whnf
    refine ⟨rfl, ?_⟩
    (conv=>whnf);refine .ff ?_;(conv=>whnf)
    refine ⟨rfl, ?_⟩
    (conv=>whnf);refine .ff ?_;(conv=>whnf)
    refine ArithG.i64' ((q + 1 : Nat) : Int) (by omega) (by omega) ?_
    conv=>whnf
    exact ⟨l.length - (q + 1), [(0, va), (1, vb), (4, .bool false), (5, .int .i64 ((q + 1 : Nat) : Int))], _, by omega, ⟨rfl, rfl, rfl, rfl, trivial⟩, Ent.refl _, q + 1, by omega, rfl, rfl, rfl⟩
 ·conv=>whnf
  exact ret_here ⟨rfl, rfl⟩
end Go.Proofs.YtjacolfhlfogkabGreatDoor
namespace Go.Proofs.YtjacolfhlfogkabGreatDoor
open Go Go.Sl Go.Sort
theorem sfind_spec (F : List HP) (t : Nat) (hv : Value) (hs : List PairD) (h0 : Cel F t 0 hv) (hh : RdS F hv hs.length (pairsC hs)) (hhl : hs.length ≤ 4611686018427387904) (hok : ∀ p ∈ hs, RdS F p.v p.bs.length (bvs p.bs) ∧ p.bs.length ≤ 4096) (key : ByteArray) :
 SpecF Tryz.prog 208 [.pointer (some ⟨t, 0, none⟩), .string key] F [] (fun r L => ∃ x, SlV x (refF (hs.map PairD.e) [] true key).1.length ∧ r = .tuple #[x, .int .i64 (refF (hs.map PairD.e) [] true key).2] ∧ L = [own 1 x (refF (hs.map PairD.e) [] true key).1.length (bvs (refF (hs.map PairD.e) [] true key).1)]) := by
 have hF : refF (hs.map PairD.e) [] true key = ((atL (hs.map PairD.e) key).getD [], if (atL (hs.map PairD.e) key).isSome = false then 74 else 0) := by
  unfold refF
  rw [if_neg (show ¬ noF [] key ≠ 0 from fun h => h rfl)]
  simp
 rw [hF]
 refine fun208.spec rfl ?_
 conv=>whnf
 refine LoopG.mk (fun mm e L => ∃ i : Nat, i ≤ hs.length ∧ mm = hs.length - i ∧ atD hs key = atD (hs.drop i) key ∧ e = [(0, .pointer (some ⟨t, 0, none⟩)), (1, .string key), (4, .slice none 0 0), (5, .int .i64 0), (6, .int .i64 i)] ∧ L = []) hs.length
  [(0, .pointer (some ⟨t, 0, none⟩)), (1, .string key), (4, .slice none 0 0), (5, .int .i64 0), (6, .int .i64 0)] _ ⟨rfl, rfl, rfl, rfl, rfl, trivial⟩ (Ent.refl _) ⟨0, Nat.zero_le _, rfl, rfl, rfl, rfl⟩ ?_
 rintro mm e L ⟨i, hi, rfl, hw, rfl, rfl⟩
 conv=>whnf
 refine LoadG.atF h0 ?_
 conv=>whnf
 refine LenG.rd hh ?_
 conv=>whnf
 refine CondG.dec (fun hlt => ?_) (fun hlt => ?_)
 ·have hi' : i < hs.length := by omega
  obtain ⟨p, hp⟩ : ∃ p, hs[i]? = some p := ⟨hs[i], List.getElem?_eq_getElem hi'⟩
  obtain ⟨hp1, hp2⟩ := pairsC_get hp
  obtain ⟨hpr, hpl⟩ := hok p (List.mem_of_getElem? hp)
  rw [atD_step hp] at hw
  conv=>whnf
  refine LoadG.atF h0 ?_
  conv=>whnf
  refine IdxG.rd hh (by omega) fun b9 o9 hc9 => ?_
  conv=>whnf
  refine LoadG.atF (hc9.one (i := i * 2) (u := .string p.key) hp1) ?_
  conv=>whnf
  refine CondG.dec (fun he => ?_) (fun he => ?_)
  ·rw [if_pos he] at hw
   have e2 : atL (hs.map PairD.e) key = some p.bs := by rw [← atD_atL, hw]; rfl
   rw [e2]
   conv=>whnf
   refine BuildG.of (cs := bvs []) rfl ?_
   conv=>whnf
   intro b10
   conv=>whnf
   refine LoadG.atF h0 ?_
   conv=>whnf
   refine IdxG.rd hh (by omega) fun b8 o8 hc8 => ?_
   conv=>whnf
   refine LoadG.atG (v := p.v) ((hc8.one (i := i * 2 + 1) (u := p.v) hp2).right _) ?_
   conv=>whnf
   refine DoesG.ent (own_of_cel (n := 0) (sz := 1) rfl (by decide)) ?_
   refine app_own bytesT 97 (m := p.bs.length) (ys := bvs p.bs) (.tl (.right hpr _)) (by rw [bvs_len, Nat.mul_one]) (bvs_one _) (by simp only [maxLen]; omega) (by omega) fun q hq hql _ => ?_
   have e0 : 0 + p.bs.length = p.bs.length := Nat.zero_add _
   rw [e0] at hq hql ⊢
   conv=>whnf
   exact ⟨_, Ent.refl _, _, hq, rfl, rfl⟩
  ·rw [if_neg he] at hw
   conv=>whnf
   refine ArithG.i64' ((i + 1 : Nat) : Int) (by omega) (by omega) ?_
   conv=>whnf
   exact ⟨hs.length - (i + 1), [(0, .pointer (some ⟨t, 0, none⟩)), (1, .string key), (4, .slice none 0 0), (5, .int .i64 0), (6, .int .i64 ((i + 1 : Nat) : Int))], _, by omega, ⟨rfl, rfl, rfl, rfl, rfl, trivial⟩, Ent.refl _, i + 1, by omega, rfl, hw, rfl, rfl⟩
 ·obtain rfl : i = hs.length := by omega
  rw [List.drop_length] at hw
  have e2 : atL (hs.map PairD.e) key = none := by rw [← atD_atL, hw]; rfl
  rw [e2]
  conv=>whnf
  exact ⟨_, fun w G h => Sat.own_nil h, .slice none 0 0, .inl ⟨rfl, rfl⟩, rfl, rfl⟩
theorem sfind_method (v : Value) (w : World) : (method ((Tryz.prog).types.size + Made.depth) 58 v "Find").run Tryz.prog w = .ok (208, v) w := by kernel_rfl
theorem some_src (F : List HP) (t : Nat) (hv : Value) (hs : List PairD) (hh : RdS F hv hs.length (pairsC hs)) (hhl : hs.length ≤ 4611686018427387904) (hok : ∀ p ∈ hs, RdS F p.v p.bs.length (bvs p.bs) ∧ p.bs.length ≤ 4096) :
 SrcG Tryz.prog (cel t 59 [hv] :: F) (.iface 58 (.pointer (some ⟨t, 0, none⟩))) (refF (hs.map PairD.e) [] true) :=
 ⟨58, .pointer (some ⟨t, 0, none⟩), 208, .pointer (some ⟨t, 0, none⟩), rfl, sfind_method _, by kernel_rfl, fun key L =>
  sfind_spec (L ++ (cel t 59 [hv] :: F)) t hv hs (Cel.right (.here rfl) L) ((RdS.tl hh).right L) hhl (fun p hp => ⟨((RdS.tl (hok p hp).1).right L), (hok p hp).2⟩) key⟩
section
variable {K : List W32} (hk : K.length = 64)
include hk
theorem over_q (F : List HP) (hK : CelN F 0 0 (wvs K)) (lv : Value) (ls : List PairD) (hr : RdS F lv ls.length (pairsC ls)) (hl : ls.length ≤ 8796093022206) (hok : ∀ p ∈ ls, RdS F p.v p.bs.length (bvs p.bs) ∧ (∀ b ∈ p.bs, b < 256) ∧ mayI p.key p.bs.length = 0) :
 SpecF Tryz.prog 22 [lv] F [] (fun r L => ∃ s t c, r = .pointer (some ⟨s, 0, none⟩) ∧ TabD.wf K ls.length c ∧ (∀ k, (((getK c.vals k).map (·.2)).getD []) = (lastS (ls.map PairD.e) k).getD []) ∧
  L = stR 75 s (.iface 105 (.pointer (some ⟨t, 0, none⟩))) ⟨[], [], [], 0⟩ :: c.pieces 147 171 220 t) := by
 obtain ⟨la, lc, rfl⟩ := hr.len
 refine fun22.spec rfl ?_
 conv=>whnf
 refine CallG.pure (newTable_spec _) ?_
 rintro _ _ ⟨t, rfl, vb, q, ob, rfl⟩
 (conv=>whnf);refine .ff ?_;(conv=>whnf)
 refine LoopG.mk (fun m ev L => ∃ (i : Nat) (c : TabD), i ≤ ls.length ∧ m = ls.length - i ∧ c.wf K i ∧ (∀ k, (((getK c.vals k).map (·.2)).getD []) = (lastS ((ls.map PairD.e).take i) k).getD []) ∧
  ev = [(0, .slice la ls.length lc), (3, .pointer (some ⟨t, 0, none⟩)), (4, .int .i64 i)] ∧ L = c.pieces 147 171 220 t) ls.length
  [(0, .slice la ls.length lc), (3, .pointer (some ⟨t, 0, none⟩)), (4, .int .i64 0)] ((tab0 vb q ob).pieces 147 171 220 t) ⟨rfl, rfl, rfl, trivial⟩ (by rw [List.append_nil]; exact Ent.refl _)
  ⟨0, tab0 vb q ob, Nat.zero_le _, rfl, tab0_wf _ _ _ _ _, fun k => rfl, rfl, rfl⟩ ?_
 rintro m ev L ⟨i, c, hi, rfl, hw, hk2, rfl, rfl⟩
 conv=>whnf
 refine LenG.lit ?_
 conv=>whnf
 refine CondG.dec (fun hlt => ?_) (fun hlt => ?_)
 ·have hi' : i < ls.length := by omega
  obtain ⟨p, hp⟩ : ∃ p, ls[i]? = some p := ⟨ls[i], List.getElem?_eq_getElem hi'⟩
  obtain ⟨hp1, hp2⟩ := pairsC_get hp
  have hpm := List.mem_of_getElem? hp
  obtain ⟨hpr, hpb, hpy⟩ := hok p hpm
  conv=>whnf
  refine DrawG.mk 13 [] (c.pieces 147 171 220 t) (by rw [List.append_nil]; exact Ent.refl _) ?_
  conv=>whnf
  refine .take 0 ?_
  conv=>whnf
  refine ⟨rfl, ?_⟩
  conv=>whnf
  refine .take 1 ?_
  conv=>whnf
  refine ⟨rfl, ?_⟩
  conv=>whnf
  refine .take 2 ?_
  conv=>whnf
  refine ⟨rfl, ?_⟩
  conv=>whnf
  refine .take 3 ?_
  conv=>whnf
  refine ⟨rfl, ?_⟩
  conv=>whnf
  refine IdxG.rd hr (by omega) fun b1 o1 hc1 => ?_
  conv=>whnf
  refine .take 4 ?_
  conv=>whnf
  refine ⟨rfl, ?_⟩
  conv=>whnf
  refine .take 5 ?_
  conv=>whnf
  refine ⟨rfl, ?_⟩
  conv=>whnf
  refine LoadG.atF (hc1.one (i := i * 2) (u := .string p.key) hp1) ?_
  conv=>whnf
  refine .take 6 ?_
  conv=>whnf
  refine ⟨rfl, ?_⟩
  conv=>whnf
  refine .take 7 ?_
  conv=>whnf
  refine ⟨rfl, ?_⟩
  conv=>whnf
  refine .take 8 ?_
  conv=>whnf
  refine ⟨rfl, ?_⟩
  conv=>whnf
  refine IdxG.rd hr (by omega) fun b2 o2 hc2 => ?_
  conv=>whnf
  refine .take 9 ?_
  conv=>whnf
  refine ⟨rfl, ?_⟩
  conv=>whnf
  refine .take 10 ?_
  conv=>whnf
  refine ⟨rfl, ?_⟩
  conv=>whnf
  refine LoadG.atF (hc2.one (i := i * 2 + 1) (u := p.v) hp2) ?_
  conv=>whnf
  refine .all ?_
  conv=>whnf
  refine ⟨by decide, ?_⟩
  conv=>whnf
  refine CallG.of (rest := []) (tput_spec hk _ (.right hK _) t c i hw (by omega) p.key p.v p.bs (.right hpr _) hpb) (by rw [List.append_nil]; exact Ent.refl _) ?_
  rintro _ _ ⟨rfl, ⟨h, _⟩ | ⟨_, c', hc', rfl⟩⟩
  ·exact absurd hpy h
  conv=>whnf
  refine .take 12 ?_
  conv=>whnf
  refine ⟨rfl, ?_⟩
  conv=>whnf
  refine ⟨rfl, ?_⟩
  conv=>whnf
  refine CondG.ndec (fun h => absurd hpy h) (fun _ => ?_)
  conv=>whnf
  refine ArithG.i64' ((i + 1 : Nat) : Int) (by omega) (by omega) ?_
  conv=>whnf
  refine ⟨ls.length - (i + 1), [(0, .slice la ls.length lc), (3, .pointer (some ⟨t, 0, none⟩)), (4, .int .i64 (i + 1 : Nat))], c'.pieces 147 171 220 t, by omega, ⟨rfl, rfl, rfl, trivial⟩, by rw [List.append_nil, List.append_nil]; exact Ent.refl _, i + 1, c', by omega, rfl, hc'.wf, ?_, rfl, rfl⟩
  intro k
  have hst : (ls.map PairD.e).take (i + 1) = (ls.map PairD.e).take i ++ [(p.key, p.bs)] := by
   have hm : (ls.map PairD.e)[i]? = some (p.key, p.bs) := by rw [List.getElem?_map, hp]; rfl
   rw [List.take_add_one, hm]
   rfl
  rw [hst, lastS_app]
  by_cases hbe : p.bs = []
  ·rw [hc'.del hbe, getK_del]
   split
   ·rw [hbe]; rfl
   ·exact hk2 k
  ·obtain ⟨x, hx⟩ := hc'.put hbe
   rw [hx, getK_put]
   split
   ·rfl
   ·exact hk2 k
 ·obtain rfl : i = ls.length := by omega
  conv=>whnf
  refine CallG.of (rest := c.pieces 147 171 220 t) (pre := []) (over_h _ _ _) (Ent.refl _) ?_
  rintro _ _ ⟨s, rfl, rfl⟩
  rw [List.take_of_length_le (by rw [List.length_map]; exact Nat.le_refl _)] at hk2
  conv=>whnf
  refine CondG.ndec (fun h => absurd rfl h) (fun _ => ?_)
  conv=>whnf
  exact ⟨_, Ent.refl _, s, t, c, rfl, hw, hk2, rfl⟩
end
end Go.Proofs.YtjacolfhlfogkabGreatDoor
namespace Go.Proofs.YtjacolfhlfogkabGreatDoor
open Go Go.Sl
theorem fit_spec (F : List HP) (lv : Value) (ls : List PairD) (hr : RdS F lv ls.length (pairsC ls)) (hl : ls.length ≤ 3518437208882) (hok : ∀ p ∈ ls, RdS F p.v p.bs.length (bvs p.bs)) :
 SpecF Tryz.prog 21 [lv] F [] (fun r L => ∃ out S, SlV r out.length ∧ L = own 2 r out.length (pairsC out) :: shs S ∧ out.length ≤ ls.length ∧ out.map PairD.e = fitB [] (ls.map PairD.e) ∧ ∀ p ∈ out, ShIn S p.v (bvs p.bs)) := by
 obtain ⟨la, lc, rfl⟩ := hr.len
 refine fun21.spec rfl ?_
 conv=>whnf
 refine LoopG.mk (fun m ev L => ∃ (i : Nat) (out : List PairD) (ov : Value) (S : Shs), i ≤ ls.length ∧ m = ls.length - i ∧ SlV ov out.length ∧ out.length ≤ i ∧ (∀ p ∈ out, ShIn S p.v (bvs p.bs)) ∧
  fitB (out.map PairD.e) ((ls.map PairD.e).drop i) = fitB [] (ls.map PairD.e) ∧
  ev = [(0, .slice la ls.length lc), (2, .slice none 0 0), (3, ov), (4, .int .i64 i)] ∧ L = own 2 ov out.length (pairsC out) :: shs S) ls.length
  [(0, .slice la ls.length lc), (2, .slice none 0 0), (3, .slice none 0 0), (4, .int .i64 0)] [own 2 (.slice none 0 0) 0 (pairsC [])] ⟨rfl, rfl, rfl, rfl, trivial⟩ (fun w G hs => Sat.own_nil hs)
  ⟨0, [], .slice none 0 0, [], Nat.zero_le _, rfl, .inl ⟨rfl, rfl⟩, Nat.le_refl _, fun p hp => absurd hp (List.not_mem_nil), rfl, rfl, rfl⟩ ?_
 rintro m ev L ⟨i, out, ov, S, hi, rfl, hov, hol, hS, hw, rfl, rfl⟩
 conv=>whnf
 refine LenG.lit ?_
 conv=>whnf
 refine CondG.dec (fun hlt => ?_) (fun hlt => ?_)
 ·have hi' : i < ls.length := by omega
  obtain ⟨p, hp⟩ : ∃ p, ls[i]? = some p := ⟨ls[i], List.getElem?_eq_getElem hi'⟩
  obtain ⟨hp1, hp2⟩ := pairsC_get hp
  have hpr := hok p (List.mem_of_getElem? hp)
  have hst : fitB (out.map PairD.e) ((ls.map PairD.e).drop i) = fitB (if mayI p.key p.bs.length = 0 then putP p.key p.bs (out.map PairD.e) else out.map PairD.e) ((ls.map PairD.e).drop (i + 1)) := fitB_step (out := out.map PairD.e) (l := ls.map PairD.e) (i := i) (p := p.e) (by rw [List.getElem?_map, hp]; rfl)
  conv=>whnf
  refine DrawG.mk 12 _ [] (Ent.refl _) ?_
  conv=>whnf
  refine .take 0 ?_
  conv=>whnf
  refine ⟨rfl, ?_⟩
  conv=>whnf
  refine .take 1 ?_
  conv=>whnf
  refine ⟨rfl, ?_⟩
  conv=>whnf
  refine .take 2 ?_
  conv=>whnf
  refine ⟨rfl, ?_⟩
  conv=>whnf
  refine IdxG.rd hr (by omega) fun b1 o1 hc1 => ?_
  conv=>whnf
  refine .take 3 ?_
  conv=>whnf
  refine ⟨rfl, ?_⟩
  conv=>whnf
  refine .take 4 ?_
  conv=>whnf
  refine ⟨rfl, ?_⟩
  conv=>whnf
  refine LoadG.atF (hc1.one (i := i * 2) (u := .string p.key) hp1) ?_
  conv=>whnf
  refine .take 5 ?_
  conv=>whnf
  refine ⟨rfl, ?_⟩
  conv=>whnf
  refine .take 6 ?_
  conv=>whnf
  refine ⟨rfl, ?_⟩
  conv=>whnf
  refine .take 7 ?_
  conv=>whnf
  refine ⟨rfl, ?_⟩
  conv=>whnf
  refine IdxG.rd hr (by omega) fun b2 o2 hc2 => ?_
  conv=>whnf
  refine .take 8 ?_
  conv=>whnf
  refine ⟨rfl, ?_⟩
  conv=>whnf
  refine .take 9 ?_
  conv=>whnf
  refine ⟨rfl, ?_⟩
  conv=>whnf
  refine LoadG.atF (hc2.one (i := i * 2 + 1) (u := p.v) hp2) ?_
  conv=>whnf
  refine .all ?_
  conv=>whnf
  refine ⟨by decide, ?_⟩
  conv=>whnf
  refine CallG.pure (may7_spec _ p.key p.v p.bs.length hpr.len) ?_
  rintro _ _ ⟨rfl, rfl⟩
  conv=>whnf
  refine .take 11 ?_
  conv=>whnf
  refine ⟨rfl, ?_⟩
  conv=>whnf
  refine ⟨rfl, ?_⟩
  conv=>whnf
  refine CondG.dec (fun hm => ?_) (fun hm => ?_)
  ·conv=>whnf
   refine DrawG.mk 17 _ [] (Ent.refl _) ?_
   conv=>whnf
   refine .take 0 ?_
   conv=>whnf
   refine ⟨rfl, ?_⟩
   conv=>whnf
   refine .take 1 ?_
   conv=>whnf
   refine ⟨rfl, ?_⟩
   conv=>whnf
   refine .take 2 ?_
   conv=>whnf
   refine ⟨rfl, ?_⟩
   conv=>whnf
   refine .take 3 ?_
   conv=>whnf
   refine ⟨rfl, ?_⟩
   conv=>whnf
   refine IdxG.rd hr (by omega) fun b1 o1 hc1 => ?_
   conv=>whnf
   refine .take 4 ?_
   conv=>whnf
   refine ⟨rfl, ?_⟩
   conv=>whnf
   refine .take 5 ?_
   conv=>whnf
   refine ⟨rfl, ?_⟩
   conv=>whnf
   refine LoadG.atF (hc1.one (i := i * 2) (u := .string p.key) hp1) ?_
   conv=>whnf
   refine .take 6 ?_
   conv=>whnf
   refine ⟨rfl, ?_⟩
   conv=>whnf
   refine .take 7 ?_
   conv=>whnf
   refine ⟨rfl, ?_⟩
   conv=>whnf
   refine .take 8 ?_
   conv=>whnf
   refine ⟨rfl, ?_⟩
   conv=>whnf
   refine IdxG.rd hr (by omega) fun b2 o2 hc2 => ?_
   conv=>whnf
   refine .take 9 ?_
   conv=>whnf
   refine ⟨rfl, ?_⟩
   conv=>whnf
   refine .take 10 ?_
   conv=>whnf
   refine ⟨rfl, ?_⟩
   conv=>whnf
   refine LoadG.atF (hc2.one (i := i * 2 + 1) (u := p.v) hp2) ?_
   conv=>whnf
   refine .all ?_
   conv=>whnf
   refine ⟨by decide, ?_⟩
   conv=>whnf
   refine CallG.pure (put7_spec _ ov out (.right (.left (own_rd hov (pairsC_len out)) F) _) p.key p.v p.bs (.right (.right hpr _) _) (by omega) (fun q hq => by have h := (hS q hq).sl; rw [bvs_len] at h; exact h)) ?_
   rintro _ _ (⟨h, _⟩ | ⟨_, x, ov2, out2, hx, hov2, ho2, rfl, rfl⟩)
   ·exact absurd hm h
   conv=>whnf
   refine .take 12 ?_
   conv=>whnf
   refine ⟨rfl, ?_⟩
   conv=>whnf
   refine .take 13 ?_
   conv=>whnf
   refine ⟨rfl, ?_⟩
   conv=>whnf
   refine .take 14 ?_
   conv=>whnf
   refine ⟨rfl, ?_⟩
   conv=>whnf
   refine .take 15 ?_
   conv=>whnf
   refine ⟨rfl, ?_⟩
   conv=>whnf
   refine .take 16 ?_
   conv=>whnf
   refine ⟨rfl, ?_⟩
   conv=>whnf
   refine ⟨rfl, ?_⟩
   conv=>whnf
   refine ArithG.i64' ((i + 1 : Nat) : Int) (by omega) (by omega) ?_
   conv=>whnf
   have ho3 : out2.map PairD.e = putP p.key p.bs (out.map PairD.e) := by rw [ho2]; exact putP_map p.key x p.bs out
   have hl2 : out2.length ≤ i + 1 := by
    have h := congrArg List.length ho3
    rw [List.length_map] at h
    have h2 := putP_len p.key p.bs (out.map PairD.e)
    rw [List.length_map] at h2
    omega
   refine ⟨ls.length - (i + 1), [(0, .slice la ls.length lc), (2, .slice none 0 0), (3, ov2), (4, .int .i64 (i + 1 : Nat))], own 2 ov2 out2.length (pairsC out2) :: shs ((x, bvs p.bs) :: S), by omega, ⟨rfl, rfl, rfl, rfl, trivial⟩, ?_, i + 1, out2, ov2, (x, bvs p.bs) :: S, by omega, rfl, hov2, hl2, ?_, ?_, rfl, rfl⟩
   ·refine (Ent.sel (T := shs S) (A := [_, _, _]) (M := [_, _]) [1, 0] rfl).trans ((shC_of_own (by rw [bvs_len])).trans (Ent.perm (List.Perm.swap _ _ _)))
   ·intro q hq
    rw [ho2] at hq
    rcases withL_mem PairD.key (List.mem_filter.1 hq).1 with rfl | ⟨h, _⟩
    ·exact ⟨by rw [bvs_len]; exact hx, .inl List.mem_cons_self⟩
    ·exact (hS q h).mono fun _ h2 => List.mem_cons_of_mem _ h2
   ·rw [← hw, hst, if_pos hm, ho3]
  ·conv=>whnf
   refine ArithG.i64' ((i + 1 : Nat) : Int) (by omega) (by omega) ?_
   conv=>whnf
   refine ⟨ls.length - (i + 1), [(0, .slice la ls.length lc), (2, .slice none 0 0), (3, ov), (4, .int .i64 (i + 1 : Nat))], _, by omega, ⟨rfl, rfl, rfl, rfl, trivial⟩, Ent.refl _, i + 1, out, ov, S, by omega, rfl, hov, by omega, hS, ?_, rfl, rfl⟩
   rw [← hw, hst, if_neg hm]
 ·obtain rfl : i = ls.length := by omega
  conv=>whnf
  refine ret_here ⟨out, S, hov, rfl, hol, ?_, hS⟩
  rw [← hw, List.drop_eq_nil_of_le (by simp)]
  rfl
section
variable {K : List W32} (hk : K.length = 64)
include hk
end
end Go.Proofs.YtjacolfhlfogkabGreatDoor
