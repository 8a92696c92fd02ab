import Derived.Test.YtjacolfhlfogkabGreatDoorKa
import Derived.Test.YtjacolfhlfogkabGreatDoorKd
namespace Go.Proofs.YtjacolfhlfogkabGreatDoor
open Go Go.Sl
theorem kpick_spec (F : List HP) (c : Int) (n : Nat) (h1 : -9223372036854775808 ≤ c) (h2 : c ≤ 9223372036854775807) (hn : 0 < n) : SpecF Tryz.prog 19 [.int .i64 c, .int .i64 n] F [] (fun v L => v = .int .i64 (pickN c n) ∧ L = []) := by
 have ht := pickN_tmod (c := c) (n := n)
 refine fun19.spec rfl ?_
 conv=>whnf
 refine CondG.dec (fun h => ?_) (fun h => ?_)
 ·conv=>whnf
  refine ArithG.i64 (by omega) ?_
  conv=>whnf
  refine ArithG.i64' (-(c + 1)) (by omega) (by omega) ?_
  conv=>whnf
  refine SideG.of (by omega) ?_
  conv=>whnf
  rw [if_pos h] at ht
  rw [ht]
  exact ret_here ⟨rfl, rfl⟩
 ·conv=>whnf
  refine SideG.of (by omega) ?_
  conv=>whnf
  rw [if_neg h] at ht
  rw [ht]
  exact ret_here ⟨rfl, rfl⟩
theorem toldT_fill {e : Int} {t : TicketD} (h : t.wf) : fillL (ans1 0).cells [(0, 1, .int .i64 e), (1, 1, .int .i64 0), (2, 47, .agg ⟨t.cells⟩)] = some (AnsT.cells ⟨e, 0, t⟩) := by
 have e1 := fill_part (a := [.int .i64 e, .int .i64 0]) (m := zeroT'.cells) (m' := t.cells) (c := []) (v := .agg ⟨t.cells⟩) (ps := []) (off := 2) (n := 47) rfl rfl rfl (TicketD.cells_len h)
 rw [List.append_nil, List.append_nil] at e1
 exact e1
section
variable {find : SrcF} {hv nv : Value} {part : Bool}
theorem stepped_t (F : List HP) (s : Nat) (src : Value) (R : RSt) (x : StepT) (hx : x.wf) (hs : SrcG Tryz.prog F src find) (hn : R.steps.length + 2 ≤ 4398046511104) (hh : R.marks.length ≤ 4398046511104) :
 SpecF Tryz.prog 9 [.pointer (some ⟨s, 0, none⟩), .agg ⟨x.cells⟩] F [stR 75 s src R] (fun r L => r = .agg ⟨(stepTk find R x).1.cells⟩ ∧ L = [stR 75 s src (stepTk find R x).2]) := by
 have h47 : x.t.cells.length = 47 := TicketD.cells_len hx.t
 have h20 : (bvs x.t.snd).length = 20 := by rw [bvs_len, hx.t.snd]
 obtain ⟨k, hk⟩ : ∃ k, k = pickN x.what 14 := ⟨_, rfl⟩
 have hk14 : k < 14 := by rw [hk]; exact pickN_lt _ (by decide)
 refine fun9.spec rfl ?_
 conv=>whnf
 intro b3
 conv=>whnf
 intro b4
 conv=>whnf
 refine LoadG.at (v := .int .i64 x.what) (.tl (.here rfl)) ?_
 conv=>whnf
 refine CallG.pure (kpick_spec _ x.what 14 hx.w1 hx.w2 (by decide)) ?_
 rintro _ _ ⟨rfl, rfl⟩
 rw [← hk]
 replace hk := hk.symm
 conv=>whnf
 refine CondG.dec (fun e0 => ?_) (fun e0 => ?_)
 ·(conv=>whnf);refine .tt ?_;(conv=>whnf)
  have es : stepTk find R x = ansN (openQ find R x.t) := by
   unfold stepTk
   rw [hk, show k = 0 by omega]
   rfl
  refine LoadNG.at (vs := x.t.cells) h47 (.tl (.here (StepT.t_at x))) ?_
  conv=>whnf
  refine CallG.of (pre := [stR 75 s src R]) (open_q _ s src R x.t hx.t (hs.left _) (by omega)) (Ent.front 2 rfl) ?_
  rintro _ _ ⟨rfl, rfl⟩
  conv=>whnf
  refine BuildG.of rfl ?_
  conv=>whnf
  refine BuildG.of (cs := (ansN (openQ find R x.t)).1.cells) rfl ?_
  conv=>whnf
  refine StoreG.at (by rw [AnsT.cells_len zeroT_wf]) (Upd.tl (Upd.whole (by rw [AnsT.cells_len zeroT_wf]; rfl) (AnsT.cells_one _))) ?_
  conv=>whnf
  refine LoadNG.at (vs := ((ansN (openQ find R x.t)).1 : AnsT).cells) (by rw [AnsT.cells_len zeroT_wf]) (.tl .all) ?_
  conv=>whnf
  rw [es]
  exact ⟨_, Ent.sel (T := []) (A := [_, _, _]) [0] rfl, rfl, rfl⟩
 conv=>whnf
 refine CondG.dec (fun e1 => ?_) (fun e1 => ?_)
 ·(conv=>whnf);refine .tt ?_;(conv=>whnf)
  have es : stepTk find R x = ansN (openQ find R x.t) := by
   unfold stepTk
   rw [hk, show k = 1 by omega]
   rfl
  refine LoadNG.at (vs := x.t.cells) h47 (.tl (.here (StepT.t_at x))) ?_
  conv=>whnf
  refine CallG.of (pre := [stR 75 s src R]) (open_q _ s src R x.t hx.t (hs.left _) (by omega)) (Ent.front 2 rfl) ?_
  rintro _ _ ⟨rfl, rfl⟩
  conv=>whnf
  refine BuildG.of rfl ?_
  conv=>whnf
  refine BuildG.of (cs := (ansN (openQ find R x.t)).1.cells) rfl ?_
  conv=>whnf
  refine StoreG.at (by rw [AnsT.cells_len zeroT_wf]) (Upd.tl (Upd.whole (by rw [AnsT.cells_len zeroT_wf]; rfl) (AnsT.cells_one _))) ?_
  conv=>whnf
  refine LoadNG.at (vs := ((ansN (openQ find R x.t)).1 : AnsT).cells) (by rw [AnsT.cells_len zeroT_wf]) (.tl .all) ?_
  conv=>whnf
  rw [es]
  exact ⟨_, Ent.sel (T := []) (A := [_, _, _]) [0] rfl, rfl, rfl⟩
 conv=>whnf
 refine CondG.dec (fun e2 => ?_) (fun e2 => ?_)
 ·conv=>whnf
  have es : stepTk find R x = ansN (openQ find R x.t) := by
   unfold stepTk
   rw [hk, show k = 2 by omega]
   rfl
  refine LoadNG.at (vs := x.t.cells) h47 (.tl (.here (StepT.t_at x))) ?_
  conv=>whnf
  refine CallG.of (pre := [stR 75 s src R]) (open_q _ s src R x.t hx.t (hs.left _) (by omega)) (Ent.front 2 rfl) ?_
  rintro _ _ ⟨rfl, rfl⟩
  conv=>whnf
  refine BuildG.of rfl ?_
  conv=>whnf
  refine BuildG.of (cs := (ansN (openQ find R x.t)).1.cells) rfl ?_
  conv=>whnf
  refine StoreG.at (by rw [AnsT.cells_len zeroT_wf]) (Upd.tl (Upd.whole (by rw [AnsT.cells_len zeroT_wf]; rfl) (AnsT.cells_one _))) ?_
  conv=>whnf
  refine LoadNG.at (vs := ((ansN (openQ find R x.t)).1 : AnsT).cells) (by rw [AnsT.cells_len zeroT_wf]) (.tl .all) ?_
  conv=>whnf
  rw [es]
  exact ⟨_, Ent.sel (T := []) (A := [_, _, _]) [0] rfl, rfl, rfl⟩
 conv=>whnf
 refine CondG.dec (fun e3 => ?_) (fun e3 => ?_)
 ·conv=>whnf
  have es : stepTk find R x = ansF (tfindQ find R x.num) := by
   unfold stepTk
   rw [hk, show k = 3 by omega]
   rfl
  have hw : (tfindQ find R x.num).1.1.wf := tfindQ_wf find R _
  have hw47 := TicketD.cells_len hw
  refine LoadG.at (v := .int .i64 x.num) (.tl (.here rfl)) ?_
  conv=>whnf
  refine CallG.of (pre := [stR 75 s src R]) (tfind_q _ s src R x.num (hs.left _)) (Ent.front 2 rfl) ?_
  rintro _ _ ⟨rfl, rfl⟩
  conv=>whnf
  intro b7
  conv=>whnf
  refine StoreG.at hw47 (Upd.whole (by rw [hw47]; rfl) (TicketD.cells_one _)) ?_
  conv=>whnf
  refine LoadNG.at (vs := (tfindQ find R x.num).1.1.cells) hw47 .all ?_
  conv=>whnf
  refine BuildG.of (cs := (ansF (tfindQ find R x.num)).1.cells) (toldT_fill hw) ?_
  conv=>whnf
  refine StoreG.at (by rw [AnsT.cells_len hw]) (Upd.tl (Upd.tl (Upd.whole (by rw [AnsT.cells_len hw]; rfl) (AnsT.cells_one _)))) ?_
  conv=>whnf
  refine LoadNG.at (vs := ((ansF (tfindQ find R x.num)).1 : AnsT).cells) (by rw [AnsT.cells_len hw]) (.tl (.tl .all)) ?_
  conv=>whnf
  rw [es]
  exact ⟨_, Ent.sel (T := []) (A := [_, _, _, _]) [1] rfl, rfl, rfl⟩
 conv=>whnf
 refine CondG.dec (fun e4 => ?_) (fun e4 => ?_)
 ·conv=>whnf
  have es : stepTk find R x = ansN (madeQ find R) := by
   unfold stepTk
   rw [hk, show k = 4 by omega]
   rfl
  refine CallG.of (pre := [stR 75 s src R]) (made_q _ s src R (hs.left _)) (Ent.front 2 rfl) ?_
  rintro _ _ ⟨rfl, rfl⟩
  conv=>whnf
  refine BuildG.of rfl ?_
  conv=>whnf
  refine BuildG.of (cs := (ansN (madeQ find R)).1.cells) rfl ?_
  conv=>whnf
  refine StoreG.at (by rw [AnsT.cells_len zeroT_wf]) (Upd.tl (Upd.whole (by rw [AnsT.cells_len zeroT_wf]; rfl) (AnsT.cells_one _))) ?_
  conv=>whnf
  refine LoadNG.at (vs := ((ansN (madeQ find R)).1 : AnsT).cells) (by rw [AnsT.cells_len zeroT_wf]) (.tl .all) ?_
  conv=>whnf
  rw [es]
  exact ⟨_, Ent.sel (T := []) (A := [_, _, _]) [0] rfl, rfl, rfl⟩
 conv=>whnf
 refine CondG.dec (fun e5 => ?_) (fun e5 => ?_)
 ·(conv=>whnf);refine .tt ?_;(conv=>whnf)
  have es : stepTk find R x = ansI (retryQ find R x.num) := by
   unfold stepTk
   rw [hk, show k = 5 by omega]
   rfl
  refine LoadG.at (v := .int .i64 x.num) (.tl (.here rfl)) ?_
  conv=>whnf
  refine CallG.of (pre := [stR 75 s src R]) (retry_q _ s src R x.num (hs.left _) (by omega)) (Ent.front 2 rfl) ?_
  rintro _ _ ⟨rfl, rfl⟩
  conv=>whnf
  refine BuildG.of (cs := (ansI (retryQ find R x.num)).1.cells) rfl ?_
  conv=>whnf
  refine StoreG.at (by rw [AnsT.cells_len zeroT_wf]) (Upd.tl (Upd.whole (by rw [AnsT.cells_len zeroT_wf]; rfl) (AnsT.cells_one _))) ?_
  conv=>whnf
  refine LoadNG.at (vs := ((ansI (retryQ find R x.num)).1 : AnsT).cells) (by rw [AnsT.cells_len zeroT_wf]) (.tl .all) ?_
  conv=>whnf
  rw [es]
  exact ⟨_, Ent.sel (T := []) (A := [_, _, _]) [0] rfl, rfl, rfl⟩
 conv=>whnf
 refine CondG.dec (fun e6 => ?_) (fun e6 => ?_)
 ·conv=>whnf
  have es : stepTk find R x = ansI (retryQ find R x.num) := by
   unfold stepTk
   rw [hk, show k = 6 by omega]
   rfl
  refine LoadG.at (v := .int .i64 x.num) (.tl (.here rfl)) ?_
  conv=>whnf
  refine CallG.of (pre := [stR 75 s src R]) (retry_q _ s src R x.num (hs.left _) (by omega)) (Ent.front 2 rfl) ?_
  rintro _ _ ⟨rfl, rfl⟩
  conv=>whnf
  refine BuildG.of (cs := (ansI (retryQ find R x.num)).1.cells) rfl ?_
  conv=>whnf
  refine StoreG.at (by rw [AnsT.cells_len zeroT_wf]) (Upd.tl (Upd.whole (by rw [AnsT.cells_len zeroT_wf]; rfl) (AnsT.cells_one _))) ?_
  conv=>whnf
  refine LoadNG.at (vs := ((ansI (retryQ find R x.num)).1 : AnsT).cells) (by rw [AnsT.cells_len zeroT_wf]) (.tl .all) ?_
  conv=>whnf
  rw [es]
  exact ⟨_, Ent.sel (T := []) (A := [_, _, _]) [0] rfl, rfl, rfl⟩
 conv=>whnf
 refine CondG.dec (fun e7 => ?_) (fun e7 => ?_)
 ·(conv=>whnf);refine .tt ?_;(conv=>whnf)
  have es : stepTk find R x = ansF (cancelQ find R x.num x.t.snd) := by
   unfold stepTk
   rw [hk, show k = 7 by omega]
   rfl
  have hw : (cancelQ find R x.num x.t.snd).1.1.wf := cancelQ_wf find R _ _
  have hw47 := TicketD.cells_len hw
  refine LoadG.at (v := .int .i64 x.num) (.tl (.here rfl)) ?_
  conv=>whnf
  refine LoadNG.at (vs := bvs x.t.snd) h20 (.tl (.here (StepT.snd_at x))) ?_
  conv=>whnf
  refine CallG.of (pre := [stR 75 s src R]) (cancel_q _ s src R x.num x.t.snd hx.t.snd (hs.left _) (by omega)) (Ent.front 2 rfl) ?_
  rintro _ _ ⟨rfl, rfl⟩
  conv=>whnf
  intro b7
  conv=>whnf
  refine StoreG.at hw47 (Upd.whole (by rw [hw47]; rfl) (TicketD.cells_one _)) ?_
  conv=>whnf
  refine LoadNG.at (vs := (cancelQ find R x.num x.t.snd).1.1.cells) hw47 .all ?_
  conv=>whnf
  refine BuildG.of (cs := (ansF (cancelQ find R x.num x.t.snd)).1.cells) (toldT_fill hw) ?_
  conv=>whnf
  refine StoreG.at (by rw [AnsT.cells_len hw]) (Upd.tl (Upd.tl (Upd.whole (by rw [AnsT.cells_len hw]; rfl) (AnsT.cells_one _)))) ?_
  conv=>whnf
  refine LoadNG.at (vs := ((ansF (cancelQ find R x.num x.t.snd)).1 : AnsT).cells) (by rw [AnsT.cells_len hw]) (.tl (.tl .all)) ?_
  conv=>whnf
  rw [es]
  exact ⟨_, Ent.sel (T := []) (A := [_, _, _, _]) [1] rfl, rfl, rfl⟩
 conv=>whnf
 refine CondG.dec (fun e8 => ?_) (fun e8 => ?_)
 ·conv=>whnf
  have es : stepTk find R x = ansF (cancelQ find R x.num x.t.snd) := by
   unfold stepTk
   rw [hk, show k = 8 by omega]
   rfl
  have hw : (cancelQ find R x.num x.t.snd).1.1.wf := cancelQ_wf find R _ _
  have hw47 := TicketD.cells_len hw
  refine LoadG.at (v := .int .i64 x.num) (.tl (.here rfl)) ?_
  conv=>whnf
  refine LoadNG.at (vs := bvs x.t.snd) h20 (.tl (.here (StepT.snd_at x))) ?_
  conv=>whnf
  refine CallG.of (pre := [stR 75 s src R]) (cancel_q _ s src R x.num x.t.snd hx.t.snd (hs.left _) (by omega)) (Ent.front 2 rfl) ?_
  rintro _ _ ⟨rfl, rfl⟩
  conv=>whnf
  intro b7
  conv=>whnf
  refine StoreG.at hw47 (Upd.whole (by rw [hw47]; rfl) (TicketD.cells_one _)) ?_
  conv=>whnf
  refine LoadNG.at (vs := (cancelQ find R x.num x.t.snd).1.1.cells) hw47 .all ?_
  conv=>whnf
  refine BuildG.of (cs := (ansF (cancelQ find R x.num x.t.snd)).1.cells) (toldT_fill hw) ?_
  conv=>whnf
  refine StoreG.at (by rw [AnsT.cells_len hw]) (Upd.tl (Upd.tl (Upd.whole (by rw [AnsT.cells_len hw]; rfl) (AnsT.cells_one _)))) ?_
  conv=>whnf
  refine LoadNG.at (vs := ((ansF (cancelQ find R x.num x.t.snd)).1 : AnsT).cells) (by rw [AnsT.cells_len hw]) (.tl (.tl .all)) ?_
  conv=>whnf
  rw [es]
  exact ⟨_, Ent.sel (T := []) (A := [_, _, _, _]) [1] rfl, rfl, rfl⟩
 conv=>whnf
 refine CondG.dec (fun e9 => ?_) (fun e9 => ?_)
 ·conv=>whnf
  have es : stepTk find R x = ansI (registerQ find R x.t.tok) := by
   unfold stepTk
   rw [hk, show k = 9 by omega]
   rfl
  refine LoadG.at (v := .int .i64 x.t.tok) (.tl (.here (StepT.tok_at hx))) ?_
  conv=>whnf
  refine CallG.of (pre := [stR 75 s src R]) (register_q _ s src R x.t.tok (hs.left _) (by omega)) (Ent.front 2 rfl) ?_
  rintro _ _ ⟨rfl, rfl⟩
  conv=>whnf
  refine BuildG.of (cs := (ansI (registerQ find R x.t.tok)).1.cells) rfl ?_
  conv=>whnf
  refine StoreG.at (by rw [AnsT.cells_len zeroT_wf]) (Upd.tl (Upd.whole (by rw [AnsT.cells_len zeroT_wf]; rfl) (AnsT.cells_one _))) ?_
  conv=>whnf
  refine LoadNG.at (vs := ((ansI (registerQ find R x.t.tok)).1 : AnsT).cells) (by rw [AnsT.cells_len zeroT_wf]) (.tl .all) ?_
  conv=>whnf
  rw [es]
  exact ⟨_, Ent.sel (T := []) (A := [_, _, _]) [0] rfl, rfl, rfl⟩
 conv=>whnf
 refine CondG.dec (fun e10 => ?_) (fun e10 => ?_)
 ·conv=>whnf
  have es : stepTk find R x = ansI (pauseQ find R x.t.tok) := by
   unfold stepTk
   rw [hk, show k = 10 by omega]
   rfl
  refine LoadG.at (v := .int .i64 x.t.tok) (.tl (.here (StepT.tok_at hx))) ?_
  conv=>whnf
  refine CallG.of (pre := [stR 75 s src R]) (pause_q _ s src R x.t.tok (hs.left _) (by omega)) (Ent.front 2 rfl) ?_
  rintro _ _ ⟨rfl, rfl⟩
  conv=>whnf
  refine BuildG.of (cs := (ansI (pauseQ find R x.t.tok)).1.cells) rfl ?_
  conv=>whnf
  refine StoreG.at (by rw [AnsT.cells_len zeroT_wf]) (Upd.tl (Upd.whole (by rw [AnsT.cells_len zeroT_wf]; rfl) (AnsT.cells_one _))) ?_
  conv=>whnf
  refine LoadNG.at (vs := ((ansI (pauseQ find R x.t.tok)).1 : AnsT).cells) (by rw [AnsT.cells_len zeroT_wf]) (.tl .all) ?_
  conv=>whnf
  rw [es]
  exact ⟨_, Ent.sel (T := []) (A := [_, _, _]) [0] rfl, rfl, rfl⟩
 conv=>whnf
 refine CondG.dec (fun e11 => ?_) (fun e11 => ?_)
 ·conv=>whnf
  have es : stepTk find R x = ansI (resumeQ find R x.t.tok) := by
   unfold stepTk
   rw [hk, show k = 11 by omega]
   rfl
  refine LoadG.at (v := .int .i64 x.t.tok) (.tl (.here (StepT.tok_at hx))) ?_
  conv=>whnf
  refine CallG.of (pre := [stR 75 s src R]) (resume_q _ s src R x.t.tok (hs.left _) (by omega)) (Ent.front 2 rfl) ?_
  rintro _ _ ⟨rfl, rfl⟩
  conv=>whnf
  refine BuildG.of (cs := (ansI (resumeQ find R x.t.tok)).1.cells) rfl ?_
  conv=>whnf
  refine StoreG.at (by rw [AnsT.cells_len zeroT_wf]) (Upd.tl (Upd.whole (by rw [AnsT.cells_len zeroT_wf]; rfl) (AnsT.cells_one _))) ?_
  conv=>whnf
  refine LoadNG.at (vs := ((ansI (resumeQ find R x.t.tok)).1 : AnsT).cells) (by rw [AnsT.cells_len zeroT_wf]) (.tl .all) ?_
  conv=>whnf
  rw [es]
  exact ⟨_, Ent.sel (T := []) (A := [_, _, _]) [0] rfl, rfl, rfl⟩
 conv=>whnf
 refine CondG.dec (fun e12 => ?_) (fun e12 => ?_)
 ·conv=>whnf
  have es : stepTk find R x = (⟨0, (markQ R).1, zeroT'⟩, (markQ R).2) := by
   unfold stepTk
   rw [hk, show k = 12 by omega]
   rfl
  refine CallG.of (pre := [stR 75 s src R]) (mark_h _ s src (by omega) hh) (Ent.front 2 rfl) ?_
  rintro _ _ ⟨rfl, rfl⟩
  conv=>whnf
  refine BuildG.of (cs := (⟨0, (markQ R).1, zeroT'⟩ : AnsT).cells) rfl ?_
  conv=>whnf
  refine StoreG.at (by rw [AnsT.cells_len zeroT_wf]) (Upd.tl (Upd.whole (by rw [AnsT.cells_len zeroT_wf]; rfl) (AnsT.cells_one _))) ?_
  conv=>whnf
  refine LoadNG.at (vs := (⟨0, (markQ R).1, zeroT'⟩ : AnsT).cells) (by rw [AnsT.cells_len zeroT_wf]) (.tl .all) ?_
  conv=>whnf
  rw [es]
  exact ⟨_, Ent.sel (T := []) (A := [_, _, _]) [0] rfl, rfl, rfl⟩
 conv=>whnf
 have es : stepTk find R x = ansI (backQ R x.num) := by
  unfold stepTk
  rw [hk, show k = 13 by omega]
  rfl
 refine LoadG.at (v := .int .i64 x.num) (.tl (.here rfl)) ?_
 conv=>whnf
 refine CallG.of (pre := [stR 75 s src R]) (back_h _ s src (by omega) hh x.num hx.n1 hx.n2) (Ent.front 2 rfl) ?_
 rintro _ _ ⟨rfl, rfl⟩
 conv=>whnf
 refine BuildG.of (cs := (ansI (backQ R x.num)).1.cells) rfl ?_
 conv=>whnf
 refine StoreG.at (by rw [AnsT.cells_len zeroT_wf]) (Upd.tl (Upd.whole (by rw [AnsT.cells_len zeroT_wf]; rfl) (AnsT.cells_one _))) ?_
 conv=>whnf
 refine LoadNG.at (vs := ((ansI (backQ R x.num)).1 : AnsT).cells) (by rw [AnsT.cells_len zeroT_wf]) (.tl .all) ?_
 conv=>whnf
 rw [es]
 exact ⟨_, Ent.sel (T := []) (A := [_, _, _]) [0] rfl, rfl, rfl⟩
theorem wanted_t (F : List HP) (s : Nat) (R : RSt) (x : StepT) (hx : x.wf) (hd : DocF F hv nv part find) (hl : Lim R 7) (hh : R.marks.length ≤ 4398046511104) :
 SpecF Tryz.prog 10 [.pointer (some ⟨s, 0, none⟩), .agg ⟨x.cells⟩] F [refR 83 s hv part nv R] (fun r L => r = .agg ⟨(stepTk find R x).1.cells⟩ ∧ L = [refR 83 s hv part nv (stepTk find R x).2]) := by
 have hlt := hl.told
 have hls := hl.steps
 have h47 : x.t.cells.length = 47 := TicketD.cells_len hx.t
 have h20 : (bvs x.t.snd).length = 20 := by rw [bvs_len, hx.t.snd]
 obtain ⟨k, hk⟩ : ∃ k, k = pickN x.what 14 := ⟨_, rfl⟩
 have hk14 : k < 14 := by rw [hk]; exact pickN_lt _ (by decide)
 refine fun10.spec rfl ?_
 conv=>whnf
 intro b3
 conv=>whnf
 intro b4
 conv=>whnf
 refine LoadG.at (v := .int .i64 x.what) (.tl (.here rfl)) ?_
 conv=>whnf
 refine CallG.pure (kpick_spec _ x.what 14 hx.w1 hx.w2 (by decide)) ?_
 rintro _ _ ⟨rfl, rfl⟩
 rw [← hk]
 replace hk := hk.symm
 conv=>whnf
 refine CondG.dec (fun e0 => ?_) (fun e0 => ?_)
 ·(conv=>whnf);refine .tt ?_;(conv=>whnf)
  have es : stepTk find R x = ansN (openQ find R x.t) := by
   unfold stepTk
   rw [hk, show k = 0 by omega]
   rfl
  refine LoadNG.at (vs := x.t.cells) h47 (.tl (.here (StepT.t_at x))) ?_
  conv=>whnf
  refine CallG.of (pre := [refR 83 s hv part nv R]) (open9_q _ s R x.t hx.t (value_bytes hx) hx.amt (hd.left _) (hl.mono (by decide))) (Ent.front 2 rfl) ?_
  rintro _ _ ⟨rfl, rfl⟩
  conv=>whnf
  refine BuildG.of rfl ?_
  conv=>whnf
  refine BuildG.of (cs := (ansN (openQ find R x.t)).1.cells) rfl ?_
  conv=>whnf
  refine StoreG.at (by rw [AnsT.cells_len zeroT_wf]) (Upd.tl (Upd.whole (by rw [AnsT.cells_len zeroT_wf]; rfl) (AnsT.cells_one _))) ?_
  conv=>whnf
  refine LoadNG.at (vs := ((ansN (openQ find R x.t)).1 : AnsT).cells) (by rw [AnsT.cells_len zeroT_wf]) (.tl .all) ?_
  conv=>whnf
  rw [es]
  exact ⟨_, Ent.sel (T := []) (A := [_, _, _]) [0] rfl, rfl, rfl⟩
 conv=>whnf
 refine CondG.dec (fun e1 => ?_) (fun e1 => ?_)
 ·(conv=>whnf);refine .tt ?_;(conv=>whnf)
  have es : stepTk find R x = ansN (openQ find R x.t) := by
   unfold stepTk
   rw [hk, show k = 1 by omega]
   rfl
  refine LoadNG.at (vs := x.t.cells) h47 (.tl (.here (StepT.t_at x))) ?_
  conv=>whnf
  refine CallG.of (pre := [refR 83 s hv part nv R]) (open9_q _ s R x.t hx.t (value_bytes hx) hx.amt (hd.left _) (hl.mono (by decide))) (Ent.front 2 rfl) ?_
  rintro _ _ ⟨rfl, rfl⟩
  conv=>whnf
  refine BuildG.of rfl ?_
  conv=>whnf
  refine BuildG.of (cs := (ansN (openQ find R x.t)).1.cells) rfl ?_
  conv=>whnf
  refine StoreG.at (by rw [AnsT.cells_len zeroT_wf]) (Upd.tl (Upd.whole (by rw [AnsT.cells_len zeroT_wf]; rfl) (AnsT.cells_one _))) ?_
  conv=>whnf
  refine LoadNG.at (vs := ((ansN (openQ find R x.t)).1 : AnsT).cells) (by rw [AnsT.cells_len zeroT_wf]) (.tl .all) ?_
  conv=>whnf
  rw [es]
  exact ⟨_, Ent.sel (T := []) (A := [_, _, _]) [0] rfl, rfl, rfl⟩
 conv=>whnf
 refine CondG.dec (fun e2 => ?_) (fun e2 => ?_)
 ·conv=>whnf
  have es : stepTk find R x = ansN (openQ find R x.t) := by
   unfold stepTk
   rw [hk, show k = 2 by omega]
   rfl
  refine LoadNG.at (vs := x.t.cells) h47 (.tl (.here (StepT.t_at x))) ?_
  conv=>whnf
  refine CallG.of (pre := [refR 83 s hv part nv R]) (open9_q _ s R x.t hx.t (value_bytes hx) hx.amt (hd.left _) (hl.mono (by decide))) (Ent.front 2 rfl) ?_
  rintro _ _ ⟨rfl, rfl⟩
  conv=>whnf
  refine BuildG.of rfl ?_
  conv=>whnf
  refine BuildG.of (cs := (ansN (openQ find R x.t)).1.cells) rfl ?_
  conv=>whnf
  refine StoreG.at (by rw [AnsT.cells_len zeroT_wf]) (Upd.tl (Upd.whole (by rw [AnsT.cells_len zeroT_wf]; rfl) (AnsT.cells_one _))) ?_
  conv=>whnf
  refine LoadNG.at (vs := ((ansN (openQ find R x.t)).1 : AnsT).cells) (by rw [AnsT.cells_len zeroT_wf]) (.tl .all) ?_
  conv=>whnf
  rw [es]
  exact ⟨_, Ent.sel (T := []) (A := [_, _, _]) [0] rfl, rfl, rfl⟩
 conv=>whnf
 refine CondG.dec (fun e3 => ?_) (fun e3 => ?_)
 ·conv=>whnf
  have es : stepTk find R x = ansF (tfindQ find R x.num) := by
   unfold stepTk
   rw [hk, show k = 3 by omega]
   rfl
  have hw : (tfindQ find R x.num).1.1.wf := tfindQ_wf find R _
  have hw47 := TicketD.cells_len hw
  refine LoadG.at (v := .int .i64 x.num) (.tl (.here rfl)) ?_
  conv=>whnf
  refine CallG.of (pre := [refR 83 s hv part nv R]) (find9_q _ s R x.num (hd.left _) (hl.mono (by decide))) (Ent.front 2 rfl) ?_
  rintro _ _ ⟨rfl, rfl⟩
  conv=>whnf
  intro b7
  conv=>whnf
  refine StoreG.at hw47 (Upd.whole (by rw [hw47]; rfl) (TicketD.cells_one _)) ?_
  conv=>whnf
  refine LoadNG.at (vs := (tfindQ find R x.num).1.1.cells) hw47 .all ?_
  conv=>whnf
  refine BuildG.of (cs := (ansF (tfindQ find R x.num)).1.cells) (toldT_fill hw) ?_
  conv=>whnf
  refine StoreG.at (by rw [AnsT.cells_len hw]) (Upd.tl (Upd.tl (Upd.whole (by rw [AnsT.cells_len hw]; rfl) (AnsT.cells_one _)))) ?_
  conv=>whnf
  refine LoadNG.at (vs := ((ansF (tfindQ find R x.num)).1 : AnsT).cells) (by rw [AnsT.cells_len hw]) (.tl (.tl .all)) ?_
  conv=>whnf
  rw [es]
  exact ⟨_, Ent.sel (T := []) (A := [_, _, _, _]) [1] rfl, rfl, rfl⟩
 conv=>whnf
 refine CondG.dec (fun e4 => ?_) (fun e4 => ?_)
 ·conv=>whnf
  have es : stepTk find R x = ansN (madeQ find R) := by
   unfold stepTk
   rw [hk, show k = 4 by omega]
   rfl
  refine CallG.of (pre := [refR 83 s hv part nv R]) (made9_q _ s R (hd.left _) (hl.mono (by decide))) (Ent.front 2 rfl) ?_
  rintro _ _ ⟨rfl, rfl⟩
  conv=>whnf
  refine BuildG.of rfl ?_
  conv=>whnf
  refine BuildG.of (cs := (ansN (madeQ find R)).1.cells) rfl ?_
  conv=>whnf
  refine StoreG.at (by rw [AnsT.cells_len zeroT_wf]) (Upd.tl (Upd.whole (by rw [AnsT.cells_len zeroT_wf]; rfl) (AnsT.cells_one _))) ?_
  conv=>whnf
  refine LoadNG.at (vs := ((ansN (madeQ find R)).1 : AnsT).cells) (by rw [AnsT.cells_len zeroT_wf]) (.tl .all) ?_
  conv=>whnf
  rw [es]
  exact ⟨_, Ent.sel (T := []) (A := [_, _, _]) [0] rfl, rfl, rfl⟩
 conv=>whnf
 refine CondG.dec (fun e5 => ?_) (fun e5 => ?_)
 ·(conv=>whnf);refine .tt ?_;(conv=>whnf)
  have es : stepTk find R x = ansI (retryQ find R x.num) := by
   unfold stepTk
   rw [hk, show k = 5 by omega]
   rfl
  refine LoadG.at (v := .int .i64 x.num) (.tl (.here rfl)) ?_
  conv=>whnf
  refine CallG.of (pre := [refR 83 s hv part nv R]) (retry9_q _ s R x.num (hd.left _) (hl.mono (by decide))) (Ent.front 2 rfl) ?_
  rintro _ _ ⟨rfl, rfl⟩
  conv=>whnf
  refine BuildG.of (cs := (ansI (retryQ find R x.num)).1.cells) rfl ?_
  conv=>whnf
  refine StoreG.at (by rw [AnsT.cells_len zeroT_wf]) (Upd.tl (Upd.whole (by rw [AnsT.cells_len zeroT_wf]; rfl) (AnsT.cells_one _))) ?_
  conv=>whnf
  refine LoadNG.at (vs := ((ansI (retryQ find R x.num)).1 : AnsT).cells) (by rw [AnsT.cells_len zeroT_wf]) (.tl .all) ?_
  conv=>whnf
  rw [es]
  exact ⟨_, Ent.sel (T := []) (A := [_, _, _]) [0] rfl, rfl, rfl⟩
 conv=>whnf
 refine CondG.dec (fun e6 => ?_) (fun e6 => ?_)
 ·conv=>whnf
  have es : stepTk find R x = ansI (retryQ find R x.num) := by
   unfold stepTk
   rw [hk, show k = 6 by omega]
   rfl
  refine LoadG.at (v := .int .i64 x.num) (.tl (.here rfl)) ?_
  conv=>whnf
  refine CallG.of (pre := [refR 83 s hv part nv R]) (retry9_q _ s R x.num (hd.left _) (hl.mono (by decide))) (Ent.front 2 rfl) ?_
  rintro _ _ ⟨rfl, rfl⟩
  conv=>whnf
  refine BuildG.of (cs := (ansI (retryQ find R x.num)).1.cells) rfl ?_
  conv=>whnf
  refine StoreG.at (by rw [AnsT.cells_len zeroT_wf]) (Upd.tl (Upd.whole (by rw [AnsT.cells_len zeroT_wf]; rfl) (AnsT.cells_one _))) ?_
  conv=>whnf
  refine LoadNG.at (vs := ((ansI (retryQ find R x.num)).1 : AnsT).cells) (by rw [AnsT.cells_len zeroT_wf]) (.tl .all) ?_
  conv=>whnf
  rw [es]
  exact ⟨_, Ent.sel (T := []) (A := [_, _, _]) [0] rfl, rfl, rfl⟩
 conv=>whnf
 refine CondG.dec (fun e7 => ?_) (fun e7 => ?_)
 ·(conv=>whnf);refine .tt ?_;(conv=>whnf)
  have es : stepTk find R x = ansF (cancelQ find R x.num x.t.snd) := by
   unfold stepTk
   rw [hk, show k = 7 by omega]
   rfl
  have hw : (cancelQ find R x.num x.t.snd).1.1.wf := cancelQ_wf find R _ _
  have hw47 := TicketD.cells_len hw
  refine LoadG.at (v := .int .i64 x.num) (.tl (.here rfl)) ?_
  conv=>whnf
  refine LoadNG.at (vs := bvs x.t.snd) h20 (.tl (.here (StepT.snd_at x))) ?_
  conv=>whnf
  refine CallG.of (pre := [refR 83 s hv part nv R]) (cancel9_q _ s R x.num x.t.snd hx.t.snd (hd.left _) (hl.mono (by decide))) (Ent.front 2 rfl) ?_
  rintro _ _ ⟨rfl, rfl⟩
  conv=>whnf
  intro b7
  conv=>whnf
  refine StoreG.at hw47 (Upd.whole (by rw [hw47]; rfl) (TicketD.cells_one _)) ?_
  conv=>whnf
  refine LoadNG.at (vs := (cancelQ find R x.num x.t.snd).1.1.cells) hw47 .all ?_
  conv=>whnf
  refine BuildG.of (cs := (ansF (cancelQ find R x.num x.t.snd)).1.cells) (toldT_fill hw) ?_
  conv=>whnf
  refine StoreG.at (by rw [AnsT.cells_len hw]) (Upd.tl (Upd.tl (Upd.whole (by rw [AnsT.cells_len hw]; rfl) (AnsT.cells_one _)))) ?_
  conv=>whnf
  refine LoadNG.at (vs := ((ansF (cancelQ find R x.num x.t.snd)).1 : AnsT).cells) (by rw [AnsT.cells_len hw]) (.tl (.tl .all)) ?_
  conv=>whnf
  rw [es]
  exact ⟨_, Ent.sel (T := []) (A := [_, _, _, _]) [1] rfl, rfl, rfl⟩
 conv=>whnf
 refine CondG.dec (fun e8 => ?_) (fun e8 => ?_)
 ·conv=>whnf
  have es : stepTk find R x = ansF (cancelQ find R x.num x.t.snd) := by
   unfold stepTk
   rw [hk, show k = 8 by omega]
   rfl
  have hw : (cancelQ find R x.num x.t.snd).1.1.wf := cancelQ_wf find R _ _
  have hw47 := TicketD.cells_len hw
  refine LoadG.at (v := .int .i64 x.num) (.tl (.here rfl)) ?_
  conv=>whnf
  refine LoadNG.at (vs := bvs x.t.snd) h20 (.tl (.here (StepT.snd_at x))) ?_
  conv=>whnf
  refine CallG.of (pre := [refR 83 s hv part nv R]) (cancel9_q _ s R x.num x.t.snd hx.t.snd (hd.left _) (hl.mono (by decide))) (Ent.front 2 rfl) ?_
  rintro _ _ ⟨rfl, rfl⟩
  conv=>whnf
  intro b7
  conv=>whnf
  refine StoreG.at hw47 (Upd.whole (by rw [hw47]; rfl) (TicketD.cells_one _)) ?_
  conv=>whnf
  refine LoadNG.at (vs := (cancelQ find R x.num x.t.snd).1.1.cells) hw47 .all ?_
  conv=>whnf
  refine BuildG.of (cs := (ansF (cancelQ find R x.num x.t.snd)).1.cells) (toldT_fill hw) ?_
  conv=>whnf
  refine StoreG.at (by rw [AnsT.cells_len hw]) (Upd.tl (Upd.tl (Upd.whole (by rw [AnsT.cells_len hw]; rfl) (AnsT.cells_one _)))) ?_
  conv=>whnf
  refine LoadNG.at (vs := ((ansF (cancelQ find R x.num x.t.snd)).1 : AnsT).cells) (by rw [AnsT.cells_len hw]) (.tl (.tl .all)) ?_
  conv=>whnf
  rw [es]
  exact ⟨_, Ent.sel (T := []) (A := [_, _, _, _]) [1] rfl, rfl, rfl⟩
 conv=>whnf
 refine CondG.dec (fun e9 => ?_) (fun e9 => ?_)
 ·conv=>whnf
  have es : stepTk find R x = ansI (registerQ find R x.t.tok) := by
   unfold stepTk
   rw [hk, show k = 9 by omega]
   rfl
  refine LoadG.at (v := .int .i64 x.t.tok) (.tl (.here (StepT.tok_at hx))) ?_
  conv=>whnf
  refine CallG.of (pre := [refR 83 s hv part nv R]) (register8_q _ s R x.t.tok (hd.left _) (hl.mono (by decide))) (Ent.front 2 rfl) ?_
  rintro _ _ ⟨rfl, rfl⟩
  conv=>whnf
  refine BuildG.of (cs := (ansI (registerQ find R x.t.tok)).1.cells) rfl ?_
  conv=>whnf
  refine StoreG.at (by rw [AnsT.cells_len zeroT_wf]) (Upd.tl (Upd.whole (by rw [AnsT.cells_len zeroT_wf]; rfl) (AnsT.cells_one _))) ?_
  conv=>whnf
  refine LoadNG.at (vs := ((ansI (registerQ find R x.t.tok)).1 : AnsT).cells) (by rw [AnsT.cells_len zeroT_wf]) (.tl .all) ?_
  conv=>whnf
  rw [es]
  exact ⟨_, Ent.sel (T := []) (A := [_, _, _]) [0] rfl, rfl, rfl⟩
 conv=>whnf
 refine CondG.dec (fun e10 => ?_) (fun e10 => ?_)
 ·conv=>whnf
  have es : stepTk find R x = ansI (pauseQ find R x.t.tok) := by
   unfold stepTk
   rw [hk, show k = 10 by omega]
   rfl
  refine LoadG.at (v := .int .i64 x.t.tok) (.tl (.here (StepT.tok_at hx))) ?_
  conv=>whnf
  refine CallG.of (pre := [refR 83 s hv part nv R]) (pause8_q _ s R x.t.tok (hd.left _) (hl.mono (by decide))) (Ent.front 2 rfl) ?_
  rintro _ _ ⟨rfl, rfl⟩
  conv=>whnf
  refine BuildG.of (cs := (ansI (pauseQ find R x.t.tok)).1.cells) rfl ?_
  conv=>whnf
  refine StoreG.at (by rw [AnsT.cells_len zeroT_wf]) (Upd.tl (Upd.whole (by rw [AnsT.cells_len zeroT_wf]; rfl) (AnsT.cells_one _))) ?_
  conv=>whnf
  refine LoadNG.at (vs := ((ansI (pauseQ find R x.t.tok)).1 : AnsT).cells) (by rw [AnsT.cells_len zeroT_wf]) (.tl .all) ?_
  conv=>whnf
  rw [es]
  exact ⟨_, Ent.sel (T := []) (A := [_, _, _]) [0] rfl, rfl, rfl⟩
 conv=>whnf
 refine CondG.dec (fun e11 => ?_) (fun e11 => ?_)
 ·conv=>whnf
  have es : stepTk find R x = ansI (resumeQ find R x.t.tok) := by
   unfold stepTk
   rw [hk, show k = 11 by omega]
   rfl
  refine LoadG.at (v := .int .i64 x.t.tok) (.tl (.here (StepT.tok_at hx))) ?_
  conv=>whnf
  refine CallG.of (pre := [refR 83 s hv part nv R]) (resume8_q _ s R x.t.tok (hd.left _) (hl.mono (by decide))) (Ent.front 2 rfl) ?_
  rintro _ _ ⟨rfl, rfl⟩
  conv=>whnf
  refine BuildG.of (cs := (ansI (resumeQ find R x.t.tok)).1.cells) rfl ?_
  conv=>whnf
  refine StoreG.at (by rw [AnsT.cells_len zeroT_wf]) (Upd.tl (Upd.whole (by rw [AnsT.cells_len zeroT_wf]; rfl) (AnsT.cells_one _))) ?_
  conv=>whnf
  refine LoadNG.at (vs := ((ansI (resumeQ find R x.t.tok)).1 : AnsT).cells) (by rw [AnsT.cells_len zeroT_wf]) (.tl .all) ?_
  conv=>whnf
  rw [es]
  exact ⟨_, Ent.sel (T := []) (A := [_, _, _]) [0] rfl, rfl, rfl⟩
 conv=>whnf
 refine CondG.dec (fun e12 => ?_) (fun e12 => ?_)
 ·conv=>whnf
  have es : stepTk find R x = (⟨0, (markQ R).1, zeroT'⟩, (markQ R).2) := by
   unfold stepTk
   rw [hk, show k = 12 by omega]
   rfl
  refine CallG.of (pre := [refR 83 s hv part nv R]) (mark7_spec _ s hv part nv (by omega) hh) (Ent.front 2 rfl) ?_
  rintro _ _ ⟨rfl, rfl⟩
  conv=>whnf
  refine BuildG.of (cs := (⟨0, (markQ R).1, zeroT'⟩ : AnsT).cells) rfl ?_
  conv=>whnf
  refine StoreG.at (by rw [AnsT.cells_len zeroT_wf]) (Upd.tl (Upd.whole (by rw [AnsT.cells_len zeroT_wf]; rfl) (AnsT.cells_one _))) ?_
  conv=>whnf
  refine LoadNG.at (vs := (⟨0, (markQ R).1, zeroT'⟩ : AnsT).cells) (by rw [AnsT.cells_len zeroT_wf]) (.tl .all) ?_
  conv=>whnf
  rw [es]
  exact ⟨_, Ent.sel (T := []) (A := [_, _, _]) [0] rfl, rfl, rfl⟩
 conv=>whnf
 have es : stepTk find R x = ansI (backQ R x.num) := by
  unfold stepTk
  rw [hk, show k = 13 by omega]
  rfl
 refine LoadG.at (v := .int .i64 x.num) (.tl (.here rfl)) ?_
 conv=>whnf
 refine CallG.of (pre := [refR 83 s hv part nv R]) (back7_spec _ s hv part nv (by omega) hh x.num hx.n1 hx.n2) (Ent.front 2 rfl) ?_
 rintro _ _ ⟨rfl, rfl⟩
 conv=>whnf
 refine BuildG.of (cs := (ansI (backQ R x.num)).1.cells) rfl ?_
 conv=>whnf
 refine StoreG.at (by rw [AnsT.cells_len zeroT_wf]) (Upd.tl (Upd.whole (by rw [AnsT.cells_len zeroT_wf]; rfl) (AnsT.cells_one _))) ?_
 conv=>whnf
 refine LoadNG.at (vs := ((ansI (backQ R x.num)).1 : AnsT).cells) (by rw [AnsT.cells_len zeroT_wf]) (.tl .all) ?_
 conv=>whnf
 rw [es]
 exact ⟨_, Ent.sel (T := []) (A := [_, _, _]) [0] rfl, rfl, rfl⟩
end
end Go.Proofs.YtjacolfhlfogkabGreatDoor
