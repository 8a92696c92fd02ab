import Derived.Test.YtjacolfhlfogkabGreatDoorPl
import Derived.Test.YtjacolfhlfogkabGreatDoorMk
import Derived.Test.YtjacolfhlfogkabGreatDoorZBv
namespace Go.Proofs.YtjacolfhlfogkabGreatDoor
open Go Go.Sl Go.Sort
theorem keysB_len1 (l : List ByteArray) : (keysB l).length = l.length * 1 := by rw [keysB, List.length_map, Nat.mul_one]
theorem ch_rd {l : List ChD} {v : Value} {M : List HP} (h1 : SlV v l.length) (h2 : ∀ d ∈ l, SlV d.ov d.old.length ∧ SlV d.nv d.new.length) : RdS (own 3 v l.length (l.flatMap ChD.cells) :: (chS l ++ M)) v l.length (l.flatMap ChD.cells) ∧ ChRd (own 3 v l.length (l.flatMap ChD.cells) :: (chS l ++ M)) l :=
 ⟨own_rd h1 (chC_len l), fun x hx => ⟨.tl (chS_rd h2 x hx).1, .tl (chS_rd h2 x hx).2⟩⟩
theorem plays_spec (F : List HP) (K : List W32) (hk64 : K.length = 64) (hK : CelN F 0 0 (wvs K)) (pv : Value) (ls : List PairD) (hr : RdS F pv ls.length (pairsC ls)) (hl : ls.length ≤ 3518437208882) (hok : ∀ p ∈ ls, RdS F p.v p.bs.length (bvs p.bs) ∧ ∀ b ∈ p.bs, b < 256)
 (sm : Bool) (lv : Value) (xs : List StepD) (hx : ∀ x ∈ xs, x.wf) (hxl : xs.length ≤ 400000000000) (hxr : RdS F lv xs.length (xs.flatMap StepD.cells)) :
 SpecF Tryz.prog 5 [pv, .bool sm, lv] F [] (fun r L => r = .bool true) := by
 refine fun5.spec rfl ?_
 conv=>whnf
 refine CallG.pure (rknown_spec _) ?_
 rintro _ _ ⟨rfl, rfl⟩
 conv=>whnf
 refine CallG.pure (fit_spec _ pv ls (.right hr _) (by omega) (fun p hp => .right (hok p hp).1 _)) ?_
 rintro hv _ ⟨hs, S, hhv, rfl, hol, hfit, hS⟩
 have hom : ∀ p ∈ hs, (∀ b ∈ p.bs, b < 256) ∧ mayI p.key p.bs.length = 0 := fun p hp => by
  have h1 : p.e ∈ fitB [] (ls.map PairD.e) := by rw [← hfit]; exact List.mem_map_of_mem hp
  rcases fitB_mem h1 with h2 | ⟨h2, h3, _⟩
  ·cases h2
  ·obtain ⟨q, hq, e⟩ := List.mem_map.1 h2
   have eb : q.bs = p.bs := congrArg Prod.snd e
   exact ⟨by rw [← eb]; exact (hok q hq).2, h3⟩
 have hrd : ∀ M : List HP, (∀ p ∈ hs, RdS (own 2 hv hs.length (pairsC hs) :: (shs S ++ M)) p.v p.bs.length (bvs p.bs)) := fun M p hp => by
  have h := (ShG.here (S := S) (L := M)).tl (p := own 2 hv hs.length (pairsC hs)) p.v (bvs p.bs) (hS p hp)
  rw [bvs_len] at h
  exact h
 have eF : own 2 hv hs.length (pairsC hs) :: shs S ++ ([] ++ []) ++ F = own 2 hv hs.length (pairsC hs) :: (shs S ++ F) := by simp
 conv=>whnf
 refine CallG.pure (F := F) (over_q hk64 _ (hK.right _) hv hs (own_rd hhv (pairsC_len _)) (by omega) (fun p hp => ⟨by rw [eF]; exact hrd F p hp, hom p hp⟩)) ?_
 rintro _ _ ⟨s, t, c, rfl, hcw, hck, rfl⟩
 conv=>whnf
 refine CallG.pure (over7_spec _ hv ?_) ?_
 ·obtain ⟨a, n, h⟩ := (own_rd (L := []) hhv (pairsC_len hs)).len
  exact ⟨_, _, _, h⟩
 rintro _ _ ⟨d, rfl, rfl⟩
 have hnd : ((hs.map PairD.e).map (·.1)).Nodup := by rw [hfit]; exact fitB_nodup _ _ List.nodup_nil
 have hls : ∀ k, lastS (hs.map PairD.e) k = atL (hs.map PairD.e) k := fun k => atL_perm hnd (List.reverse_perm _).symm k
 have hby : ∀ k, ∀ b ∈ (atL (hs.map PairD.e) k).getD [], b < 256 := fun k b hb => by
  cases h : atL (hs.map PairD.e) k with
  | none => rw [h] at hb; cases hb
  | some v =>
   rw [h] at hb
   obtain ⟨p, hp, e⟩ := List.mem_map.1 (atL_mem h)
   have e2 : p.bs = v := congrArg Prod.snd e
   exact (hom p hp).1 b (by rw [e2]; exact hb)
 have hsl : ∀ p ∈ hs, p.bs.length ≤ 4096 := fun p hp => (mayI_le (hom p hp).2).1
 conv=>whnf
 refine CondG.split (fun hsm => ?_) (fun hsm => ?_)
 ·conv=>whnf
  refine BuildG.of (cs := [hv]) (by obtain ⟨a, n, h⟩ := (own_rd (L := []) hhv (pairsC_len hs)).len; rw [h]; rfl) ?_
  conv=>whnf
  intro q
  conv=>whnf
  refine CallG.pure (over_h _ _ _) ?_
  rintro _ _ ⟨s2, rfl, rfl⟩
  conv=>whnf
  refine CondG.ndec (fun h => absurd rfl h) (fun _ => ?_)
  conv=>whnf
  refine CallG.pure (part7_spec _ hv ?_) ?_
  ·obtain ⟨a, n, h⟩ := (own_rd (L := []) hhv (pairsC_len hs)).len
   exact ⟨_, _, _, h⟩
  rintro _ _ ⟨d2, rfl, rfl⟩
  (conv=>whnf);repeat((with_reducible first|refine .ff ?_|refine .nff ?_);conv=>whnf)
  have hfb : SrcF.bytes (refF (hs.map PairD.e) [] true) := fun k b hb => by
   unfold refF at hb
   rw [if_neg (show ¬ noF [] k ≠ 0 from fun h => h rfl)] at hb
   exact hby k b hb
  obtain ⟨T, hT⟩ : ∃ T, T = (cel q 59 [hv] :: own 2 hv hs.length (pairsC hs) :: shs S) := ⟨_, rfl⟩
  have hsT : SrcG Tryz.prog (T ++ F) (Value.iface 58 (.pointer (some ⟨q, 0, none⟩))) (refF (hs.map PairD.e) [] true) := by
   rw [hT]
   exact some_src _ q hv hs (own_rd hhv (pairsC_len _)) (by omega) (fun p hp => ⟨hrd F p hp, hsl p hp⟩)
  have hdT : DocF (T ++ F) hv (.slice none 0 0) true (refF (hs.map PairD.e) [] true) := by
   rw [hT]
   exact ⟨hfb, hs, [], fun _ _ => rfl, .tl (own_rd hhv (pairsC_len _)), by omega, (fun p hp => .tl (hrd F p hp)), .nil, by decide⟩
  obtain ⟨src, hsrc⟩ : ∃ src, src = (Value.iface 58 (.pointer (some ⟨q, 0, none⟩))) := ⟨_, rfl⟩
  obtain ⟨find, hfind⟩ : ∃ find : SrcF, find = (refF (hs.map PairD.e) [] true) := ⟨_, rfl⟩
  rw [← hsrc, ← hfind] at hsT
  rw [← hfind] at hdT
  refine LoopG.mk (fun mm e L => ∃ (i : Nat) (R : RSt), i ≤ xs.length ∧ mm = xs.length - i ∧ Lim R (7 * (xs.length - i)) ∧ R.marks.length ≤ i ∧
   e = [(2, lv), (6, .bool false), (9, .pointer (some ⟨s2, 0, none⟩)), (10, .pointer (some ⟨d2, 0, none⟩)), (13, .int .i64 i)] ∧ L = stR 75 s2 src R :: refR 83 d2 hv true (.slice none 0 0) R :: T) xs.length
   [(2, lv), (6, .bool false), (9, .pointer (some ⟨s2, 0, none⟩)), (10, .pointer (some ⟨d2, 0, none⟩)), (13, .int .i64 0)] (stR 75 s2 src ⟨[], [], [], 0⟩ :: refR 83 d2 hv true (.slice none 0 0) ⟨[], [], [], 0⟩ :: T) ⟨rfl, rfl, rfl, rfl, rfl, trivial⟩ ?_
   ⟨0, _, Nat.zero_le _, rfl, ⟨by show 0 + _ ≤ _; omega, by show 0 + _ ≤ _; omega, fun p h => absurd h List.not_mem_nil, fun p h => absurd h List.not_mem_nil⟩, Nat.le_refl _, rfl, rfl⟩ ?_
  ·rw [hT, hsrc]
   exact ((Ent.perm (by classical exact List.perm_iff_count.2 fun x => by simp only [List.append_eq, List.count_append, List.count_cons, List.count_nil]; omega)).trans (Ent.dropR (refR 83 d hv false (.slice none 0 0) ⟨[], [], [], 0⟩ :: stR 75 s (.iface 105 (.pointer (some ⟨t, 0, none⟩))) ⟨[], [], [], 0⟩ :: c.pieces 147 171 220 t) _))
  rintro mm e L ⟨i, R, hi, rfl, hlR, hmR, rfl, rfl⟩
  conv=>whnf
  refine LenG.rd hxr ?_
  conv=>whnf
  refine CondG.dec (fun h1 => ?_) (fun h1 => ?_)
  ·have hil : i < xs.length := by omega
   obtain ⟨x, hxi⟩ : ∃ x, x = xs[i] := ⟨_, rfl⟩
   have hxm : x ∈ xs := by rw [hxi]; exact List.getElem_mem hil
   have hxw : x.wf := hx _ hxm
   have h66 : x.cells.length = 66 := StepD.cells_len hxw
   have hT12 : (stepQ find R x).1.cells.length = 12 := ToldD.cells_len (stepQ_len find R x).1 (stepQ_len find R x).2
   have hlR7 : Lim R (7 * (xs.length - (i + 1)) + 7) := hlR.mono (by omega)
   have hlN := hlR7.step hdT.1 x
   have hmN := step_marks (find := find) hmR x
   have b1 := hlR7.told
   have b2 := hlR7.steps
   have c1 := hlN.told
   have c2 := hlN.steps
   conv=>whnf
   refine IdxG.rd hxr (by omega) fun cb o hcc => ?_
   conv=>whnf
   refine LoadNG.atF (vs := x.cells) h66 (hcc.part (by rw [h66, Int.toNat_natCast, hxi]; exact flat_get (fun y h => StepD.cells_len (hx y h)) hil)) ?_
   conv=>whnf
   refine CallG.of (pre := [stR 75 s2 src R]) (rest := refR 83 d2 hv true (.slice none 0 0) R :: T) (stepped_q _ s2 src R x hxw (hsT.left [_]) (by omega) (by omega)) (Ent.refl _) ?_
   rintro _ _ ⟨rfl, rfl⟩
   conv=>whnf
   intro b14
   conv=>whnf
   refine StoreG.at hT12 (Upd.whole (by rw [hT12]; rfl) (ToldD.cells_one _)) ?_
   conv=>whnf
   refine IdxG.rd hxr (by omega) fun cb2 o2 hcc2 => ?_
   conv=>whnf
   refine LoadNG.atF (vs := x.cells) h66 (hcc2.part (by rw [h66, Int.toNat_natCast, hxi]; exact flat_get (fun y h => StepD.cells_len (hx y h)) hil)) ?_
   conv=>whnf
   refine CallG.of (pre := [refR 83 d2 hv true (.slice none 0 0) R]) (rest := cel b14 63 (stepQ find R x).1.cells :: stR 75 s2 src (stepQ find R x).2 :: T) (wanted_q _ d2 R x hxw (hdT.left [_, _]) (hlR7.mono (by omega)) (by omega)) (Ent.sel (T := T) (A := [_, _, _]) [2, 0, 1] rfl) ?_
   rintro _ _ ⟨rfl, rfl⟩
   conv=>whnf
   intro b15
   conv=>whnf
   refine StoreG.at hT12 (Upd.whole (by rw [hT12]; rfl) (ToldD.cells_one _)) ?_
   conv=>whnf
   refine LoadNG.at (vs := (stepQ find R x).1.cells) hT12 (.tl (.tl .all)) ?_
   conv=>whnf
   refine LoadNG.at (vs := (stepQ find R x).1.cells) hT12 .all ?_
   conv=>whnf
   refine DoesG.eqv 8 toldK (by kernel_rfl) (by decide) (by kernel_rfl) (by kernel_rfl) (ToldD.wt (stepQ_len find R x).1 (stepQ_len find R x).2) (ToldD.wt (stepQ_len find R x).1 (stepQ_len find R x).2) ?_
   conv=>whnf
   refine CondG.split (fun h => absurd h (by simp)) (fun _ => ?_)
   (conv=>whnf);refine .ff ?_;(conv=>whnf)
   obtain ⟨N, hN⟩ : ∃ N, N = (stepQ find R x).2 := ⟨_, rfl⟩
   rw [← hN] at hlN hmN c1 c2 ⊢
   refine CallG.of (pre := [stR 75 s2 src N]) (rest := refR 83 d2 hv true (.slice none 0 0) N :: T) (touched_h _ s2 src (by omega)) ((Ent.sel (T := T) (A := [_, _, _, _]) [3, 1] rfl)) ?_
   rintro tv _ ⟨htv, rfl⟩
   (conv=>whnf);refine .ff ?_;(conv=>whnf);refine .ff ?_;(conv=>whnf)
   refine CallG.of (pre := [refR 83 d2 hv true (.slice none 0 0) N]) (rest := own 1 tv (touchedQ N).length (keysB (touchedQ N)) :: stR 75 s2 src N :: T) (touched7_spec _ d2 hv true (.slice none 0 0) (by omega)) (Ent.sel (T := T) (A := [_, _, _]) [2, 0, 1] rfl) ?_
   rintro uv _ ⟨huv, rfl⟩
   (conv=>whnf);refine .ff ?_;(conv=>whnf)
   refine CallG.pure (texts8_same _ tv uv (touchedQ N) (.tl (.tl (own_rd htv (keysB_len1 _)))) (own_rd huv (keysB_len1 _)) (by rw [touchedQ, List.length_map]; omega)) ?_
   rintro _ _ ⟨rfl, rfl⟩
   (conv=>whnf);repeat((with_reducible first|refine .ff ?_|refine .nff ?_);conv=>whnf)
   refine CallG.of (pre := [stR 75 s2 src N]) (rest := refR 83 d2 hv true (.slice none 0 0) N :: T) (changes_h _ s2 src (by omega)) ((Ent.sel (T := T) (A := [_, _, _, _]) [3, 1] rfl)) ?_
   rintro av _ ⟨l1, hm1, hav, hl1, hs1, rfl⟩
   (conv=>whnf);refine .ff ?_;(conv=>whnf);refine .ff ?_;(conv=>whnf)
   refine CallG.of (pre := [refR 83 d2 hv true (.slice none 0 0) N]) (rest := own 3 av l1.length (l1.flatMap ChD.cells) :: (chS l1 ++ (stR 75 s2 src N :: T))) (changes7_spec _ d2 hv true (.slice none 0 0) (by omega) (by omega)) (Ent.perm (by classical exact List.perm_iff_count.2 fun x => by simp only [List.append_eq, List.count_append, List.count_cons, List.count_nil]; omega)) ?_
   rintro bv _ ⟨l2, hm2, hbv, hl2, hs2, rfl⟩
   have r1 := ch_rd (M := stR 75 s2 src N :: T) hav hs1
   have r2 := ch_rd (M := own 3 av l1.length (l1.flatMap ChD.cells) :: (chS l1 ++ (stR 75 s2 src N :: T))) hbv hs2
   (conv=>whnf);refine .ff ?_;(conv=>whnf)
   refine CallG.pure (changes8_same _ av bv l1 l2 (by omega) (hm1.trans hm2.symm) (.left (.tl (.tl (.right r1.1 (chS l2)))) F) (.left (.tl r2.1) F) (fun y hy => ⟨.left (.tl (.tl (.right (r1.2 y hy).1 (chS l2)))) F, .left (.tl (.tl (.right (r1.2 y hy).2 (chS l2)))) F⟩) (fun y hy => ⟨.left (.tl (r2.2 y hy).1) F, .left (.tl (r2.2 y hy).2) F⟩)) ?_
   rintro _ _ ⟨rfl, rfl⟩
   (conv=>whnf);repeat((with_reducible first|refine .ff ?_|refine .nff ?_);conv=>whnf)
   refine ArithG.i64' ((i + 1 : Nat) : Int) (by omega) (by omega) ?_
   conv=>whnf
   exact ⟨xs.length - (i + 1), [(2, lv), (6, .bool false), (9, .pointer (some ⟨s2, 0, none⟩)), (10, .pointer (some ⟨d2, 0, none⟩)), (13, .int .i64 ((i + 1 : Nat) : Int))], stR 75 s2 src N :: refR 83 d2 hv true (.slice none 0 0) N :: T, by omega, ⟨rfl, rfl, rfl, rfl, rfl, trivial⟩, (Ent.perm (by classical exact List.perm_iff_count.2 fun x => by simp only [List.append_eq, List.count_append, List.count_cons, List.count_nil]; omega)).trans (Ent.dropR (own 3 bv l2.length (l2.flatMap ChD.cells) :: (chS l2 ++ (own 3 av l1.length (l1.flatMap ChD.cells) :: chS l1))) _), i + 1, N, by omega, rfl, hlN, hmN, rfl, rfl⟩
  ·conv=>whnf
   exact ret_here rfl
 ·(conv=>whnf);repeat((with_reducible first|refine .ff ?_|refine .nff ?_);conv=>whnf)
  have hff : ∀ k, mayI k 0 = 0 → tabFind c.vals k = refF (hs.map PairD.e) [] false k := fun k hk => by
   unfold tabFind refF
   rw [if_neg (fun h => h hk), hck k, hls k, if_neg (show ¬ noF [] k ≠ 0 from fun h => h rfl), if_neg (by simp)]
  have hfb : SrcF.bytes (tabFind c.vals) := fun k b hb => by
   by_cases hk : mayI k 0 = 0
   ·rw [hff k hk] at hb
    unfold refF at hb
    rw [if_neg (show ¬ noF [] k ≠ 0 from fun h => h rfl)] at hb
    exact hby k b hb
   ·unfold tabFind at hb
    rw [if_pos hk] at hb
    cases hb
  obtain ⟨T, hT⟩ : ∃ T, T = (c.pieces 147 171 220 t ++ (own 2 hv hs.length (pairsC hs) :: shs S)) := ⟨_, rfl⟩
  have hsT : SrcG Tryz.prog (T ++ F) (Value.iface 105 (.pointer (some ⟨t, 0, none⟩))) (tabFind c.vals) := by
   rw [hT]
   exact (by rw [List.append_assoc]; exact tab_srcD _ t c hcw)
  have hdT : DocF (T ++ F) hv (.slice none 0 0) false (tabFind c.vals) := by
   rw [hT]
   exact ⟨hfb, hs, [], hff, (by rw [List.append_assoc]; exact (own_rd hhv (pairsC_len _)).right _), by omega, (fun p hp => by rw [List.append_assoc]; exact (hrd F p hp).right _), .nil, by decide⟩
  obtain ⟨src, hsrc⟩ : ∃ src, src = (Value.iface 105 (.pointer (some ⟨t, 0, none⟩))) := ⟨_, rfl⟩
  obtain ⟨find, hfind⟩ : ∃ find : SrcF, find = (tabFind c.vals) := ⟨_, rfl⟩
  rw [← hsrc, ← hfind] at hsT
  rw [← hfind] at hdT
  refine LoopG.mk (fun mm e L => ∃ (i : Nat) (R : RSt), i ≤ xs.length ∧ mm = xs.length - i ∧ Lim R (7 * (xs.length - i)) ∧ R.marks.length ≤ i ∧
   e = [(2, lv), (6, .bool false), (9, .pointer (some ⟨s, 0, none⟩)), (10, .pointer (some ⟨d, 0, none⟩)), (13, .int .i64 i)] ∧ L = stR 75 s src R :: refR 83 d hv false (.slice none 0 0) R :: T) xs.length
   [(2, lv), (6, .bool false), (9, .pointer (some ⟨s, 0, none⟩)), (10, .pointer (some ⟨d, 0, none⟩)), (13, .int .i64 0)] (stR 75 s src ⟨[], [], [], 0⟩ :: refR 83 d hv false (.slice none 0 0) ⟨[], [], [], 0⟩ :: T) ⟨rfl, rfl, rfl, rfl, rfl, trivial⟩ ?_
   ⟨0, _, Nat.zero_le _, rfl, ⟨by show 0 + _ ≤ _; omega, by show 0 + _ ≤ _; omega, fun p h => absurd h List.not_mem_nil, fun p h => absurd h List.not_mem_nil⟩, Nat.le_refl _, rfl, rfl⟩ ?_
  ·rw [hT, hsrc]
   exact (Ent.perm (by classical exact List.perm_iff_count.2 fun x => by simp only [List.append_eq, List.count_append, List.count_cons, List.count_nil]; omega))
  rintro mm e L ⟨i, R, hi, rfl, hlR, hmR, rfl, rfl⟩
  conv=>whnf
  refine LenG.rd hxr ?_
  conv=>whnf
  refine CondG.dec (fun h1 => ?_) (fun h1 => ?_)
  ·have hil : i < xs.length := by omega
   obtain ⟨x, hxi⟩ : ∃ x, x = xs[i] := ⟨_, rfl⟩
   have hxm : x ∈ xs := by rw [hxi]; exact List.getElem_mem hil
   have hxw : x.wf := hx _ hxm
   have h66 : x.cells.length = 66 := StepD.cells_len hxw
   have hT12 : (stepQ find R x).1.cells.length = 12 := ToldD.cells_len (stepQ_len find R x).1 (stepQ_len find R x).2
   have hlR7 : Lim R (7 * (xs.length - (i + 1)) + 7) := hlR.mono (by omega)
   have hlN := hlR7.step hdT.1 x
   have hmN := step_marks (find := find) hmR x
   have b1 := hlR7.told
   have b2 := hlR7.steps
   have c1 := hlN.told
   have c2 := hlN.steps
   conv=>whnf
   refine IdxG.rd hxr (by omega) fun cb o hcc => ?_
   conv=>whnf
   refine LoadNG.atF (vs := x.cells) h66 (hcc.part (by rw [h66, Int.toNat_natCast, hxi]; exact flat_get (fun y h => StepD.cells_len (hx y h)) hil)) ?_
   conv=>whnf
   refine CallG.of (pre := [stR 75 s src R]) (rest := refR 83 d hv false (.slice none 0 0) R :: T) (stepped_q _ s src R x hxw (hsT.left [_]) (by omega) (by omega)) (Ent.refl _) ?_
   rintro _ _ ⟨rfl, rfl⟩
   conv=>whnf
   intro b14
   conv=>whnf
   refine StoreG.at hT12 (Upd.whole (by rw [hT12]; rfl) (ToldD.cells_one _)) ?_
   conv=>whnf
   refine IdxG.rd hxr (by omega) fun cb2 o2 hcc2 => ?_
   conv=>whnf
   refine LoadNG.atF (vs := x.cells) h66 (hcc2.part (by rw [h66, Int.toNat_natCast, hxi]; exact flat_get (fun y h => StepD.cells_len (hx y h)) hil)) ?_
   conv=>whnf
   refine CallG.of (pre := [refR 83 d hv false (.slice none 0 0) R]) (rest := cel b14 63 (stepQ find R x).1.cells :: stR 75 s src (stepQ find R x).2 :: T) (wanted_q _ d R x hxw (hdT.left [_, _]) (hlR7.mono (by omega)) (by omega)) (Ent.sel (T := T) (A := [_, _, _]) [2, 0, 1] rfl) ?_
   rintro _ _ ⟨rfl, rfl⟩
   conv=>whnf
   intro b15
   conv=>whnf
   refine StoreG.at hT12 (Upd.whole (by rw [hT12]; rfl) (ToldD.cells_one _)) ?_
   conv=>whnf
   refine LoadNG.at (vs := (stepQ find R x).1.cells) hT12 (.tl (.tl .all)) ?_
   conv=>whnf
   refine LoadNG.at (vs := (stepQ find R x).1.cells) hT12 .all ?_
   conv=>whnf
   refine DoesG.eqv 8 toldK (by kernel_rfl) (by decide) (by kernel_rfl) (by kernel_rfl) (ToldD.wt (stepQ_len find R x).1 (stepQ_len find R x).2) (ToldD.wt (stepQ_len find R x).1 (stepQ_len find R x).2) ?_
   conv=>whnf
   refine CondG.split (fun h => absurd h (by simp)) (fun _ => ?_)
   (conv=>whnf);refine .ff ?_;(conv=>whnf)
   obtain ⟨N, hN⟩ : ∃ N, N = (stepQ find R x).2 := ⟨_, rfl⟩
   rw [← hN] at hlN hmN c1 c2 ⊢
   refine CallG.of (pre := [stR 75 s src N]) (rest := refR 83 d hv false (.slice none 0 0) N :: T) (touched_h _ s src (by omega)) ((Ent.sel (T := T) (A := [_, _, _, _]) [3, 1] rfl)) ?_
   rintro tv _ ⟨htv, rfl⟩
   (conv=>whnf);refine .ff ?_;(conv=>whnf);refine .ff ?_;(conv=>whnf)
   refine CallG.of (pre := [refR 83 d hv false (.slice none 0 0) N]) (rest := own 1 tv (touchedQ N).length (keysB (touchedQ N)) :: stR 75 s src N :: T) (touched7_spec _ d hv false (.slice none 0 0) (by omega)) (Ent.sel (T := T) (A := [_, _, _]) [2, 0, 1] rfl) ?_
   rintro uv _ ⟨huv, rfl⟩
   (conv=>whnf);refine .ff ?_;(conv=>whnf)
   refine CallG.pure (texts8_same _ tv uv (touchedQ N) (.tl (.tl (own_rd htv (keysB_len1 _)))) (own_rd huv (keysB_len1 _)) (by rw [touchedQ, List.length_map]; omega)) ?_
   rintro _ _ ⟨rfl, rfl⟩
   (conv=>whnf);repeat((with_reducible first|refine .ff ?_|refine .nff ?_);conv=>whnf)
   refine CallG.of (pre := [stR 75 s src N]) (rest := refR 83 d hv false (.slice none 0 0) N :: T) (changes_h _ s src (by omega)) ((Ent.sel (T := T) (A := [_, _, _, _]) [3, 1] rfl)) ?_
   rintro av _ ⟨l1, hm1, hav, hl1, hs1, rfl⟩
   (conv=>whnf);refine .ff ?_;(conv=>whnf);refine .ff ?_;(conv=>whnf)
   refine CallG.of (pre := [refR 83 d hv false (.slice none 0 0) N]) (rest := own 3 av l1.length (l1.flatMap ChD.cells) :: (chS l1 ++ (stR 75 s src N :: T))) (changes7_spec _ d hv false (.slice none 0 0) (by omega) (by omega)) (Ent.perm (by classical exact List.perm_iff_count.2 fun x => by simp only [List.append_eq, List.count_append, List.count_cons, List.count_nil]; omega)) ?_
   rintro bv _ ⟨l2, hm2, hbv, hl2, hs2, rfl⟩
   have r1 := ch_rd (M := stR 75 s src N :: T) hav hs1
   have r2 := ch_rd (M := own 3 av l1.length (l1.flatMap ChD.cells) :: (chS l1 ++ (stR 75 s src N :: T))) hbv hs2
   (conv=>whnf);refine .ff ?_;(conv=>whnf)
   refine CallG.pure (changes8_same _ av bv l1 l2 (by omega) (hm1.trans hm2.symm) (.left (.tl (.tl (.right r1.1 (chS l2)))) F) (.left (.tl r2.1) F) (fun y hy => ⟨.left (.tl (.tl (.right (r1.2 y hy).1 (chS l2)))) F, .left (.tl (.tl (.right (r1.2 y hy).2 (chS l2)))) F⟩) (fun y hy => ⟨.left (.tl (r2.2 y hy).1) F, .left (.tl (r2.2 y hy).2) F⟩)) ?_
   rintro _ _ ⟨rfl, rfl⟩
   (conv=>whnf);repeat((with_reducible first|refine .ff ?_|refine .nff ?_);conv=>whnf)
   refine ArithG.i64' ((i + 1 : Nat) : Int) (by omega) (by omega) ?_
   conv=>whnf
   exact ⟨xs.length - (i + 1), [(2, lv), (6, .bool false), (9, .pointer (some ⟨s, 0, none⟩)), (10, .pointer (some ⟨d, 0, none⟩)), (13, .int .i64 ((i + 1 : Nat) : Int))], stR 75 s src N :: refR 83 d hv false (.slice none 0 0) N :: T, by omega, ⟨rfl, rfl, rfl, rfl, rfl, trivial⟩, (Ent.perm (by classical exact List.perm_iff_count.2 fun x => by simp only [List.append_eq, List.count_append, List.count_cons, List.count_nil]; omega)).trans (Ent.dropR (own 3 bv l2.length (l2.flatMap ChD.cells) :: (chS l2 ++ (own 3 av l1.length (l1.flatMap ChD.cells) :: chS l1))) _), i + 1, N, by omega, rfl, hlN, hmN, rfl, rfl⟩
  ·conv=>whnf
   exact ret_here rfl
end Go.Proofs.YtjacolfhlfogkabGreatDoor
