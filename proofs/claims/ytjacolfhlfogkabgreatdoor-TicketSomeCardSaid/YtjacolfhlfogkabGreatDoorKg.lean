import Derived.Test.YtjacolfhlfogkabGreatDoorKe
import Derived.Test.YtjacolfhlfogkabGreatDoorKf
import Derived.Test.YtjacolfhlfogkabGreatDoorZTu
import Derived.Test.YtjacolfhlfogkabGreatDoorZCn
namespace Go.Proofs.YtjacolfhlfogkabGreatDoor
open Go Go.Sl Go.Sort
theorem keysB_len9 (l : List ByteArray) : (keysB l).length = l.length * 1 := by rw [keysB, List.length_map, Nat.mul_one]
theorem ch_rd9 {l : List ChD} {v : Value} {M : List HP} (h1 : SlV v l.length) (h2 : ∀ d ∈ l, SlV d.ov d.old.length ∧ SlV d.nv d.new.length) : RdS (own 3 v l.length (l.flatMap ChD.cells) :: (chS l ++ M)) v l.length (l.flatMap ChD.cells) ∧ ChRd (own 3 v l.length (l.flatMap ChD.cells) :: (chS l ++ M)) l :=
 ⟨own_rd h1 (chC_len l), fun x hx => ⟨.tl (chS_rd h2 x hx).1, .tl (chS_rd h2 x hx).2⟩⟩
theorem refF_bytes {l : List KB} {part : Bool} (h : ∀ p ∈ l, ∀ b ∈ p.2, b < 256) : SrcF.bytes (refF l [] part) := fun k b hb => by
 unfold refF at hb
 rw [if_neg (show ¬ noF [] k ≠ 0 from fun h => h rfl)] at hb
 cases hc : atL l k with
 | none => rw [hc] at hb; cases hb
 | some v => rw [hc] at hb; exact h _ (atL_mem hc) b hb
theorem tsome_spec (F : List HP) (hv : Value) (hs : List PairD) (hr : RdS F hv hs.length (pairsC hs)) (hl : hs.length ≤ 3518437208882) (hok : ∀ p ∈ hs, RdS F p.v p.bs.length (bvs p.bs) ∧ ∀ b ∈ p.bs, b < 256) (hlen : ∀ p ∈ hs, p.bs.length ≤ 140737488351232)
 (lv : Value) (xs : List StepT) (hx : ∀ x ∈ xs, x.wf) (hxl : xs.length ≤ 1172812402961) (hxr : RdS F lv xs.length (xs.flatMap StepT.cells)) :
 SpecF Tryz.prog 3 [hv, lv] F [] (fun r L => r = .bool true) := by
 refine fun3.spec rfl ?_
 conv=>whnf
 refine BuildG.of (cs := [hv]) (by obtain ⟨a, n, h⟩ := hr.len; rw [h]; rfl) ?_
 conv=>whnf
 intro q
 conv=>whnf
 refine CallG.pure (over_h _ _ _) ?_
 rintro _ _ ⟨s2, rfl, rfl⟩
 conv=>whnf
 refine CondG.ndec (fun h => absurd rfl h) (fun _ => ?_)
 (conv=>whnf);refine .ff ?_;(conv=>whnf);refine .ff ?_;(conv=>whnf);refine .ff ?_;(conv=>whnf)
 refine CallG.pure (known9_spec _) ?_
 rintro _ _ ⟨rfl, rfl⟩
 (conv=>whnf);repeat((with_reducible first|refine .ff ?_|refine .nff ?_);conv=>whnf)
 refine CallG.pure (part7_spec _ hv ?_) ?_
 ·obtain ⟨a, n, h⟩ := hr.len
  exact ⟨_, _, _, h⟩
 rintro _ _ ⟨d2, rfl, rfl⟩
 conv=>whnf
 have hfb : SrcF.bytes (refF (hs.map PairD.e) [] true) := refF_bytes fun p hp => by obtain ⟨q, hq, rfl⟩ := List.mem_map.1 hp; exact (hok q hq).2
 obtain ⟨T, hT⟩ : ∃ T, T = [cel q 30 [hv]] := ⟨_, rfl⟩
 have hsT : SrcG Tryz.prog (T ++ F) (Value.iface 28 (.pointer (some ⟨q, 0, none⟩))) (refF (hs.map PairD.e) [] true) := by
  rw [hT]
  exact some_src _ q hv hs hr (by omega) (fun p hp => ⟨(hok p hp).1, hlen p hp⟩)
 have hdT : DocF (T ++ F) hv (.slice none 0 0) true (refF (hs.map PairD.e) [] true) := by
  rw [hT]
  exact ⟨hfb, hs, [], fun _ _ => rfl, .tl hr, by omega, (fun p hp => .tl (hok p hp).1), .nil, by decide⟩
 obtain ⟨src, hsrc⟩ : ∃ src, src = (Value.iface 28 (.pointer (some ⟨q, 0, none⟩))) := ⟨_, rfl⟩
 obtain ⟨find, hfind⟩ : ∃ find : SrcF, find = (refF (hs.map PairD.e) [] true) := ⟨_, rfl⟩
 rw [← hsrc, ← hfind] at hsT
 rw [← hfind] at hdT
 refine LoopG.mk (fun mm e L => ∃ (i : Nat) (R : RSt), i ≤ xs.length ∧ mm = xs.length - i ∧ Cnt R (2 * i) (3 * i) ∧ Lim R 0 ∧ R.marks.length ≤ i ∧
  e = [(1, lv), (4, .bool false), (5, .pointer (some ⟨s2, 0, none⟩)), (7, .pointer (some ⟨d2, 0, none⟩)), (8, .int .i64 i)] ∧ L = stR 75 s2 src R :: refR 83 d2 hv true (.slice none 0 0) R :: T) xs.length
  [(1, lv), (4, .bool false), (5, .pointer (some ⟨s2, 0, none⟩)), (7, .pointer (some ⟨d2, 0, none⟩)), (8, .int .i64 0)] (stR 75 s2 src ⟨[], [], [], 0⟩ :: refR 83 d2 hv true (.slice none 0 0) ⟨[], [], [], 0⟩ :: T) ⟨rfl, rfl, rfl, rfl, rfl, trivial⟩ ?_
  ⟨0, ⟨[], [], [], 0⟩, Nat.zero_le _, rfl, ⟨List.Pairwise.nil, Nat.le_refl _, Nat.le_refl _⟩, ⟨by show 0 + 0 ≤ _; omega, by show 0 + 0 ≤ _; omega, fun p h => absurd h List.not_mem_nil, fun p h => absurd h List.not_mem_nil⟩, Nat.le_refl _, rfl, rfl⟩ ?_
 ·rw [hT, hsrc]
  exact (Ent.perm (by classical exact List.perm_iff_count.2 fun x => by simp only [List.append_eq, List.count_append, List.count_cons, List.count_nil]; omega))
 rintro mm e L ⟨i, R, hi, rfl, hcR, hlR, hmR, rfl, rfl⟩
 conv=>whnf
 refine LenG.rd hxr ?_
 conv=>whnf
 refine CondG.dec (fun h1 => ?_) (fun h1 => ?_)
 ·have hil : i < xs.length := by omega
  obtain ⟨x, hxi⟩ : ∃ x, x = xs[i] := ⟨_, rfl⟩
  have hxm : x ∈ xs := by rw [hxi]; exact List.getElem_mem hil
  have hxw : x.wf := hx _ hxm
  have h49 : x.cells.length = 49 := StepT.cells_len hxw
  have hwf := stepTk_wf find R x
  have hA49 : (stepTk find R x).1.cells.length = 49 := AnsT.cells_len hwf
  have hlR7 : Lim R 7 := hcR.lim hlR (by omega)
  have hlN : Lim (stepTk find R x).2 0 := hlR7.tick hdT.1 hxw
  have hcN : Cnt (stepTk find R x).2 (2 * (i + 1)) (3 * (i + 1)) := (hcR.tick x).mono (by omega) (by omega)
  have hmN := tick_marks (find := find) hmR x
  have b1 := hlR7.told
  have b2 := hlR7.steps
  conv=>whnf
  refine DrawG.mk 13 [] (stR 75 s2 src R :: refR 83 d2 hv true (.slice none 0 0) R :: T) (by rw [List.append_nil]; exact Ent.refl _) ?_
  conv=>whnf
  refine .take 0 ?_
  conv=>whnf
  refine ⟨rfl, ?_⟩
  conv=>whnf
  refine .take 1 ?_
  conv=>whnf
  refine ⟨rfl, ?_⟩
  conv=>whnf
  refine .take 2 ?_
  conv=>whnf
  refine ⟨rfl, ?_⟩
  conv=>whnf
  refine .take 3 ?_
  conv=>whnf
  refine ⟨rfl, ?_⟩
  conv=>whnf
  refine IdxG.rd hxr (by omega) fun cb o hcc => ?_
  conv=>whnf
  refine .take 4 ?_
  conv=>whnf
  refine ⟨rfl, ?_⟩
  conv=>whnf
  refine LoadNG.atF (vs := x.cells) h49 (hcc.part (by rw [h49, Int.toNat_natCast, hxi]; exact flat_get (fun y h => StepT.cells_len (hx y h)) hil)) ?_
  conv=>whnf
  refine .take 6 ?_
  conv=>whnf
  refine ⟨rfl, ?_⟩
  conv=>whnf
  refine .take 7 ?_
  conv=>whnf
  refine ⟨rfl, ?_⟩
  conv=>whnf
  refine .take 8 ?_
  conv=>whnf
  refine ⟨rfl, ?_⟩
  conv=>whnf
  refine .take 9 ?_
  conv=>whnf
  refine ⟨rfl, ?_⟩
  conv=>whnf
  refine IdxG.rd hxr (by omega) fun cb2 o2 hcc2 => ?_
  conv=>whnf
  refine .take 10 ?_
  conv=>whnf
  refine ⟨rfl, ?_⟩
  conv=>whnf
  refine LoadNG.atF (vs := x.cells) h49 (hcc2.part (by rw [h49, Int.toNat_natCast, hxi]; exact flat_get (fun y h => StepT.cells_len (hx y h)) hil)) ?_
  conv=>whnf
  refine .all ?_
  conv=>whnf
  refine ⟨by decide, ?_⟩
  conv=>whnf
  refine CallG.of (pre := [stR 75 s2 src R]) (rest := refR 83 d2 hv true (.slice none 0 0) R :: T) (stepped_t _ s2 src R x hxw (hsT.left [_]) (by omega) (by omega)) (Ent.refl _) ?_
  rintro _ _ ⟨rfl, rfl⟩
  conv=>whnf
  refine .all ?_
  conv=>whnf
  refine ⟨by decide, ?_⟩
  conv=>whnf
  refine CallG.of (pre := [refR 83 d2 hv true (.slice none 0 0) R]) (rest := stR 75 s2 src (stepTk find R x).2 :: T) (wanted_t _ d2 R x hxw (hdT.left [_]) hlR7 (by omega)) (Ent.perm (List.Perm.swap _ _ _)) ?_
  rintro _ _ ⟨rfl, rfl⟩
  conv=>whnf
  refine .all ?_
  conv=>whnf
  refine ⟨by decide, ?_⟩
  conv=>whnf
  refine DoesG.eqv 8 ansK (by kernel_rfl) (by decide) (by kernel_rfl) (by kernel_rfl) (AnsT.wt hwf) (AnsT.wt hwf) ?_
  conv=>whnf
  refine ⟨rfl, ?_⟩
  conv=>whnf
  refine CondG.split (fun h => absurd h (by simp)) (fun _ => ?_)
  conv=>whnf
  refine ArithG.i64' ((i + 1 : Nat) : Int) (by omega) (by omega) ?_
  conv=>whnf
  exact ⟨xs.length - (i + 1), [(1, lv), (4, .bool false), (5, .pointer (some ⟨s2, 0, none⟩)), (7, .pointer (some ⟨d2, 0, none⟩)), (8, .int .i64 ((i + 1 : Nat) : Int))], stR 75 s2 src (stepTk find R x).2 :: refR 83 d2 hv true (.slice none 0 0) (stepTk find R x).2 :: T, by omega, ⟨rfl, rfl, rfl, rfl, rfl, trivial⟩, Ent.perm (by classical exact List.perm_iff_count.2 fun x => by simp only [List.append_eq, List.count_append, List.count_cons, List.count_nil]; omega), i + 1, _, by omega, rfl, hcN, hlN, hmN, rfl, rfl⟩
 ·have hlR7 : Lim R 7 := hcR.lim hlR (by omega)
  have c1 := hlR7.told
  have c2 := hlR7.steps
  conv=>whnf
  refine CallG.of (pre := [stR 75 s2 src R]) (rest := refR 83 d2 hv true (.slice none 0 0) R :: T) (touched_h _ s2 src (by omega)) (Ent.refl _) ?_
  rintro tv _ ⟨htv, rfl⟩
  conv=>whnf
  refine CallG.of (pre := [refR 83 d2 hv true (.slice none 0 0) R]) (rest := own 1 tv (touchedQ R).length (keysB (touchedQ R)) :: stR 75 s2 src R :: T) (touched7_spec _ d2 hv true (.slice none 0 0) (by omega)) (Ent.sel (T := T) (A := [_, _, _]) [2, 0, 1] rfl) ?_
  rintro uv _ ⟨huv, rfl⟩
  conv=>whnf
  refine CallG.pure (keys9_same _ tv uv (touchedQ R) (.tl (.tl (own_rd htv (keysB_len9 _)))) (own_rd huv (keysB_len9 _)) (by rw [touchedQ, List.length_map]; omega)) ?_
  rintro _ _ ⟨rfl, rfl⟩
  (conv=>whnf);refine .tt ?_;(conv=>whnf);refine .tt ?_;(conv=>whnf)
  refine CallG.of (pre := [stR 75 s2 src R]) (rest := refR 83 d2 hv true (.slice none 0 0) R :: T) (changes_h _ s2 src (by omega)) ((Ent.sel (T := T) (A := [_, _, _, _]) [3, 1] rfl)) ?_
  rintro av _ ⟨l1, hm1, hav, hl1, hs1, rfl⟩
  (conv=>whnf);refine .tt ?_;(conv=>whnf);refine .tt ?_;(conv=>whnf)
  refine CallG.of (pre := [refR 83 d2 hv true (.slice none 0 0) R]) (rest := own 3 av l1.length (l1.flatMap ChD.cells) :: (chS l1 ++ (stR 75 s2 src R :: T))) (changes7_spec _ d2 hv true (.slice none 0 0) (by omega) (by omega)) (Ent.perm (by classical exact List.perm_iff_count.2 fun x => by simp only [List.append_eq, List.count_append, List.count_cons, List.count_nil]; omega)) ?_
  rintro bv _ ⟨l2, hm2, hbv, hl2, hs2, rfl⟩
  have r1 := ch_rd9 (M := stR 75 s2 src R :: T) hav hs1
  have r2 := ch_rd9 (M := own 3 av l1.length (l1.flatMap ChD.cells) :: (chS l1 ++ (stR 75 s2 src R :: T))) hbv hs2
  (conv=>whnf);refine .tt ?_;(conv=>whnf)
  refine CallG.pure (changes9_same _ av bv l1 l2 (by omega) (hm1.trans hm2.symm) (.left (.tl (.tl (.right r1.1 (chS l2)))) F) (.left (.tl r2.1) F) (fun y hy => ⟨.left (.tl (.tl (.right (r1.2 y hy).1 (chS l2)))) F, .left (.tl (.tl (.right (r1.2 y hy).2 (chS l2)))) F⟩) (fun y hy => ⟨.left (.tl (r2.2 y hy).1) F, .left (.tl (r2.2 y hy).2) F⟩)) ?_
  rintro _ _ ⟨rfl, rfl⟩
  (conv=>whnf);refine .tt ?_;(conv=>whnf)
  exact ret_here rfl
end Go.Proofs.YtjacolfhlfogkabGreatDoor
