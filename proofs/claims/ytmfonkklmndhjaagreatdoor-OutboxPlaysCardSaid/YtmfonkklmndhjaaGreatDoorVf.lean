import Derived.Test.YtmfonkklmndhjaaGreatDoorVe
namespace Go.Proofs.YtmfonkklmndhjaaGreatDoor
open Go Go.Sl Go.Sort
def xK : ByteArray := ⟨#[120]⟩
theorem refF_bytesO {l : List KB} {part : Bool} (h : ∀ p ∈ l, ∀ b ∈ p.2, b < 256) : SrcF.bytes (refF l [] part) := fun k b hb => by
 unfold refF at hb
 rw [if_neg (show ¬ noF [] k ≠ 0 from fun h => h rfl)] at hb
 cases hc : atL l k with
 | none => rw [hc] at hb; cases hb
 | some v => rw [hc] at hb; exact h _ (atL_mem hc) b hb
theorem known_o (F : List HP) : SpecF Tryz.prog 4 [] F [] (fun v L => v = .bool true ∧ L = []) := (known_spec F).turn fun _ L h => ⟨[], ⟨h, rfl⟩, Ent.nil L⟩
theorem oown_spec (F : List HP) (v : Value) (bs : List Nat) (hv : RdS F v bs.length (bvs bs)) (hl : bs.length ≤ 1099511627776) : SpecF Tryz.prog 5 [v] F [] (fun r L => SlV r bs.length ∧ L = [own 1 r bs.length (bvs bs)]) := by
 obtain ⟨va, vc, rfl⟩ := hv.len
 refine fun5.spec rfl ?_
 conv=>whnf
 refine LenG.lit ?_
 conv=>whnf
 refine DoesG.makeG bytesT .i64 .i64 (by omega) (by simp only [maxLen]; omega) fun b zs hz => ?_
 conv=>whnf
 refine DoesG.copyS (o := 0) (cs := bvs bs) bytesT.und (by kernel_rfl) (.tl (.right hv _)) (bvs_len bs) (Nat.le_refl _) (by omega) (bvs_one _) (cur' := bvs bs) (by
  rw [List.take_zero, List.nil_append, List.drop_eq_nil_of_le (by omega), List.append_nil]) ?_
 conv=>whnf
 refine ⟨_, own_of_cel (n := bs.length) (sz := 1) (by rw [bvs_len, Nat.mul_one]) (by simp only [maxLen]; omega), .inr ⟨b, bs.length, rfl, Nat.le_refl _⟩, rfl⟩
theorem oplays_spec (F : List HP) (K : List W32) (hk : K.length = 64) (hK : CelN F 4 0 (wvs K)) (hTb : CelN F 1 0 (bvs Lib.deBruijn64tab)) (hC' : CelN F 3 0 (wvs K)) (hB : CelN F 2 0 (wvs ivW)) (v : Value) (bs : List Nat) (hv : RdS F v bs.length (bvs bs)) (hb : ∀ b ∈ bs, b < 256) (hbl : bs.length ≤ 140737488351232) (mis : Bool)
 (lv : Value) (xs : List OStep) (hx : ∀ x ∈ xs, x.wf) (hxl : xs.length ≤ 1353245080300) (hxr : RdS F lv xs.length (xs.flatMap OStep.cells)) :
 SpecF Tryz.prog 3 [v, .bool mis, lv] F [] (fun r L => r = .bool true) := by
 refine fun3.spec rfl ?_
 conv=>whnf
 refine CallG.pure (known_o _) ?_
 rintro _ _ ⟨rfl, rfl⟩
 (conv=>whnf);refine .nff ?_;(conv=>whnf)
 refine LenG.rd hv ?_
 conv=>whnf
 refine CondG.dec (fun h1 => ?_) (fun h1 => ?_)
 ·conv=>whnf
  refine SlcG.rd hv fun va vc hve hvc => ?_
  subst hve
  conv=>whnf
  refine SideG.of (by omega) ?_
  conv=>whnf
  refine SliceG.rd hv (by omega) (by omega) (by omega) (by omega) fun v1 hv1 _ => ?_
  obtain ⟨b1, hb1⟩ : ∃ b1, b1 = bs.take 4096 := ⟨_, rfl⟩
  have h4 : b1.length = 4096 := by rw [hb1, List.length_take]; omega
  have hbb : ∀ b ∈ b1, b < 256 := fun b h => hb b (List.mem_of_mem_take (by rw [← hb1]; exact h))
  replace hv1 : RdS F v1 b1.length (bvs b1) := by
   have e : ((bvs bs).drop ((0 : Int).toNat * 1)).take (((4096 : Int).toNat - (0 : Int).toNat) * 1) = bvs b1 := by rw [hb1]; simp [bvs]
   rw [e] at hv1
   rw [h4]
   exact hv1
  conv=>whnf
  refine CallG.pure (oown_spec _ v1 b1 (hv1) (by omega)) ?_
  rintro x1 _ ⟨hx1, rfl⟩
  conv=>whnf
  refine BuildG.of (cs := [.string oK, x1]) (by obtain ⟨_, _, rfl⟩ := hx1.len; rfl) ?_
  conv=>whnf
  refine BuildG.of (cs := [.string oK, x1]) (by obtain ⟨_, _, rfl⟩ := hx1.len; rfl) ?_
  conv=>whnf
  intro b22
  cases mis with
  | false =>
   (conv=>whnf);refine .ff ?_;(conv=>whnf)
   refine BuildG.of (cs := [(.slice (some ⟨b22, 0, none⟩) 1 1)]) rfl ?_
   conv=>whnf
   intro t
   conv=>whnf
   refine CallG.pure (over_h _ _ _) ?_
   rintro _ _ ⟨s, rfl, rfl⟩
   conv=>whnf
   refine CondG.ndec (fun h => absurd rfl h) (fun _ => ?_)
   (conv=>whnf);refine .ff ?_;(conv=>whnf);refine .ff ?_;(conv=>whnf);refine .ff ?_;(conv=>whnf)
   refine CallG.pure (part7_spec _ _ ⟨_, _, _, rfl⟩) ?_
   rintro _ _ ⟨d, rfl, rfl⟩
   conv=>whnf
   obtain ⟨T2, hT2⟩ : ∃ T2, T2 = [cel b22 27 [.string oK, x1], own 1 x1 (b1).length (bvs (b1))] := ⟨_, rfl⟩
   obtain ⟨hs, hhs⟩ : ∃ hs : List PairD, hs = [⟨oK, x1, b1⟩] := ⟨_, rfl⟩
   have hh : RdS (T2 ++ F) (.slice (some ⟨b22, 0, none⟩) 1 1) hs.length (pairsC hs) := by rw [hT2, hhs]; exact .left (.mk _ _ _ _ _ (Nat.le_refl _) .all) F
   have hho : ∀ p ∈ hs, RdS (T2 ++ F) p.v p.bs.length (bvs p.bs) ∧ (∀ b ∈ p.bs, b < 256) ∧ p.bs.length ≤ 4096 := by
    rw [hT2, hhs]
    intro p hp
    rw [List.mem_singleton.1 hp]
    exact ⟨.left (.tl (own_rd hx1 (by rw [bvs_len, Nat.mul_one]))) F, hbb, (by show (b1).length ≤ 4096; omega)⟩
   have hh1 : hs.length ≤ 4611686018427387904 := by rw [hhs, List.length_singleton]; omega
   obtain ⟨T, hT⟩ : ∃ T, T = cel t 35 [(.slice (some ⟨b22, 0, none⟩) 1 1)] :: T2 := ⟨_, rfl⟩
   have hsT : SrcG Tryz.prog (T ++ F) (.iface 33 (.pointer (some ⟨t, 0, none⟩))) (refF (hs.map PairD.e) [] true) := by
    rw [hT]
    exact some_src (T2 ++ F) t (.slice (some ⟨b22, 0, none⟩) 1 1) hs hh hh1 fun p hp => ⟨(hho p hp).1, by have := (hho p hp).2.2; omega⟩
   have hdT : DocF (T ++ F) (.slice (some ⟨b22, 0, none⟩) 1 1) (.slice none 0 0) true (refF (hs.map PairD.e) [] true) := by
    rw [hT]
    exact ⟨refF_bytesO fun p hp => by obtain ⟨q, hq, rfl⟩ := List.mem_map.1 hp; exact (hho q hq).2.1, hs, [], fun _ _ => rfl, .tl hh, hh1, fun p hp => .tl (hho p hp).1, .nil, by decide⟩
   generalize refF (hs.map PairD.e) [] true = find at hsT hdT
   refine LoopG.mk (fun mm e L => ∃ (i : Nat) (R : RSt), i ≤ xs.length ∧ mm = xs.length - i ∧ Lim R (2 * (xs.length - i)) ∧ R.marks.length ≤ i ∧
    e = [(2, lv), (8, .pointer (some ⟨s, 0, none⟩)), (10, .pointer (some ⟨d, 0, none⟩)), (11, .int .i64 i)] ∧ L = stR 70 s (.iface 33 (.pointer (some ⟨t, 0, none⟩))) R :: refR 73 d (.slice (some ⟨b22, 0, none⟩) 1 1) true (.slice none 0 0) R :: T) xs.length
    [(2, lv), (8, .pointer (some ⟨s, 0, none⟩)), (10, .pointer (some ⟨d, 0, none⟩)), (11, .int .i64 0)] (stR 70 s (.iface 33 (.pointer (some ⟨t, 0, none⟩))) ⟨[], [], [], 0⟩ :: refR 73 d (.slice (some ⟨b22, 0, none⟩) 1 1) true (.slice none 0 0) ⟨[], [], [], 0⟩ :: T) ⟨rfl, rfl, rfl, rfl, trivial⟩ ?_
    ⟨0, ⟨[], [], [], 0⟩, Nat.zero_le _, rfl, ⟨by show 0 + _ ≤ _; omega, by show 0 + _ ≤ _; omega, fun p h => absurd h List.not_mem_nil, fun p h => absurd h List.not_mem_nil⟩, Nat.le_refl _, rfl, rfl⟩ ?_
   ·rw [hT, hT2]
    exact Ent.perm (by classical exact List.perm_iff_count.2 fun x => by simp only [List.append_eq, List.count_append, List.count_cons, List.count_nil]; omega)
   rintro mm e L ⟨i, R, hi, rfl, hlR, hmR, rfl, rfl⟩
   conv=>whnf
   refine LenG.rd hxr ?_
   conv=>whnf
   refine CondG.dec (fun h1 => ?_) (fun h1 => ?_)
   ·have hil : i < xs.length := by omega
    obtain ⟨y, hyi⟩ : ∃ y, y = xs[i] := ⟨_, rfl⟩
    have hyw : y.wf := hx _ (by rw [hyi]; exact List.getElem_mem hil)
    have h30 : y.cells.length = 30 := OStep.cells_len hyw
    have hl2 : Lim R (2 * (xs.length - (i + 1)) + 2) := by rw [show 2 * (xs.length - (i + 1)) + 2 = 2 * (xs.length - i) by omega]; exact hlR
    conv=>whnf
    refine IdxG.rd hxr (by omega) fun cb o hcc => ?_
    conv=>whnf
    refine LoadNG.atF (vs := y.cells) h30 (hcc.part (by rw [h30, Int.toNat_natCast, hyi]; exact flat_get (fun y h => OStep.cells_len (hx y h)) hil)) ?_
    conv=>whnf
    refine CallG.of (pre := [stR 70 s (.iface 33 (.pointer (some ⟨t, 0, none⟩))) R, refR 73 d (.slice (some ⟨b22, 0, none⟩) 1 1) true (.slice none 0 0) R]) (rest := T) (stepped_o hk _ (.right hK _) (.right hTb _) (.right hC' _) (.right hB _) s d R y hyw hsT hdT (hl2.mono (by omega)) (by omega)) (Ent.refl _) ?_
    rintro _ _ ⟨rfl, rfl⟩
    (conv=>whnf);refine .nff ?_;(conv=>whnf)
    refine ArithG.i64' ((i + 1 : Nat) : Int) (by omega) (by omega) ?_
    conv=>whnf
    exact ⟨xs.length - (i + 1), [(2, lv), (8, .pointer (some ⟨s, 0, none⟩)), (10, .pointer (some ⟨d, 0, none⟩)), (11, .int .i64 ((i + 1 : Nat) : Int))], _, by omega, ⟨rfl, rfl, rfl, rfl, trivial⟩, Ent.refl _, i + 1, _, by omega, rfl, hl2.ostep hdT.1 K y, ostep_marks hmR y, rfl, rfl⟩
   ·have c1 := hlR.told
    have c2 := hlR.steps
    conv=>whnf
    refine CallG.of (pre := [stR 70 s (.iface 33 (.pointer (some ⟨t, 0, none⟩))) R, refR 73 d (.slice (some ⟨b22, 0, none⟩) 1 1) true (.slice none 0 0) R]) (rest := T) (touched_o _ s d _ _ _ _ R (by omega) (by omega)) (Ent.refl _) ?_
    rintro _ _ rfl
    conv=>whnf
    exact ret_here rfl
  | true =>
   (conv=>whnf);refine .tt ?_;(conv=>whnf)
   refine CallG.pure (oown_spec _ v1 b1 (.right (hv1) _) (by omega)) ?_
   rintro x2 _ ⟨hx2, rfl⟩
   conv=>whnf
   refine BuildG.of (cs := [.string xK, x2]) (by obtain ⟨_, _, rfl⟩ := hx2.len; rfl) ?_
   conv=>whnf
   refine BuildG.of (cs := [.string xK, x2]) (by obtain ⟨_, _, rfl⟩ := hx2.len; rfl) ?_
   conv=>whnf
   intro b27
   conv=>whnf
   refine BuildG.of (cs := [(.slice (some ⟨b27, 0, none⟩) 1 1)]) rfl ?_
   conv=>whnf
   intro t
   conv=>whnf
   refine CallG.pure (over_h _ _ _) ?_
   rintro _ _ ⟨s, rfl, rfl⟩
   conv=>whnf
   refine CondG.ndec (fun h => absurd rfl h) (fun _ => ?_)
   (conv=>whnf);refine .ff ?_;(conv=>whnf);refine .ff ?_;(conv=>whnf);refine .ff ?_;(conv=>whnf)
   refine CallG.pure (part7_spec _ _ ⟨_, _, _, rfl⟩) ?_
   rintro _ _ ⟨d, rfl, rfl⟩
   conv=>whnf
   obtain ⟨T2, hT2⟩ : ∃ T2, T2 = [cel b27 27 [.string xK, x2], own 1 x2 (b1).length (bvs (b1)), cel b22 27 [.string oK, x1], own 1 x1 (b1).length (bvs (b1))] := ⟨_, rfl⟩
   obtain ⟨hs, hhs⟩ : ∃ hs : List PairD, hs = [⟨xK, x2, b1⟩] := ⟨_, rfl⟩
   have hh : RdS (T2 ++ F) (.slice (some ⟨b27, 0, none⟩) 1 1) hs.length (pairsC hs) := by rw [hT2, hhs]; exact .left (.mk _ _ _ _ _ (Nat.le_refl _) .all) F
   have hho : ∀ p ∈ hs, RdS (T2 ++ F) p.v p.bs.length (bvs p.bs) ∧ (∀ b ∈ p.bs, b < 256) ∧ p.bs.length ≤ 4096 := by
    rw [hT2, hhs]
    intro p hp
    rw [List.mem_singleton.1 hp]
    exact ⟨.left (.tl (own_rd hx2 (by rw [bvs_len, Nat.mul_one]))) F, hbb, (by show (b1).length ≤ 4096; omega)⟩
   have hh1 : hs.length ≤ 4611686018427387904 := by rw [hhs, List.length_singleton]; omega
   obtain ⟨T, hT⟩ : ∃ T, T = cel t 35 [(.slice (some ⟨b27, 0, none⟩) 1 1)] :: T2 := ⟨_, rfl⟩
   have hsT : SrcG Tryz.prog (T ++ F) (.iface 33 (.pointer (some ⟨t, 0, none⟩))) (refF (hs.map PairD.e) [] true) := by
    rw [hT]
    exact some_src (T2 ++ F) t (.slice (some ⟨b27, 0, none⟩) 1 1) hs hh hh1 fun p hp => ⟨(hho p hp).1, by have := (hho p hp).2.2; omega⟩
   have hdT : DocF (T ++ F) (.slice (some ⟨b27, 0, none⟩) 1 1) (.slice none 0 0) true (refF (hs.map PairD.e) [] true) := by
    rw [hT]
    exact ⟨refF_bytesO fun p hp => by obtain ⟨q, hq, rfl⟩ := List.mem_map.1 hp; exact (hho q hq).2.1, hs, [], fun _ _ => rfl, .tl hh, hh1, fun p hp => .tl (hho p hp).1, .nil, by decide⟩
   generalize refF (hs.map PairD.e) [] true = find at hsT hdT
   refine LoopG.mk (fun mm e L => ∃ (i : Nat) (R : RSt), i ≤ xs.length ∧ mm = xs.length - i ∧ Lim R (2 * (xs.length - i)) ∧ R.marks.length ≤ i ∧
    e = [(2, lv), (8, .pointer (some ⟨s, 0, none⟩)), (10, .pointer (some ⟨d, 0, none⟩)), (11, .int .i64 i)] ∧ L = stR 70 s (.iface 33 (.pointer (some ⟨t, 0, none⟩))) R :: refR 73 d (.slice (some ⟨b27, 0, none⟩) 1 1) true (.slice none 0 0) R :: T) xs.length
    [(2, lv), (8, .pointer (some ⟨s, 0, none⟩)), (10, .pointer (some ⟨d, 0, none⟩)), (11, .int .i64 0)] (stR 70 s (.iface 33 (.pointer (some ⟨t, 0, none⟩))) ⟨[], [], [], 0⟩ :: refR 73 d (.slice (some ⟨b27, 0, none⟩) 1 1) true (.slice none 0 0) ⟨[], [], [], 0⟩ :: T) ⟨rfl, rfl, rfl, rfl, trivial⟩ ?_
    ⟨0, ⟨[], [], [], 0⟩, Nat.zero_le _, rfl, ⟨by show 0 + _ ≤ _; omega, by show 0 + _ ≤ _; omega, fun p h => absurd h List.not_mem_nil, fun p h => absurd h List.not_mem_nil⟩, Nat.le_refl _, rfl, rfl⟩ ?_
   ·rw [hT, hT2]
    exact Ent.perm (by classical exact List.perm_iff_count.2 fun x => by simp only [List.append_eq, List.count_append, List.count_cons, List.count_nil]; omega)
   rintro mm e L ⟨i, R, hi, rfl, hlR, hmR, rfl, rfl⟩
   conv=>whnf
   refine LenG.rd hxr ?_
   conv=>whnf
   refine CondG.dec (fun h1 => ?_) (fun h1 => ?_)
   ·have hil : i < xs.length := by omega
    obtain ⟨y, hyi⟩ : ∃ y, y = xs[i] := ⟨_, rfl⟩
    have hyw : y.wf := hx _ (by rw [hyi]; exact List.getElem_mem hil)
    have h30 : y.cells.length = 30 := OStep.cells_len hyw
    have hl2 : Lim R (2 * (xs.length - (i + 1)) + 2) := by rw [show 2 * (xs.length - (i + 1)) + 2 = 2 * (xs.length - i) by omega]; exact hlR
    conv=>whnf
    refine IdxG.rd hxr (by omega) fun cb o hcc => ?_
    conv=>whnf
    refine LoadNG.atF (vs := y.cells) h30 (hcc.part (by rw [h30, Int.toNat_natCast, hyi]; exact flat_get (fun y h => OStep.cells_len (hx y h)) hil)) ?_
    conv=>whnf
    refine CallG.of (pre := [stR 70 s (.iface 33 (.pointer (some ⟨t, 0, none⟩))) R, refR 73 d (.slice (some ⟨b27, 0, none⟩) 1 1) true (.slice none 0 0) R]) (rest := T) (stepped_o hk _ (.right hK _) (.right hTb _) (.right hC' _) (.right hB _) s d R y hyw hsT hdT (hl2.mono (by omega)) (by omega)) (Ent.refl _) ?_
    rintro _ _ ⟨rfl, rfl⟩
    (conv=>whnf);refine .nff ?_;(conv=>whnf)
    refine ArithG.i64' ((i + 1 : Nat) : Int) (by omega) (by omega) ?_
    conv=>whnf
    exact ⟨xs.length - (i + 1), [(2, lv), (8, .pointer (some ⟨s, 0, none⟩)), (10, .pointer (some ⟨d, 0, none⟩)), (11, .int .i64 ((i + 1 : Nat) : Int))], _, by omega, ⟨rfl, rfl, rfl, rfl, trivial⟩, Ent.refl _, i + 1, _, by omega, rfl, hl2.ostep hdT.1 K y, ostep_marks hmR y, rfl, rfl⟩
   ·have c1 := hlR.told
    have c2 := hlR.steps
    conv=>whnf
    refine CallG.of (pre := [stR 70 s (.iface 33 (.pointer (some ⟨t, 0, none⟩))) R, refR 73 d (.slice (some ⟨b27, 0, none⟩) 1 1) true (.slice none 0 0) R]) (rest := T) (touched_o _ s d _ _ _ _ R (by omega) (by omega)) (Ent.refl _) ?_
    rintro _ _ rfl
    conv=>whnf
    exact ret_here rfl
 ·conv=>whnf
  refine CallG.pure (oown_spec _ v bs (hv) (by omega)) ?_
  rintro x1 _ ⟨hx1, rfl⟩
  conv=>whnf
  refine BuildG.of (cs := [.string oK, x1]) (by obtain ⟨_, _, rfl⟩ := hx1.len; rfl) ?_
  conv=>whnf
  refine BuildG.of (cs := [.string oK, x1]) (by obtain ⟨_, _, rfl⟩ := hx1.len; rfl) ?_
  conv=>whnf
  intro b22
  cases mis with
  | false =>
   (conv=>whnf);refine .ff ?_;(conv=>whnf)
   refine BuildG.of (cs := [(.slice (some ⟨b22, 0, none⟩) 1 1)]) rfl ?_
   conv=>whnf
   intro t
   conv=>whnf
   refine CallG.pure (over_h _ _ _) ?_
   rintro _ _ ⟨s, rfl, rfl⟩
   conv=>whnf
   refine CondG.ndec (fun h => absurd rfl h) (fun _ => ?_)
   (conv=>whnf);refine .ff ?_;(conv=>whnf);refine .ff ?_;(conv=>whnf);refine .ff ?_;(conv=>whnf)
   refine CallG.pure (part7_spec _ _ ⟨_, _, _, rfl⟩) ?_
   rintro _ _ ⟨d, rfl, rfl⟩
   conv=>whnf
   obtain ⟨T2, hT2⟩ : ∃ T2, T2 = [cel b22 27 [.string oK, x1], own 1 x1 (bs).length (bvs (bs))] := ⟨_, rfl⟩
   obtain ⟨hs, hhs⟩ : ∃ hs : List PairD, hs = [⟨oK, x1, bs⟩] := ⟨_, rfl⟩
   have hh : RdS (T2 ++ F) (.slice (some ⟨b22, 0, none⟩) 1 1) hs.length (pairsC hs) := by rw [hT2, hhs]; exact .left (.mk _ _ _ _ _ (Nat.le_refl _) .all) F
   have hho : ∀ p ∈ hs, RdS (T2 ++ F) p.v p.bs.length (bvs p.bs) ∧ (∀ b ∈ p.bs, b < 256) ∧ p.bs.length ≤ 4096 := by
    rw [hT2, hhs]
    intro p hp
    rw [List.mem_singleton.1 hp]
    exact ⟨.left (.tl (own_rd hx1 (by rw [bvs_len, Nat.mul_one]))) F, hb, (by show (bs).length ≤ 4096; omega)⟩
   have hh1 : hs.length ≤ 4611686018427387904 := by rw [hhs, List.length_singleton]; omega
   obtain ⟨T, hT⟩ : ∃ T, T = cel t 35 [(.slice (some ⟨b22, 0, none⟩) 1 1)] :: T2 := ⟨_, rfl⟩
   have hsT : SrcG Tryz.prog (T ++ F) (.iface 33 (.pointer (some ⟨t, 0, none⟩))) (refF (hs.map PairD.e) [] true) := by
    rw [hT]
    exact some_src (T2 ++ F) t (.slice (some ⟨b22, 0, none⟩) 1 1) hs hh hh1 fun p hp => ⟨(hho p hp).1, by have := (hho p hp).2.2; omega⟩
   have hdT : DocF (T ++ F) (.slice (some ⟨b22, 0, none⟩) 1 1) (.slice none 0 0) true (refF (hs.map PairD.e) [] true) := by
    rw [hT]
    exact ⟨refF_bytesO fun p hp => by obtain ⟨q, hq, rfl⟩ := List.mem_map.1 hp; exact (hho q hq).2.1, hs, [], fun _ _ => rfl, .tl hh, hh1, fun p hp => .tl (hho p hp).1, .nil, by decide⟩
   generalize refF (hs.map PairD.e) [] true = find at hsT hdT
   refine LoopG.mk (fun mm e L => ∃ (i : Nat) (R : RSt), i ≤ xs.length ∧ mm = xs.length - i ∧ Lim R (2 * (xs.length - i)) ∧ R.marks.length ≤ i ∧
    e = [(2, lv), (8, .pointer (some ⟨s, 0, none⟩)), (10, .pointer (some ⟨d, 0, none⟩)), (11, .int .i64 i)] ∧ L = stR 70 s (.iface 33 (.pointer (some ⟨t, 0, none⟩))) R :: refR 73 d (.slice (some ⟨b22, 0, none⟩) 1 1) true (.slice none 0 0) R :: T) xs.length
    [(2, lv), (8, .pointer (some ⟨s, 0, none⟩)), (10, .pointer (some ⟨d, 0, none⟩)), (11, .int .i64 0)] (stR 70 s (.iface 33 (.pointer (some ⟨t, 0, none⟩))) ⟨[], [], [], 0⟩ :: refR 73 d (.slice (some ⟨b22, 0, none⟩) 1 1) true (.slice none 0 0) ⟨[], [], [], 0⟩ :: T) ⟨rfl, rfl, rfl, rfl, trivial⟩ ?_
    ⟨0, ⟨[], [], [], 0⟩, Nat.zero_le _, rfl, ⟨by show 0 + _ ≤ _; omega, by show 0 + _ ≤ _; omega, fun p h => absurd h List.not_mem_nil, fun p h => absurd h List.not_mem_nil⟩, Nat.le_refl _, rfl, rfl⟩ ?_
   ·rw [hT, hT2]
    exact Ent.perm (by classical exact List.perm_iff_count.2 fun x => by simp only [List.append_eq, List.count_append, List.count_cons, List.count_nil]; omega)
   rintro mm e L ⟨i, R, hi, rfl, hlR, hmR, rfl, rfl⟩
   conv=>whnf
   refine LenG.rd hxr ?_
   conv=>whnf
   refine CondG.dec (fun h1 => ?_) (fun h1 => ?_)
   ·have hil : i < xs.length := by omega
    obtain ⟨y, hyi⟩ : ∃ y, y = xs[i] := ⟨_, rfl⟩
    have hyw : y.wf := hx _ (by rw [hyi]; exact List.getElem_mem hil)
    have h30 : y.cells.length = 30 := OStep.cells_len hyw
    have hl2 : Lim R (2 * (xs.length - (i + 1)) + 2) := by rw [show 2 * (xs.length - (i + 1)) + 2 = 2 * (xs.length - i) by omega]; exact hlR
    conv=>whnf
    refine IdxG.rd hxr (by omega) fun cb o hcc => ?_
    conv=>whnf
    refine LoadNG.atF (vs := y.cells) h30 (hcc.part (by rw [h30, Int.toNat_natCast, hyi]; exact flat_get (fun y h => OStep.cells_len (hx y h)) hil)) ?_
    conv=>whnf
    refine CallG.of (pre := [stR 70 s (.iface 33 (.pointer (some ⟨t, 0, none⟩))) R, refR 73 d (.slice (some ⟨b22, 0, none⟩) 1 1) true (.slice none 0 0) R]) (rest := T) (stepped_o hk _ (.right hK _) (.right hTb _) (.right hC' _) (.right hB _) s d R y hyw hsT hdT (hl2.mono (by omega)) (by omega)) (Ent.refl _) ?_
    rintro _ _ ⟨rfl, rfl⟩
    (conv=>whnf);refine .nff ?_;(conv=>whnf)
    refine ArithG.i64' ((i + 1 : Nat) : Int) (by omega) (by omega) ?_
    conv=>whnf
    exact ⟨xs.length - (i + 1), [(2, lv), (8, .pointer (some ⟨s, 0, none⟩)), (10, .pointer (some ⟨d, 0, none⟩)), (11, .int .i64 ((i + 1 : Nat) : Int))], _, by omega, ⟨rfl, rfl, rfl, rfl, trivial⟩, Ent.refl _, i + 1, _, by omega, rfl, hl2.ostep hdT.1 K y, ostep_marks hmR y, rfl, rfl⟩
   ·have c1 := hlR.told
    have c2 := hlR.steps
    conv=>whnf
    refine CallG.of (pre := [stR 70 s (.iface 33 (.pointer (some ⟨t, 0, none⟩))) R, refR 73 d (.slice (some ⟨b22, 0, none⟩) 1 1) true (.slice none 0 0) R]) (rest := T) (touched_o _ s d _ _ _ _ R (by omega) (by omega)) (Ent.refl _) ?_
    rintro _ _ rfl
    conv=>whnf
    exact ret_here rfl
  | true =>
   (conv=>whnf);refine .tt ?_;(conv=>whnf)
   refine CallG.pure (oown_spec _ v bs (.right (hv) _) (by omega)) ?_
   rintro x2 _ ⟨hx2, rfl⟩
   conv=>whnf
   refine BuildG.of (cs := [.string xK, x2]) (by obtain ⟨_, _, rfl⟩ := hx2.len; rfl) ?_
   conv=>whnf
   refine BuildG.of (cs := [.string xK, x2]) (by obtain ⟨_, _, rfl⟩ := hx2.len; rfl) ?_
   conv=>whnf
   intro b27
   conv=>whnf
   refine BuildG.of (cs := [(.slice (some ⟨b27, 0, none⟩) 1 1)]) rfl ?_
   conv=>whnf
   intro t
   conv=>whnf
   refine CallG.pure (over_h _ _ _) ?_
   rintro _ _ ⟨s, rfl, rfl⟩
   conv=>whnf
   refine CondG.ndec (fun h => absurd rfl h) (fun _ => ?_)
   (conv=>whnf);refine .ff ?_;(conv=>whnf);refine .ff ?_;(conv=>whnf);refine .ff ?_;(conv=>whnf)
   refine CallG.pure (part7_spec _ _ ⟨_, _, _, rfl⟩) ?_
   rintro _ _ ⟨d, rfl, rfl⟩
   conv=>whnf
   obtain ⟨T2, hT2⟩ : ∃ T2, T2 = [cel b27 27 [.string xK, x2], own 1 x2 (bs).length (bvs (bs)), cel b22 27 [.string oK, x1], own 1 x1 (bs).length (bvs (bs))] := ⟨_, rfl⟩
   obtain ⟨hs, hhs⟩ : ∃ hs : List PairD, hs = [⟨xK, x2, bs⟩] := ⟨_, rfl⟩
   have hh : RdS (T2 ++ F) (.slice (some ⟨b27, 0, none⟩) 1 1) hs.length (pairsC hs) := by rw [hT2, hhs]; exact .left (.mk _ _ _ _ _ (Nat.le_refl _) .all) F
   have hho : ∀ p ∈ hs, RdS (T2 ++ F) p.v p.bs.length (bvs p.bs) ∧ (∀ b ∈ p.bs, b < 256) ∧ p.bs.length ≤ 4096 := by
    rw [hT2, hhs]
    intro p hp
    rw [List.mem_singleton.1 hp]
    exact ⟨.left (.tl (own_rd hx2 (by rw [bvs_len, Nat.mul_one]))) F, hb, (by show (bs).length ≤ 4096; omega)⟩
   have hh1 : hs.length ≤ 4611686018427387904 := by rw [hhs, List.length_singleton]; omega
   obtain ⟨T, hT⟩ : ∃ T, T = cel t 35 [(.slice (some ⟨b27, 0, none⟩) 1 1)] :: T2 := ⟨_, rfl⟩
   have hsT : SrcG Tryz.prog (T ++ F) (.iface 33 (.pointer (some ⟨t, 0, none⟩))) (refF (hs.map PairD.e) [] true) := by
    rw [hT]
    exact some_src (T2 ++ F) t (.slice (some ⟨b27, 0, none⟩) 1 1) hs hh hh1 fun p hp => ⟨(hho p hp).1, by have := (hho p hp).2.2; omega⟩
   have hdT : DocF (T ++ F) (.slice (some ⟨b27, 0, none⟩) 1 1) (.slice none 0 0) true (refF (hs.map PairD.e) [] true) := by
    rw [hT]
    exact ⟨refF_bytesO fun p hp => by obtain ⟨q, hq, rfl⟩ := List.mem_map.1 hp; exact (hho q hq).2.1, hs, [], fun _ _ => rfl, .tl hh, hh1, fun p hp => .tl (hho p hp).1, .nil, by decide⟩
   generalize refF (hs.map PairD.e) [] true = find at hsT hdT
   refine LoopG.mk (fun mm e L => ∃ (i : Nat) (R : RSt), i ≤ xs.length ∧ mm = xs.length - i ∧ Lim R (2 * (xs.length - i)) ∧ R.marks.length ≤ i ∧
    e = [(2, lv), (8, .pointer (some ⟨s, 0, none⟩)), (10, .pointer (some ⟨d, 0, none⟩)), (11, .int .i64 i)] ∧ L = stR 70 s (.iface 33 (.pointer (some ⟨t, 0, none⟩))) R :: refR 73 d (.slice (some ⟨b27, 0, none⟩) 1 1) true (.slice none 0 0) R :: T) xs.length
    [(2, lv), (8, .pointer (some ⟨s, 0, none⟩)), (10, .pointer (some ⟨d, 0, none⟩)), (11, .int .i64 0)] (stR 70 s (.iface 33 (.pointer (some ⟨t, 0, none⟩))) ⟨[], [], [], 0⟩ :: refR 73 d (.slice (some ⟨b27, 0, none⟩) 1 1) true (.slice none 0 0) ⟨[], [], [], 0⟩ :: T) ⟨rfl, rfl, rfl, rfl, trivial⟩ ?_
    ⟨0, ⟨[], [], [], 0⟩, Nat.zero_le _, rfl, ⟨by show 0 + _ ≤ _; omega, by show 0 + _ ≤ _; omega, fun p h => absurd h List.not_mem_nil, fun p h => absurd h List.not_mem_nil⟩, Nat.le_refl _, rfl, rfl⟩ ?_
   ·rw [hT, hT2]
    exact Ent.perm (by classical exact List.perm_iff_count.2 fun x => by simp only [List.append_eq, List.count_append, List.count_cons, List.count_nil]; omega)
   rintro mm e L ⟨i, R, hi, rfl, hlR, hmR, rfl, rfl⟩
   conv=>whnf
   refine LenG.rd hxr ?_
   conv=>whnf
   refine CondG.dec (fun h1 => ?_) (fun h1 => ?_)
   ·have hil : i < xs.length := by omega
    obtain ⟨y, hyi⟩ : ∃ y, y = xs[i] := ⟨_, rfl⟩
    have hyw : y.wf := hx _ (by rw [hyi]; exact List.getElem_mem hil)
    have h30 : y.cells.length = 30 := OStep.cells_len hyw
    have hl2 : Lim R (2 * (xs.length - (i + 1)) + 2) := by rw [show 2 * (xs.length - (i + 1)) + 2 = 2 * (xs.length - i) by omega]; exact hlR
    conv=>whnf
    refine IdxG.rd hxr (by omega) fun cb o hcc => ?_
    conv=>whnf
    refine LoadNG.atF (vs := y.cells) h30 (hcc.part (by rw [h30, Int.toNat_natCast, hyi]; exact flat_get (fun y h => OStep.cells_len (hx y h)) hil)) ?_
    conv=>whnf
    refine CallG.of (pre := [stR 70 s (.iface 33 (.pointer (some ⟨t, 0, none⟩))) R, refR 73 d (.slice (some ⟨b27, 0, none⟩) 1 1) true (.slice none 0 0) R]) (rest := T) (stepped_o hk _ (.right hK _) (.right hTb _) (.right hC' _) (.right hB _) s d R y hyw hsT hdT (hl2.mono (by omega)) (by omega)) (Ent.refl _) ?_
    rintro _ _ ⟨rfl, rfl⟩
    (conv=>whnf);refine .nff ?_;(conv=>whnf)
    refine ArithG.i64' ((i + 1 : Nat) : Int) (by omega) (by omega) ?_
    conv=>whnf
    exact ⟨xs.length - (i + 1), [(2, lv), (8, .pointer (some ⟨s, 0, none⟩)), (10, .pointer (some ⟨d, 0, none⟩)), (11, .int .i64 ((i + 1 : Nat) : Int))], _, by omega, ⟨rfl, rfl, rfl, rfl, trivial⟩, Ent.refl _, i + 1, _, by omega, rfl, hl2.ostep hdT.1 K y, ostep_marks hmR y, rfl, rfl⟩
   ·have c1 := hlR.told
    have c2 := hlR.steps
    conv=>whnf
    refine CallG.of (pre := [stR 70 s (.iface 33 (.pointer (some ⟨t, 0, none⟩))) R, refR 73 d (.slice (some ⟨b27, 0, none⟩) 1 1) true (.slice none 0 0) R]) (rest := T) (touched_o _ s d _ _ _ _ R (by omega) (by omega)) (Ent.refl _) ?_
    rintro _ _ rfl
    conv=>whnf
    exact ret_here rfl
end Go.Proofs.YtmfonkklmndhjaaGreatDoor
