import Derived.Test.YtjacolfhlfogkabGreatDoorKg
import Derived.Test.YtjacolfhlfogkabGreatDoorZTu
namespace Go.Proofs.YtjacolfhlfogkabGreatDoor
open Go Go.Sl Go.Sort
theorem tab_all {K : List W32} {n : Nat} {c : TabD} (hw : c.wf K n) : AllF (tabFind c.vals) := fun k hk => by
 have h1 := tabFind_len (vals := c.vals) (fun p hp => (hw.vals p hp).2.1) k
 refine ⟨?_, h1⟩
 unfold tabFind
 rw [if_neg (fun h => h hk)]
theorem tstays_spec (F : List HP) (K : List W32) (hk64 : K.length = 64) (hK : CelN F 0 0 (wvs K)) (pv : Value) (ls : List PairD) (hr : RdS F pv ls.length (pairsC ls)) (hl : ls.length ≤ 3518437208882) (hok : ∀ p ∈ ls, RdS F p.v p.bs.length (bvs p.bs) ∧ ∀ b ∈ p.bs, b < 256)
 (lv : Value) (xs : List StepT) (hx : ∀ x ∈ xs, x.wf) (hxl : xs.length ≤ 1172812402961) (hxr : RdS F lv xs.length (xs.flatMap StepT.cells)) :
 SpecF Tryz.prog 4 [pv, lv] F [] (fun r L => r = .bool true) := by
 refine fun4.spec rfl ?_
 conv=>whnf
 refine CallG.pure (laid_spec _ pv ls (.right hr _) (by omega) (fun p hp => .right (hok p hp).1 _)) ?_
 rintro hv _ ⟨hs, S, hhv, rfl, hol, hfit, hS⟩
 have hom : ∀ p ∈ hs, (∀ b ∈ p.bs, b < 256) ∧ mayI p.key p.bs.length = 0 := fun p hp => by
  have h1 : p.e ∈ fitB [] (ls.map PairD.e) := by rw [← hfit]; exact List.mem_map_of_mem hp
  rcases fitB_mem h1 with h2 | ⟨h2, h3, _⟩
  ·cases h2
  ·obtain ⟨q, hq, e⟩ := List.mem_map.1 h2
   have eb : q.bs = p.bs := congrArg Prod.snd e
   exact ⟨by rw [← eb]; exact (hok q hq).2, h3⟩
 have hrd : ∀ M : List HP, (∀ p ∈ hs, RdS (own 2 hv hs.length (pairsC hs) :: (shs S ++ M)) p.v p.bs.length (bvs p.bs)) := fun M p hp => by
  have h := (ShG.here (S := S) (L := M)).tl (p := own 2 hv hs.length (pairsC hs)) p.v (bvs p.bs) (hS p hp)
  rw [bvs_len] at h
  exact h
 have eF : own 2 hv hs.length (pairsC hs) :: shs S ++ [] ++ F = own 2 hv hs.length (pairsC hs) :: (shs S ++ F) := by simp
 conv=>whnf
 refine CallG.pure (F := F) (fresh_q hk64 _ (hK.right _) hv hs (own_rd hhv (pairsC_len _)) (by omega) (fun p hp => ⟨by rw [eF]; exact hrd F p hp, hom p hp⟩)) ?_
 rintro _ _ ⟨s, t, c, rfl, hcw, hck, rfl⟩
 have hall := tab_all hcw
 have hnd : ((hs.map PairD.e).map (·.1)).Nodup := by rw [hfit]; exact fitB_nodup _ _ List.nodup_nil
 have hls : ∀ k, lastS (hs.map PairD.e) k = atL (hs.map PairD.e) k := fun k => atL_perm hnd (List.reverse_perm _).symm k
 have hff : ∀ k, mayI k 0 = 0 → tabFind c.vals k = refF (hs.map PairD.e) [] false k := fun k hk => by
  unfold tabFind refF
  rw [if_neg (fun h => h hk), hck k, hls k, if_neg (show ¬ noF [] k ≠ 0 from fun h => h rfl), if_neg (by simp)]
 have hfb : SrcF.bytes (tabFind c.vals) := fun k b hb => by
  by_cases hk : mayI k 0 = 0
  ·rw [hff k hk] at hb
   exact refF_bytes (fun p hp => by obtain ⟨q, hq, rfl⟩ := List.mem_map.1 hp; exact (hom q hq).1) k b hb
  ·unfold tabFind at hb
   rw [if_pos hk] at hb
   cases hb
 (conv=>whnf);refine .ff ?_;(conv=>whnf)
 refine CallG.pure (known9_spec _) ?_
 rintro _ _ ⟨rfl, rfl⟩
 (conv=>whnf);repeat((with_reducible first|refine .ff ?_|refine .nff ?_);conv=>whnf)
 obtain ⟨T, hT⟩ : ∃ T, T = c.pieces 147 171 220 t ++ (own 2 hv hs.length (pairsC hs) :: shs S) := ⟨_, rfl⟩
 have hsT : SrcG Tryz.prog (T ++ F) (.iface 105 (.pointer (some ⟨t, 0, none⟩))) (tabFind c.vals) := by
  rw [hT, List.append_assoc]
  exact tab_srcD _ t c hcw
 obtain ⟨src, hsrc⟩ : ∃ src, src = (Value.iface 105 (.pointer (some ⟨t, 0, none⟩))) := ⟨_, rfl⟩
 obtain ⟨find, hfind⟩ : ∃ find : SrcF, find = tabFind c.vals := ⟨_, rfl⟩
 rw [← hsrc, ← hfind] at hsT
 rw [← hfind] at hall hfb
 refine LoopG.mk (fun mm e L => ∃ (i : Nat) (R : RSt), i ≤ xs.length ∧ mm = xs.length - i ∧ Cnt R (2 * i) (3 * i) ∧ Lim R 0 ∧ R.marks.length ≤ i ∧ Inv9 R ∧
  e = [(1, lv), (4, .bool false), (5, .pointer (some ⟨s, 0, none⟩)), (6, .int .i64 i)] ∧ L = stR 75 s src R :: T) xs.length
  [(1, lv), (4, .bool false), (5, .pointer (some ⟨s, 0, none⟩)), (6, .int .i64 0)] (stR 75 s src ⟨[], [], [], 0⟩ :: T) ⟨rfl, rfl, rfl, rfl, trivial⟩ ?_
  ⟨0, ⟨[], [], [], 0⟩, Nat.zero_le _, rfl, ⟨List.Pairwise.nil, Nat.le_refl _, Nat.le_refl _⟩, ⟨by show 0 + 0 ≤ _; omega, by show 0 + 0 ≤ _; omega, fun p h => absurd h List.not_mem_nil, fun p h => absurd h List.not_mem_nil⟩, Nat.le_refl _, fun p h => absurd h List.not_mem_nil, rfl, rfl⟩ ?_
 ·rw [hT, hsrc]
  exact Ent.perm (by classical exact List.perm_iff_count.2 fun x => by simp only [List.append_eq, List.count_append, List.count_cons, List.count_nil]; omega)
 rintro mm e L ⟨i, R, hi, rfl, hcR, hlR, hmR, hI, rfl, rfl⟩
 conv=>whnf
 refine LenG.rd hxr ?_
 conv=>whnf
 refine CondG.dec (fun h1 => ?_) (fun h1 => ?_)
 ·have hil : i < xs.length := by omega
  obtain ⟨x, hxi⟩ : ∃ x, x = xs[i] := ⟨_, rfl⟩
  have hxm : x ∈ xs := by rw [hxi]; exact List.getElem_mem hil
  have hxw : x.wf := hx _ hxm
  have h49 : x.cells.length = 49 := StepT.cells_len hxw
  have hwf := stepTk_wf find R x
  have hA49 : (stepTk find R x).1.cells.length = 49 := AnsT.cells_len hwf
  have hlR7 : Lim R 7 := hcR.lim hlR (by omega)
  have hlN : Lim (stepTk find R x).2 0 := hlR7.tick hfb hxw
  have hcN : Cnt (stepTk find R x).2 (2 * (i + 1)) (3 * (i + 1)) := (hcR.tick x).mono (by omega) (by omega)
  have c2 := hcN.told
  have hmN := tick_marks (find := find) hmR x
  have b1 := hlR7.told
  have b2 := hlR7.steps
  conv=>whnf
  refine CallG.of (pre := [stR 75 s src R]) (rest := T) (changes_h _ s src (by omega)) (Ent.refl _) ?_
  rintro av _ ⟨l1, hm1, hav, hl1, hs1, rfl⟩
  conv=>whnf
  refine IdxG.rd hxr (by omega) fun cb o hcc => ?_
  have hcx : CelN F cb (o + (i : Int).toNat * 49) x.cells := hcc.part (by rw [h49, Int.toNat_natCast, hxi]; exact flat_get (fun y h => StepT.cells_len (hx y h)) hil)
  conv=>whnf
  refine LoadNG.atF (vs := x.cells) h49 hcx ?_
  conv=>whnf
  refine CallG.of (pre := [stR 75 s src R]) (rest := own 3 av l1.length (l1.flatMap ChD.cells) :: (chS l1 ++ T)) (stepped_t _ s src R x hxw (by have h := hsT.left (own 3 av l1.length (l1.flatMap ChD.cells) :: chS l1); rw [← List.append_assoc] at h; exact h) (by omega) (by omega)) (Ent.perm (by classical exact List.perm_iff_count.2 fun x => by simp only [List.append_eq, List.count_append, List.count_cons, List.count_nil]; omega)) ?_
  rintro _ _ ⟨rfl, rfl⟩
  conv=>whnf
  intro b8
  conv=>whnf
  refine StoreG.at hA49 (Upd.whole (by rw [hA49]; rfl) (AnsT.cells_one _)) ?_
  conv=>whnf
  refine CallG.of (pre := [stR 75 s src (stepTk find R x).2]) (rest := cel b8 42 (stepTk find R x).1.cells :: own 3 av l1.length (l1.flatMap ChD.cells) :: (chS l1 ++ T)) (changes_h _ s src (by omega)) (Ent.perm (by classical exact List.perm_iff_count.2 fun x => by simp only [List.append_eq, List.count_append, List.count_cons, List.count_nil]; omega)) ?_
  rintro bv _ ⟨l2, hm2, hbv, hl2, hs2, rfl⟩
  conv=>whnf
  refine LoadG.ent (M := cel b8 42 (stepTk find R x).1.cells :: (stR 75 s src (stepTk find R x).2 :: own 3 bv l2.length (l2.flatMap ChD.cells) :: (chS l2 ++ (own 3 av l1.length (l1.flatMap ChD.cells) :: (chS l1 ++ T))))) (Ent.perm (by classical exact List.perm_iff_count.2 fun x => by simp only [List.append_eq, List.count_append, List.count_cons, List.count_nil]; omega)) ?_
  refine LoadG.at (v := .int .i64 (stepTk find R x).1.code) (.here rfl) ?_
  conv=>whnf
  refine CondG.ndec (fun hc => ?_) (fun hc => ?_)
  ·(conv=>whnf);refine .tt ?_;(conv=>whnf);refine .tt ?_;(conv=>whnf)
   refine IdxG.rd hxr (by omega) fun cb2 o2 hcc2 => ?_
   have hcx2 : CelN F cb2 (o2 + (i : Int).toNat * 49) x.cells := hcc2.part (by rw [h49, Int.toNat_natCast, hxi]; exact flat_get (fun y h => StepT.cells_len (hx y h)) hil)
   (conv=>whnf);refine .tt ?_;(conv=>whnf);refine .tt ?_;(conv=>whnf)
   refine LoadG.atF (hcx2.one (i := 0) (u := .int .i64 x.what) rfl) ?_
   (conv=>whnf);refine .tt ?_;(conv=>whnf)
   refine CallG.pure (kpick_spec _ x.what 14 hxw.w1 hxw.w2 (by decide)) ?_
   rintro _ _ ⟨rfl, rfl⟩
   (conv=>whnf);refine .tt ?_;(conv=>whnf);refine .tt ?_;(conv=>whnf)
   refine CondG.dec (fun h12 => ?_) (fun h12 => ?_)
   ·have heq := tick_quiet hall hI hxw (by omega) hc
    rw [heq] at hm2
    (conv=>whnf);refine .tt ?_;(conv=>whnf);refine .tt ?_;(conv=>whnf)
    have r1 := ch_rd9 (M := T) hav hs1
    have r2 := ch_rd9 (M := cel b8 42 (stepTk find R x).1.cells :: own 3 av l1.length (l1.flatMap ChD.cells) :: (chS l1 ++ T)) hbv hs2
    refine CallG.pure (changes9_same _ av bv l1 l2 (by omega) (hm1.trans hm2.symm) ?_ ?_ ?_ ?_) ?_
    ·exact .left ((RdS.tl r1.1).right (stR 75 s src (stepTk find R x).2 :: own 3 bv l2.length (l2.flatMap ChD.cells) :: chS l2)) F
    ·exact .left (.tl r2.1) F
    ·exact fun y hy => ⟨.left ((RdS.tl (r1.2 y hy).1).right (stR 75 s src (stepTk find R x).2 :: own 3 bv l2.length (l2.flatMap ChD.cells) :: chS l2)) F, .left ((RdS.tl (r1.2 y hy).2).right (stR 75 s src (stepTk find R x).2 :: own 3 bv l2.length (l2.flatMap ChD.cells) :: chS l2)) F⟩
    ·exact fun y hy => ⟨.left (.tl (r2.2 y hy).1) F, .left (.tl (r2.2 y hy).2) F⟩
    rintro _ _ ⟨rfl, rfl⟩
    (conv=>whnf);repeat((with_reducible first|refine .tt ?_|refine .nff ?_);conv=>whnf)
    refine ArithG.i64' ((i + 1 : Nat) : Int) (by omega) (by omega) ?_
    conv=>whnf
    exact ⟨xs.length - (i + 1), [(1, lv), (4, .bool false), (5, .pointer (some ⟨s, 0, none⟩)), (6, .int .i64 ((i + 1 : Nat) : Int))], stR 75 s src (stepTk find R x).2 :: T, by omega, ⟨rfl, rfl, rfl, rfl, trivial⟩, (Ent.perm (by classical exact List.perm_iff_count.2 fun x => by simp only [List.append_eq, List.count_append, List.count_cons, List.count_nil]; omega)).trans (Ent.dropR (own 3 bv l2.length (l2.flatMap ChD.cells) :: (chS l2 ++ (cel b8 42 (stepTk find R x).1.cells :: own 3 av l1.length (l1.flatMap ChD.cells) :: chS l1))) _), i + 1, _, by omega, rfl, hcN, hlN, hmN, hI.tick x, rfl, rfl⟩
   ·(conv=>whnf);refine .ff ?_;(conv=>whnf);refine .ff ?_;(conv=>whnf);refine .ff ?_;(conv=>whnf);refine .ff ?_;(conv=>whnf);refine .ff ?_;(conv=>whnf)
    refine ArithG.i64' ((i + 1 : Nat) : Int) (by omega) (by omega) ?_
    conv=>whnf
    exact ⟨xs.length - (i + 1), [(1, lv), (4, .bool false), (5, .pointer (some ⟨s, 0, none⟩)), (6, .int .i64 ((i + 1 : Nat) : Int))], stR 75 s src (stepTk find R x).2 :: T, by omega, ⟨rfl, rfl, rfl, rfl, trivial⟩, (Ent.perm (by classical exact List.perm_iff_count.2 fun x => by simp only [List.append_eq, List.count_append, List.count_cons, List.count_nil]; omega)).trans (Ent.dropR (own 3 bv l2.length (l2.flatMap ChD.cells) :: (chS l2 ++ (cel b8 42 (stepTk find R x).1.cells :: own 3 av l1.length (l1.flatMap ChD.cells) :: chS l1))) _), i + 1, _, by omega, rfl, hcN, hlN, hmN, hI.tick x, rfl, rfl⟩
  ·(conv=>whnf);repeat((with_reducible first|refine .tt ?_|refine .ff ?_|refine .ntt ?_|refine .nff ?_);conv=>whnf)
   refine ArithG.i64' ((i + 1 : Nat) : Int) (by omega) (by omega) ?_
   conv=>whnf
   exact ⟨xs.length - (i + 1), [(1, lv), (4, .bool false), (5, .pointer (some ⟨s, 0, none⟩)), (6, .int .i64 ((i + 1 : Nat) : Int))], stR 75 s src (stepTk find R x).2 :: T, by omega, ⟨rfl, rfl, rfl, rfl, trivial⟩, (Ent.perm (by classical exact List.perm_iff_count.2 fun x => by simp only [List.append_eq, List.count_append, List.count_cons, List.count_nil]; omega)).trans (Ent.dropR (own 3 bv l2.length (l2.flatMap ChD.cells) :: (chS l2 ++ (cel b8 42 (stepTk find R x).1.cells :: own 3 av l1.length (l1.flatMap ChD.cells) :: chS l1))) _), i + 1, _, by omega, rfl, hcN, hlN, hmN, hI.tick x, rfl, rfl⟩
 ·conv=>whnf
  exact ret_here rfl
end Go.Proofs.YtjacolfhlfogkabGreatDoor
