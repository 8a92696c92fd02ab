import Derived.Test.YtjkldhalmglkpaaDoorUa
import Derived.Test.YtjkldhalmglkpaaDoorSn
namespace Go.Proofs.YtjkldhalmglkpaaDoor
open Go Go.Sl Go.Sort
theorem tab0_good (K : List W32) (vb q ob : Nat) : GoodT K (tab0 vb q ob) := ⟨tab0_wf _ _ _ _ _, List.nodup_nil, fun _ _ => rfl, trivial⟩
theorem spec_hold {P : Program} {f : FuncId} {args : List Value} {F pre : List HP} {v : Value} (h : SpecF P f args (pre ++ F) [] (fun r L => r = v ∧ L = [])) : SpecF P f args F pre (fun r L => r = v ∧ L = pre) := fun w hs =>
 (h w hs).mono fun e w' ⟨u, L, he, ⟨hu, hL⟩, hx, hs'⟩ => ⟨u, pre, he, ⟨hu, rfl⟩, hx, by rw [hL] at hs'; exact hs'⟩
section
variable {K : List W32} (hk : K.length = 64)
theorem tlen_g (F : List HP) (t : Nat) (c : TabD) (L : List HP) : SpecF Tryd.prog 23 [.pointer (some ⟨t, 0, none⟩)] ((c.pieces 89 124 144 t ++ L) ++ F) [] (fun r L' => r = .int .i64 c.vals.length ∧ L' = []) := by
 have h := tlen_spec ((c.pieces 89 124 144 t ++ L) ++ F) t c.vb (kvM c.vals) (.left (.left (.here rfl) _) F) (MapG.left (MapG.left (.tl .here) _) F)
 rw [kvM, List.length_map] at h
 exact h
theorem tlen_p (F : List HP) (t : Nat) (c : TabD) : SpecF Tryd.prog 23 [.pointer (some ⟨t, 0, none⟩)] F (c.pieces 89 124 144 t) (fun r L' => r = .int .i64 c.vals.length ∧ L' = c.pieces 89 124 144 t) := by
 have h := tlen_g F t c []
 rw [List.append_nil] at h
 exact spec_hold h
theorem mroot_spec (F : List HP) (Bs : Bls) (hB : BsG F Bs) (q : Nat) (top : Value) (len : Int) (t : Trie) (hn : NdB K Bs t top) (h0 : Cel F q 0 top) : SpecF Tryd.prog 52 [.pointer (some ⟨q, 0, none⟩)] F [] (fun r L => r = .agg ⟨bvs (t.sum K)⟩ ∧ L = []) := by
 refine fun52.spec rfl ?_
 conv=>whnf
 intro b
 conv=>whnf
 refine LoadG.atF h0 ?_
 conv=>whnf
 refine CallG.pure (over_spec' _ (hB.right _) _ _ hn) ?_
 rintro _ _ ⟨rfl, rfl⟩
 conv=>whnf
 have hs : (t.sum K).length = 32 := (Trie.sum_is K t).len
 refine StoreG.at (by rw [bvs_len, hs]) (Upd.whole (vs := bvs (t.sum K)) (by rw [bvs_len, hs]; rfl) (bvs_one _)) ?_
 conv=>whnf
 refine LoadNG.at (vs := bvs (t.sum K)) (by rw [bvs_len, hs]) .all ?_
 exact ⟨[], Ent.nil _, rfl, rfl⟩
theorem troot_g (F : List HP) (t : Nat) (c : TabD) (hg : GoodT K c) (L : List HP) : SpecF Tryd.prog 22 [.pointer (some ⟨t, 0, none⟩)] ((c.pieces 89 124 144 t ++ L) ++ F) [] (fun r L' => r = .agg ⟨bvs (c.tree.sum K)⟩ ∧ L' = []) := by
 refine fun22.spec rfl ?_
 conv=>whnf
 intro b
 conv=>whnf
 refine LoadG.atF (.left (.left (.here rfl) _) F) ?_
 conv=>whnf
 refine CallG.pure (mroot_spec _ c.Bs (((TabD.bsG.left L).left F).right _) c.q c.top c.len c.tree hg.wf.node (.right (.left (.left (.tl (.tl (.tl (.here rfl)))) _) F) _)) ?_
 rintro _ _ ⟨rfl, rfl⟩
 conv=>whnf
 have hs : (c.tree.sum K).length = 32 := (Trie.sum_is K c.tree).len
 refine StoreG.at (by rw [bvs_len, hs]) (Upd.whole (vs := bvs (c.tree.sum K)) (by rw [bvs_len, hs]; rfl) (bvs_one _)) ?_
 conv=>whnf
 refine LoadNG.at (vs := bvs (c.tree.sum K)) (by rw [bvs_len, hs]) .all ?_
 exact ⟨[], Ent.nil _, rfl, rfl⟩
theorem troot_p (F : List HP) (t : Nat) (c : TabD) (hg : GoodT K c) : SpecF Tryd.prog 22 [.pointer (some ⟨t, 0, none⟩)] F (c.pieces 89 124 144 t) (fun r L' => r = .agg ⟨bvs (c.tree.sum K)⟩ ∧ L' = c.pieces 89 124 144 t) := by
 have h := troot_g F t c hg []
 rw [List.append_nil] at h
 exact spec_hold h
include hk
theorem tput_g (F : List HP) (hK : CelN F 0 0 (wvs K)) (t : Nat) (c : TabD) (hg : GoodT K c) (hn : c.vals.length ≤ 8796093022206) (key : ByteArray) (v : Value) (bs : List Nat) (hv : RdS F v bs.length (bvs bs)) (hb : ∀ b ∈ bs, b < 256) :
 SpecF Tryd.prog 12 [.pointer (some ⟨t, 0, none⟩), .string key, v] F (c.pieces 89 124 144 t) (fun r L => r = .int .i64 (mayI key bs.length) ∧ ∃ c' : TabD, GoodT K c' ∧ c'.cont = putC c.cont key bs ∧ (c'.vals.length ≤ c.vals.length + if bs = [] then 0 else 1) ∧ L = c'.pieces 89 124 144 t) :=
 (tput_spec hk F hK t c _ hg.wf hn key v bs hv hb).turn fun r L h => by
  obtain ⟨rfl, ⟨h1, rfl⟩ | ⟨h1, c', hc, rfl⟩⟩ := h
  ·exact ⟨_, ⟨rfl, c, hg, by rw [putC, if_neg h1], Nat.le_add_right _ _, rfl⟩, Ent.refl _⟩
  ·exact ⟨_, ⟨rfl, c', hg.lay hc, by rw [putC, if_pos h1]; exact hc.cont, hc.len, rfl⟩, Ent.refl _⟩
theorem table_g (F : List HP) (hK : CelN F 0 0 (wvs K)) (lv : Value) (ls : List PairD) (hr : RdS F lv ls.length (pairsC ls)) (hl : ls.length ≤ 8796093022206) (hok : ∀ p ∈ ls, RdS F p.v p.bs.length (bvs p.bs) ∧ (∀ b ∈ p.bs, b < 256)) :
 SpecF Tryd.prog 10 [lv] F [] (fun r L => ∃ t c, r = .pointer (some ⟨t, 0, none⟩) ∧ GoodT K c ∧ c.cont = putsC (fun _ => []) ls ∧ c.vals.length ≤ ls.length ∧ L = c.pieces 89 124 144 t) := by
 obtain ⟨la, lc, rfl⟩ := hr.len
 refine fun10.spec rfl ?_
 conv=>whnf
 refine CallG.pure (newTable_spec _) ?_
 rintro _ _ ⟨t, rfl, vb, q, ob, rfl⟩
 (conv=>whnf);refine .ff ?_;(conv=>whnf)
 refine LoopG.mk (fun m ev L => ∃ (i : Nat) (c : TabD), i ≤ ls.length ∧ m = ls.length - i ∧ GoodT K c ∧ c.cont = putsC (fun _ => []) (ls.take i) ∧ c.vals.length ≤ i ∧
  ev = [(0, .slice la ls.length lc), (2, .pointer none), (3, .pointer (some ⟨t, 0, none⟩)), (4, .int .i64 i)] ∧ L = c.pieces 89 124 144 t) ls.length
  [(0, .slice la ls.length lc), (2, .pointer none), (3, .pointer (some ⟨t, 0, none⟩)), (4, .int .i64 0)] ((tab0 vb q ob).pieces 89 124 144 t) ⟨rfl, rfl, rfl, rfl, trivial⟩ (by rw [List.append_nil]; exact Ent.refl _)
  ⟨0, tab0 vb q ob, Nat.zero_le _, rfl, tab0_good K _ _ _, rfl, Nat.le_refl _, rfl, rfl⟩ ?_
 rintro m ev L ⟨i, c, hi, rfl, hg, hcont, hcl, rfl, rfl⟩
 conv=>whnf
 refine LenG.lit ?_
 conv=>whnf
 refine CondG.dec (fun hlt => ?_) (fun hlt => ?_)
 ·have hi' : i < ls.length := by omega
  obtain ⟨p, hp⟩ : ∃ p, ls[i]? = some p := ⟨ls[i], List.getElem?_eq_getElem hi'⟩
  obtain ⟨hp1, hp2⟩ := pairsC_get hp
  have hpm := List.mem_of_getElem? hp
  obtain ⟨hpr, hpb⟩ := hok p hpm
  conv=>whnf
  refine DrawG.mk 13 [] (c.pieces 89 124 144 t) (by rw [List.append_nil]; exact Ent.refl _) ?_
  conv=>whnf
  refine .take 0 ?_
  conv=>whnf
  refine ⟨rfl, ?_⟩
  conv=>whnf
  refine .take 1 ?_
  conv=>whnf
  refine ⟨rfl, ?_⟩
  conv=>whnf
  refine .take 2 ?_
  conv=>whnf
  refine ⟨rfl, ?_⟩
  conv=>whnf
  refine .take 3 ?_
  conv=>whnf
  refine ⟨rfl, ?_⟩
  conv=>whnf
  refine IdxG.rd hr (by omega) fun b1 o1 hc1 => ?_
  conv=>whnf
  refine .take 4 ?_
  conv=>whnf
  refine ⟨rfl, ?_⟩
  conv=>whnf
  refine .take 5 ?_
  conv=>whnf
  refine ⟨rfl, ?_⟩
  conv=>whnf
  refine LoadG.atF (hc1.one (i := i * 2) (u := .string p.key) hp1) ?_
  conv=>whnf
  refine .take 6 ?_
  conv=>whnf
  refine ⟨rfl, ?_⟩
  conv=>whnf
  refine .take 7 ?_
  conv=>whnf
  refine ⟨rfl, ?_⟩
  conv=>whnf
  refine .take 8 ?_
  conv=>whnf
  refine ⟨rfl, ?_⟩
  conv=>whnf
  refine IdxG.rd hr (by omega) fun b2 o2 hc2 => ?_
  conv=>whnf
  refine .take 9 ?_
  conv=>whnf
  refine ⟨rfl, ?_⟩
  conv=>whnf
  refine .take 10 ?_
  conv=>whnf
  refine ⟨rfl, ?_⟩
  conv=>whnf
  refine LoadG.atF (hc2.one (i := i * 2 + 1) (u := p.v) hp2) ?_
  conv=>whnf
  refine .all ?_
  conv=>whnf
  refine ⟨by decide, ?_⟩
  conv=>whnf
  refine CallG.of (rest := []) (tput_g hk _ (.right hK _) t c hg (by omega) p.key p.v p.bs (.right hpr _) hpb) (by rw [List.append_nil]; exact Ent.refl _) ?_
  rintro _ _ ⟨rfl, c', hg', hcont', hcl', rfl⟩
  conv=>whnf
  refine .take 12 ?_
  conv=>whnf
  refine ⟨rfl, ?_⟩
  conv=>whnf
  refine ⟨rfl, ?_⟩
  conv=>whnf
  refine DrawG.mk 12 _ [] (Ent.refl _) ?_
  conv=>whnf
  refine .take 0 ?_
  conv=>whnf
  refine ⟨rfl, ?_⟩
  conv=>whnf
  refine .take 1 ?_
  conv=>whnf
  refine ⟨rfl, ?_⟩
  conv=>whnf
  refine .take 2 ?_
  conv=>whnf
  refine ⟨rfl, ?_⟩
  conv=>whnf
  refine IdxG.rd hr (by omega) fun b1 o1 hc1 => ?_
  conv=>whnf
  refine .take 3 ?_
  conv=>whnf
  refine ⟨rfl, ?_⟩
  conv=>whnf
  refine .take 4 ?_
  conv=>whnf
  refine ⟨rfl, ?_⟩
  conv=>whnf
  refine LoadG.atF (hc1.one (i := i * 2) (u := .string p.key) hp1) ?_
  conv=>whnf
  refine .take 5 ?_
  conv=>whnf
  refine ⟨rfl, ?_⟩
  conv=>whnf
  refine .take 6 ?_
  conv=>whnf
  refine ⟨rfl, ?_⟩
  conv=>whnf
  refine .take 7 ?_
  conv=>whnf
  refine ⟨rfl, ?_⟩
  conv=>whnf
  refine IdxG.rd hr (by omega) fun b2 o2 hc2 => ?_
  conv=>whnf
  refine .take 8 ?_
  conv=>whnf
  refine ⟨rfl, ?_⟩
  conv=>whnf
  refine .take 9 ?_
  conv=>whnf
  refine ⟨rfl, ?_⟩
  conv=>whnf
  refine LoadG.atF (hc2.one (i := i * 2 + 1) (u := p.v) hp2) ?_
  conv=>whnf
  refine .all ?_
  conv=>whnf
  refine ⟨by decide, ?_⟩
  conv=>whnf
  refine CallG.pure (may7_spec _ p.key p.v p.bs.length hpr.len) ?_
  rintro _ _ ⟨rfl, rfl⟩
  conv=>whnf
  refine .take 11 ?_
  conv=>whnf
  refine ⟨rfl, ?_⟩
  conv=>whnf
  refine ⟨rfl, ?_⟩
  conv=>whnf
  refine CondG.ndec (fun h => absurd rfl h) (fun _ => ?_)
  conv=>whnf
  refine ArithG.i64' ((i + 1 : Nat) : Int) (by omega) (by omega) ?_
  conv=>whnf
  refine ⟨ls.length - (i + 1), [(0, .slice la ls.length lc), (2, .pointer none), (3, .pointer (some ⟨t, 0, none⟩)), (4, .int .i64 (i + 1 : Nat))], c'.pieces 89 124 144 t, by omega, ⟨rfl, rfl, rfl, rfl, trivial⟩, by simp only [List.append_eq, List.append_nil, List.nil_append]; exact Ent.refl _, i + 1, c', by omega, rfl, hg', by rw [hcont', hcont, putsC_step hp], by split at hcl' <;> omega, rfl, rfl⟩
 ·obtain rfl : i = ls.length := by omega
  conv=>whnf
  exact ret_here ⟨t, c, rfl, hg, by rw [hcont, List.take_of_length_le (Nat.le_refl _)], hcl, rfl⟩
end
end Go.Proofs.YtjkldhalmglkpaaDoor
namespace Go.Proofs.YtjkldhalmglkpaaDoor
open Go Go.Sl Go.Sort
theorem pdO_rd {L : List HP} {p : PairD} : ∀ {ls : List PairD}, p ∈ ls → SlV p.v p.bs.length → RdS (pdO ls ++ L) p.v p.bs.length (bvs p.bs)
 | q :: ls, h, hs => by
  rcases List.mem_cons.1 h with rfl | h
  ·exact own_rd hs (by rw [bvs_len, Nat.mul_one])
  ·exact (pdO_rd (ls := ls) h hs).tl
theorem ent_nilR {L : List HP} : Ent L (L ++ []) := by rw [List.append_nil]; exact Ent.refl _
section
variable {K : List W32} (hk : K.length = 64)
include hk
theorem roots_spec (F : List HP) (hK : CelN F 0 0 (wvs K)) (lv gv : Value) (ls gs : List PairD) (hr : RdS F lv ls.length (pairsC ls)) (hq : RdS F gv gs.length (pairsC gs)) (hl : ls.length ≤ 3518437208883) (hl2 : gs.length ≤ 3518437208883)
 (hok : ∀ p ∈ ls, RdS F p.v p.bs.length (bvs p.bs) ∧ (∀ b ∈ p.bs, b < 256)) (hok2 : ∀ p ∈ gs, RdS F p.v p.bs.length (bvs p.bs) ∧ (∀ b ∈ p.bs, b < 256)) :
 SpecF Tryd.prog 4 [lv, gv] F [] (fun r L => r = .bool true ∧ L = []) := by
 obtain ⟨la, lc, rfl⟩ := hr.len
 obtain ⟨ga, gc, rfl⟩ := hq.len
 refine fun4.spec rfl ?_
 conv=>whnf
 refine CallG.pure (awake_spec hk _ (.right hK _)) ?_
 rintro _ _ ⟨rfl, rfl⟩
 conv=>whnf
 refine CallG.pure (table_g hk _ (.right hK _) _ ls (hr.right _) (by omega) fun p hp => ⟨(hok p hp).1.right _, (hok p hp).2⟩) ?_
 rintro _ _ ⟨a, ca, rfl, hga, hca, hcal, rfl⟩
 conv=>whnf
 refine CallG.pure (newTable_spec _) ?_
 rintro _ _ ⟨b, rfl, vb, q, ob, rfl⟩
 (conv=>whnf);repeat((with_reducible first|refine .ff ?_|refine .nff ?_);conv=>whnf)
 obtain ⟨PA, hPA⟩ : ∃ A, A = ca.pieces 89 124 144 a := ⟨_, rfl⟩
 rw [← hPA]
 refine LoopG.mk (fun m ev L => ∃ (i : Nat) (c : TabD), i ≤ gs.length ∧ m = gs.length - i ∧ GoodT K c ∧ (∀ k, c.cont k ≠ [] → ∃ p ∈ gs, p.key = k ∧ mayI k 0 = 0) ∧ c.vals.length ≤ i ∧
  ev = [(0, .slice la ls.length lc), (1, .slice ga gs.length gc), (4, .bool false), (6, .pointer (some ⟨a, 0, none⟩)), (7, .pointer (some ⟨b, 0, none⟩)), (8, .int .i64 i)] ∧ L = c.pieces 89 124 144 b ++ PA) gs.length
  [(0, .slice la ls.length lc), (1, .slice ga gs.length gc), (4, .bool false), (6, .pointer (some ⟨a, 0, none⟩)), (7, .pointer (some ⟨b, 0, none⟩)), (8, .int .i64 0)] ((tab0 vb q ob).pieces 89 124 144 b ++ PA) ⟨rfl, rfl, rfl, rfl, rfl, rfl, trivial⟩ (by simp only [List.append_eq, List.append_nil, List.nil_append]; exact Ent.refl _)
  ⟨0, tab0 vb q ob, Nat.zero_le _, rfl, tab0_good K _ _ _, fun k h => absurd rfl h, Nat.le_refl _, rfl, rfl⟩ ?_
 rintro m ev L ⟨i, c, hi, rfl, hg, hcont, hcl, rfl, rfl⟩
 conv=>whnf
 refine LenG.lit ?_
 conv=>whnf
 refine CondG.dec (fun hlt => ?_) (fun hlt => ?_)
 ·have hi' : i < gs.length := by omega
  obtain ⟨p, hp⟩ : ∃ p, gs[i]? = some p := ⟨gs[i], List.getElem?_eq_getElem hi'⟩
  obtain ⟨hp1, hp2⟩ := pairsC_get hp
  have hpm := List.mem_of_getElem? hp
  obtain ⟨hpr, hpb⟩ := hok2 p hpm
  conv=>whnf
  refine DrawG.mk 12 [] _ ent_nilR ?_
  conv=>whnf
  refine .take 0 ?_
  conv=>whnf
  refine ⟨rfl, ?_⟩
  conv=>whnf
  refine .take 1 ?_
  conv=>whnf
  refine ⟨rfl, ?_⟩
  conv=>whnf
  refine .take 2 ?_
  conv=>whnf
  refine ⟨rfl, ?_⟩
  conv=>whnf
  refine .take 3 ?_
  conv=>whnf
  refine ⟨rfl, ?_⟩
  conv=>whnf
  refine IdxG.rd hq (by omega) fun b1 o1 hc1 => ?_
  conv=>whnf
  refine .take 4 ?_
  conv=>whnf
  refine ⟨rfl, ?_⟩
  conv=>whnf
  refine .take 5 ?_
  conv=>whnf
  refine ⟨rfl, ?_⟩
  conv=>whnf
  refine LoadG.atF (hc1.one (i := i * 2) (u := .string p.key) hp1) ?_
  conv=>whnf
  refine .take 6 ?_
  conv=>whnf
  refine ⟨rfl, ?_⟩
  conv=>whnf
  refine .take 7 ?_
  conv=>whnf
  refine ⟨rfl, ?_⟩
  conv=>whnf
  refine .take 8 ?_
  conv=>whnf
  refine ⟨rfl, ?_⟩
  conv=>whnf
  refine IdxG.rd hq (by omega) fun b2 o2 hc2 => ?_
  conv=>whnf
  refine .take 9 ?_
  conv=>whnf
  refine ⟨rfl, ?_⟩
  conv=>whnf
  refine .take 10 ?_
  conv=>whnf
  refine ⟨rfl, ?_⟩
  conv=>whnf
  refine LoadG.atF (hc2.one (i := i * 2 + 1) (u := p.v) hp2) ?_
  conv=>whnf
  refine .all ?_
  conv=>whnf
  refine ⟨by decide, ?_⟩
  conv=>whnf
  refine CallG.of (rest := PA) (tput_g hk _ (.right (.right hK _) _) b c hg (by omega) p.key p.v p.bs (.right (.right hpr _) _) hpb) (Ent.refl _) ?_
  rintro _ _ ⟨rfl, c', hg', hcont', hcl', rfl⟩
  conv=>whnf
  refine ⟨rfl, ?_⟩
  conv=>whnf
  refine ArithG.i64' ((i + 1 : Nat) : Int) (by omega) (by omega) ?_
  conv=>whnf
  refine ⟨gs.length - (i + 1), [(0, .slice la ls.length lc), (1, .slice ga gs.length gc), (4, .bool false), (6, .pointer (some ⟨a, 0, none⟩)), (7, .pointer (some ⟨b, 0, none⟩)), (8, .int .i64 (i + 1 : Nat))], c'.pieces 89 124 144 b ++ PA, by omega, ⟨rfl, rfl, rfl, rfl, rfl, rfl, trivial⟩, by simp only [List.append_eq, List.append_nil, List.nil_append]; exact Ent.refl _, i + 1, c', by omega, rfl, hg', ?_, by split at hcl' <;> omega, rfl, rfl⟩
  intro k hk2
  rw [hcont', putC] at hk2
  split at hk2
  ·rename_i hm
   by_cases e : k = p.key
   ·exact ⟨p, hpm, e.symm, by rw [e]; exact (mayI_le hm).2⟩
   ·exact hcont k (by simpa [e] using hk2)
  ·exact hcont k hk2
 obtain rfl : i = gs.length := by omega
 clear hlt hi
 conv=>whnf
 refine LoopG.mk (fun m ev L => ∃ (i : Nat) (c : TabD), i ≤ gs.length ∧ m = gs.length - i ∧ GoodT K c ∧ (∀ k, c.cont k ≠ [] → ∃ p ∈ gs.drop i, p.key = k ∧ mayI k 0 = 0) ∧ c.vals.length ≤ gs.length ∧
  ev = [(0, .slice la ls.length lc), (1, .slice ga gs.length gc), (4, .bool false), (6, .pointer (some ⟨a, 0, none⟩)), (7, .pointer (some ⟨b, 0, none⟩)), (9, .int .i64 i)] ∧ L = c.pieces 89 124 144 b ++ PA) gs.length
  [(0, .slice la ls.length lc), (1, .slice ga gs.length gc), (4, .bool false), (6, .pointer (some ⟨a, 0, none⟩)), (7, .pointer (some ⟨b, 0, none⟩)), (9, .int .i64 0)] _ ⟨rfl, rfl, rfl, rfl, rfl, rfl, trivial⟩ (Ent.refl _)
  ⟨0, c, Nat.zero_le _, rfl, hg, by simpa using hcont, hcl, rfl, rfl⟩ ?_
 clear hcont hcl hg c
 rintro m ev L ⟨i, c, hi, rfl, hg, hcont, hcl, rfl, rfl⟩
 conv=>whnf
 refine LenG.lit ?_
 conv=>whnf
 refine CondG.dec (fun hlt => ?_) (fun hlt => ?_)
 ·have hi' : i < gs.length := by omega
  obtain ⟨p, hp⟩ : ∃ p, gs[i]? = some p := ⟨gs[i], List.getElem?_eq_getElem hi'⟩
  obtain ⟨hp1, hp2⟩ := pairsC_get hp
  have hdrop : gs.drop i = p :: gs.drop (i + 1) := by
   obtain ⟨h1, rfl⟩ := List.getElem?_eq_some_iff.1 hp
   exact List.drop_eq_getElem_cons h1
  conv=>whnf
  refine IdxG.rd hq (by omega) fun b1 o1 hc1 => ?_
  conv=>whnf
  refine LoadG.atF (hc1.one (i := i * 2) (u := .string p.key) hp1) ?_
  conv=>whnf
  refine CallG.of (rest := PA) (tput_g hk _ (.right hK _) b c hg (by omega) p.key (.slice none 0 0) [] .nil (by simp)) (Ent.refl _) ?_
  rintro _ _ ⟨rfl, c', hg', hcont', hcl', rfl⟩
  conv=>whnf
  refine ArithG.i64' ((i + 1 : Nat) : Int) (by omega) (by omega) ?_
  conv=>whnf
  refine ⟨gs.length - (i + 1), [(0, .slice la ls.length lc), (1, .slice ga gs.length gc), (4, .bool false), (6, .pointer (some ⟨a, 0, none⟩)), (7, .pointer (some ⟨b, 0, none⟩)), (9, .int .i64 (i + 1 : Nat))], c'.pieces 89 124 144 b ++ PA, by omega, ⟨rfl, rfl, rfl, rfl, rfl, rfl, trivial⟩, Ent.refl _, i + 1, c', by omega, rfl, hg', ?_, by simpa using Nat.le_trans hcl' (by simpa using hcl), rfl, rfl⟩
  intro k hk2
  rw [hcont', putC] at hk2
  split at hk2
  ·by_cases e : k = p.key
   ·exact absurd (if_pos e) hk2
   ·obtain ⟨q, hq1, hq2, hq3⟩ := hcont k (by simpa [e] using hk2)
    rw [hdrop] at hq1
    rcases List.mem_cons.1 hq1 with rfl | hq1
    ·exact absurd hq2.symm e
    ·exact ⟨q, hq1, hq2, hq3⟩
  ·rename_i hm
   obtain ⟨q, hq1, hq2, hq3⟩ := hcont k hk2
   rw [hdrop] at hq1
   rcases List.mem_cons.1 hq1 with rfl | hq1
   ·exact absurd (by rw [hq2]; exact hq3) hm
   ·exact ⟨q, hq1, hq2, hq3⟩
 obtain rfl : i = gs.length := by omega
 clear hlt hi
 have hnone : c.cont = (tab0 vb q ob).cont := by
  funext k
  by_cases h : c.cont k = []
  ·exact h
  ·obtain ⟨p, hp, _⟩ := hcont k h
   rw [List.drop_length] at hp
   cases hp
 have hzero : c.vals.length = 0 := (hg.one (tab0_good K vb q ob) hnone).2
 conv=>whnf
 refine CallG.of (pre := PA) (rest := c.pieces 89 124 144 b) (by rw [hPA]; exact told_spec _ a ca hga (by omega)) (Ent.perm List.perm_append_comm) ?_
 rintro tv _ ⟨ts, htd, htl, htv, hown, rfl⟩
 conv=>whnf
 obtain ⟨ta, tc, rfl⟩ := htv.len
 obtain ⟨Q, hQ⟩ : ∃ Q, Q = ca.pieces 89 124 144 a ++ (own 2 (.slice ta ts.length tc) ts.length (pairsC ts) :: pdO ts) := ⟨_, rfl⟩
 rw [← hQ]
 have hqr : RdS Q (.slice ta ts.length tc) ts.length (pairsC ts) := by rw [hQ]; exact .right (own_rd htv (pairsC_len ts)) _
 have hqv : ∀ p ∈ ts, RdS Q p.v p.bs.length (bvs p.bs) := fun p hp => by
  rw [hQ]
  have h := pdO_rd (L := []) hp (hown p hp)
  rw [List.append_nil] at h
  exact (h.tl).right _
 conv=>whnf
 refine LenG.rd hqr ?_
 conv=>whnf
 refine ArithG.i64' ((ts.length : Int) - 1) (by omega) (by omega) ?_
 conv=>whnf
 refine LoopG.mk (fun m ev L => ∃ (j : Nat) (c : TabD), j ≤ ts.length ∧ m = j ∧ GoodT K c ∧ (∀ k : ByteArray, (k ∈ (ts.drop j).map PairD.key → c.cont k = ca.cont k) ∧ (k ∉ (ts.drop j).map PairD.key → c.cont k = [])) ∧ c.vals.length ≤ ts.length - j ∧
  ev = [(4, .bool false), (6, .pointer (some ⟨a, 0, none⟩)), (7, .pointer (some ⟨b, 0, none⟩)), (10, .slice ta ts.length tc), (11, .int .i64 ((j : Int) - 1))] ∧ L = c.pieces 89 124 144 b ++ Q) ts.length
  [(4, .bool false), (6, .pointer (some ⟨a, 0, none⟩)), (7, .pointer (some ⟨b, 0, none⟩)), (10, .slice ta ts.length tc), (11, .int .i64 ((ts.length : Int) - 1))] (c.pieces 89 124 144 b ++ Q) ⟨rfl, rfl, rfl, rfl, rfl, trivial⟩ (Ent.perm List.perm_append_comm)
  ⟨ts.length, c, Nat.le_refl _, rfl, hg, fun k => ⟨fun h => (by rw [List.drop_length] at h; cases h), fun _ => (by rw [hnone]; rfl)⟩, by omega, rfl, rfl⟩ ?_
 clear hnone hzero hcont hcl hg c
 rintro m ev L ⟨j, c, hj, rfl, hg, hcont, hcl, rfl, rfl⟩
 conv=>whnf
 refine CondG.dec (fun hlt => ?_) (fun hlt => ?_)
 ·obtain ⟨i, rfl⟩ : ∃ i, m = i + 1 := ⟨m - 1, by omega⟩
  have hi' : i < ts.length := by omega
  obtain ⟨p, hp⟩ : ∃ p, ts[i]? = some p := ⟨ts[i], List.getElem?_eq_getElem hi'⟩
  obtain ⟨hp1, hp2⟩ := pairsC_get hp
  have hpm := List.mem_of_getElem? hp
  have hdrop : ts.drop i = p :: ts.drop (i + 1) := by
   obtain ⟨h1, rfl⟩ := List.getElem?_eq_some_iff.1 hp
   exact List.drop_eq_getElem_cons h1
  obtain ⟨hpc, hpn⟩ := htd.mem p.e (List.mem_map_of_mem hpm)
  have hpc' : ca.cont p.key = p.bs := hpc
  obtain ⟨hm1, hm2, hm3⟩ := hga.may (k := p.key) (by rw [hpc']; exact hpn)
  rw [hpc'] at hm1 hm2 hm3
  have hin : (((i + 1 : Nat) : Int) - 1).toNat = i := by omega
  conv=>whnf
  refine DrawG.mk 12 Q (c.pieces 89 124 144 b) (Ent.refl _) ?_
  conv=>whnf
  refine .take 0 ?_
  conv=>whnf
  refine ⟨rfl, ?_⟩
  conv=>whnf
  refine .take 1 ?_
  conv=>whnf
  refine ⟨rfl, ?_⟩
  conv=>whnf
  refine .take 2 ?_
  conv=>whnf
  refine ⟨rfl, ?_⟩
  conv=>whnf
  refine .take 3 ?_
  conv=>whnf
  refine ⟨rfl, ?_⟩
  conv=>whnf
  refine IdxG.rd hqr (by omega) fun b1 o1 hc1 => ?_
  conv=>whnf
  refine .take 4 ?_
  conv=>whnf
  refine ⟨rfl, ?_⟩
  conv=>whnf
  refine .take 5 ?_
  conv=>whnf
  refine ⟨rfl, ?_⟩
  conv=>whnf
  refine LoadG.at (hc1.one (i := (((i + 1 : Nat) : Int) - 1).toNat * 2) (u := .string p.key) (by rw [hin]; exact hp1)) ?_
  conv=>whnf
  refine .take 6 ?_
  conv=>whnf
  refine ⟨rfl, ?_⟩
  conv=>whnf
  refine .take 7 ?_
  conv=>whnf
  refine ⟨rfl, ?_⟩
  conv=>whnf
  refine .take 8 ?_
  conv=>whnf
  refine ⟨rfl, ?_⟩
  conv=>whnf
  refine IdxG.rd hqr (by omega) fun b2 o2 hc2 => ?_
  conv=>whnf
  refine .take 9 ?_
  conv=>whnf
  refine ⟨rfl, ?_⟩
  conv=>whnf
  refine .take 10 ?_
  conv=>whnf
  refine ⟨rfl, ?_⟩
  conv=>whnf
  refine LoadG.at (hc2.one (i := (((i + 1 : Nat) : Int) - 1).toNat * 2 + 1) (u := p.v) (by rw [hin]; exact hp2)) ?_
  conv=>whnf
  refine .all ?_
  conv=>whnf
  refine ⟨by decide, ?_⟩
  conv=>whnf
  refine CallG.of (rest := []) (tput_g hk _ (.right (.right hK _) _) b c hg (by omega) p.key p.v p.bs (.right ((hqv p hpm).left F) _) hm3) (by rw [List.append_nil]; exact Ent.refl _) ?_
  rintro _ _ ⟨rfl, c', hg', hcont', hcl', rfl⟩
  conv=>whnf
  refine ⟨rfl, ?_⟩
  conv=>whnf
  refine ArithG.i64' ((i : Int) - 1) (by omega) (by omega) ?_
  conv=>whnf
  refine ⟨i, [(4, .bool false), (6, .pointer (some ⟨a, 0, none⟩)), (7, .pointer (some ⟨b, 0, none⟩)), (10, .slice ta ts.length tc), (11, .int .i64 ((i : Int) - 1))], c'.pieces 89 124 144 b ++ Q, by omega, ⟨rfl, rfl, rfl, rfl, rfl, trivial⟩, by simp only [List.append_eq, List.append_nil, List.nil_append]; exact Ent.refl _, i, c', by omega, rfl, hg', ?_, by split at hcl' <;> omega, rfl, rfl⟩
  intro k
  rw [hcont', putC, if_pos hm1, hdrop]
  simp only [List.map_cons, List.mem_cons]
  by_cases e : k = p.key
  ·rw [if_pos e]
   exact ⟨fun _ => by rw [e, hpc'], fun h => absurd (.inl e) h⟩
  ·rw [if_neg e]
   exact ⟨fun h => (hcont k).1 (h.resolve_left e), fun h => (hcont k).2 fun h2 => h (.inr h2)⟩
 obtain rfl : m = 0 := by omega
 clear hlt hj
 have hsame : c.cont = ca.cont := by
  funext k
  have hk2 := hcont k
  rw [List.drop_zero] at hk2
  by_cases h2 : ca.cont k = []
  ·by_cases h : k ∈ ts.map PairD.key
   ·exact hk2.1 h
   ·rw [hk2.2 h, h2]
  ·exact hk2.1 (by have h3 := htd.all k h2; rw [List.map_map] at h3; exact h3)
 obtain ⟨htree, hlen⟩ := hg.one hga hsame
 conv=>whnf
 have hs1 : (ca.tree.sum K).length = 32 := (Trie.sum_is K ca.tree).len
 rw [hQ]
 refine CallG.of (rest := c.pieces 89 124 144 b ++ (own 2 (.slice ta ts.length tc) ts.length (pairsC ts) :: pdO ts)) (troot_p _ a ca hga) (Ent.perm (by classical exact List.perm_iff_count.2 fun x => by simp only [List.append_eq, List.count_append, List.count_cons, List.count_nil]; omega)) ?_
 rintro _ _ ⟨rfl, rfl⟩
 conv=>whnf
 intro x
 conv=>whnf
 refine StoreG.at (by rw [bvs_len, hs1]) (Upd.whole (vs := bvs (ca.tree.sum K)) (by rw [bvs_len, hs1]; rfl) (bvs_one _)) ?_
 conv=>whnf
 obtain ⟨R, hR⟩ : ∃ R, R = cel x 46 (bvs (ca.tree.sum K)) :: (ca.pieces 89 124 144 a ++ (own 2 (.slice ta ts.length tc) ts.length (pairsC ts) :: pdO ts)) := ⟨_, rfl⟩
 refine CallG.of (rest := R) (troot_p _ b c hg) (by rw [hR]; exact Ent.perm (by classical exact List.perm_iff_count.2 fun x => by simp only [List.append_eq, List.count_append, List.count_cons, List.count_nil]; omega)) ?_
 rintro _ _ ⟨rfl, rfl⟩
 conv=>whnf
 intro y
 conv=>whnf
 refine StoreG.at (by rw [bvs_len, htree, hs1]) (Upd.whole (vs := bvs (c.tree.sum K)) (by rw [bvs_len, htree, hs1]; rfl) (bvs_one _)) ?_
 conv=>whnf
 rw [htree]
 obtain ⟨R2, hR2⟩ : ∃ R2, R2 = cel y 46 (bvs (ca.tree.sum K)) :: cel x 46 (bvs (ca.tree.sum K)) :: (c.pieces 89 124 144 b ++ (own 2 (.slice ta ts.length tc) ts.length (pairsC ts) :: pdO ts)) := ⟨_, rfl⟩
 refine CallG.of (rest := R2) (tlen_p _ a ca) (by rw [hR2, hR]; exact Ent.perm (by classical exact List.perm_iff_count.2 fun x => by simp only [List.append_eq, List.count_append, List.count_cons, List.count_nil]; omega)) ?_
 rintro _ _ ⟨rfl, rfl⟩
 conv=>whnf
 obtain ⟨R3, hR3⟩ : ∃ R3, R3 = ca.pieces 89 124 144 a ++ (own 2 (.slice ta ts.length tc) ts.length (pairsC ts) :: pdO ts) := ⟨_, rfl⟩
 refine CallG.of (rest := cel y 46 (bvs (ca.tree.sum K)) :: cel x 46 (bvs (ca.tree.sum K)) :: R3) (tlen_p _ b c) (by rw [hR2, hR3]; exact Ent.perm (by classical exact List.perm_iff_count.2 fun x => by simp only [List.append_eq, List.count_append, List.count_cons, List.count_nil]; omega)) ?_
 rintro _ _ ⟨rfl, rfl⟩
 conv=>whnf
 refine CallG.pure (newTable_spec _) ?_
 rintro _ _ ⟨z, rfl, vb', q', ob', rfl⟩
 (conv=>whnf);refine .ff ?_;(conv=>whnf)
 refine CallG.of (pre := (tab0 vb' q' ob').pieces 89 124 144 z) (rest := c.pieces 89 124 144 b ++ cel y 46 (bvs (ca.tree.sum K)) :: cel x 46 (bvs (ca.tree.sum K)) :: R3) (troot_p (K := K) _ z (tab0 vb' q' ob') (tab0_good K _ _ _)) (Ent.refl _) ?_
 rintro _ _ ⟨rfl, rfl⟩
 conv=>whnf
 intro u
 conv=>whnf
 refine StoreG.at (by rfl) (Upd.whole (vs := bvs zd) (by rfl) (bvs_one _)) ?_
 conv=>whnf
 refine LoadNG.at (vs := bvs (ca.tree.sum K)) (by rw [bvs_len, hs1]) (.tl (.right (.right (.tl .all) _) _)) ?_
 conv=>whnf
 refine LoadNG.at (vs := bvs (ca.tree.sum K)) (by rw [bvs_len, hs1]) (.tl (.right (.right .all _) _)) ?_
 conv=>whnf
 refine DoesG.eqv 8 (List.replicate 32 (.int .u8)) (by kernel_rfl) (by decide) (by kernel_rfl) (by kernel_rfl) (wt_bvs hs1) (wt_bvs hs1) ?_
 have hde : ∀ xs : List Value, ∀ d : Decidable (xs = xs), @decide (xs = xs) d = true := fun xs d => by simp
 rw [hde]
 (conv=>whnf);refine .tt ?_;(conv=>whnf);refine .tt ?_;(conv=>whnf);refine .tt ?_;(conv=>whnf);refine .tt ?_;(conv=>whnf)
 refine CondG.decT (by rw [hlen]) ?_
 (conv=>whnf);refine .tt ?_;(conv=>whnf);refine .tt ?_;(conv=>whnf)
 refine LenG.lit ?_
 (conv=>whnf);refine .tt ?_;(conv=>whnf);refine .tt ?_;(conv=>whnf)
 refine CondG.decT (by rw [htl]) ?_
 conv=>whnf
 refine LoadNG.at (vs := bvs zd) rfl .all ?_
 (conv=>whnf);refine .tt ?_;(conv=>whnf)
 refine BuildG.of (cs := bvs zd) rfl ?_
 (conv=>whnf);refine .tt ?_;(conv=>whnf)
 refine DoesG.eqv 8 (List.replicate 32 (.int .u8)) (by kernel_rfl) (by decide) (by kernel_rfl) (by kernel_rfl) (wt_bvs rfl) (wt_bvs rfl) ?_
 rw [hde]
 (conv=>whnf);refine .tt ?_;(conv=>whnf)
 exact ⟨[], Ent.nil _, rfl, rfl⟩
end
end Go.Proofs.YtjkldhalmglkpaaDoor
