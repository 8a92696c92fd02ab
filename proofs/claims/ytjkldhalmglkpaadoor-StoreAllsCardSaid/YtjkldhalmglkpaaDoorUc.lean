import Derived.Test.YtjkldhalmglkpaaDoorUa
import Derived.Test.YtjkldhalmglkpaaDoorSn
namespace Go.Proofs.YtjkldhalmglkpaaDoor
open Go Go.Sl Go.Sort
theorem tab0_good (K : List W32) (vb q ob : Nat) : GoodT K (tab0 vb q ob) := ⟨tab0_wf _ _ _ _ _, List.nodup_nil, fun _ _ => rfl, trivial⟩
theorem spec_hold {P : Program} {f : FuncId} {args : List Value} {F pre : List HP} {v : Value} (h : SpecF P f args (pre ++ F) [] (fun r L => r = v ∧ L = [])) : SpecF P f args F pre (fun r L => r = v ∧ L = pre) := fun w hs =>
 (h w hs).mono fun e w' ⟨u, L, he, ⟨hu, hL⟩, hx, hs'⟩ => ⟨u, pre, he, ⟨hu, rfl⟩, hx, by rw [hL] at hs'; exact hs'⟩
section
variable {K : List W32} (hk : K.length = 64)
theorem tlen_g (F : List HP) (t : Nat) (c : TabD) (L : List HP) : SpecF Tryd.prog 23 [.pointer (some ⟨t, 0, none⟩)] ((c.pieces 89 124 144 t ++ L) ++ F) [] (fun r L' => r = .int .i64 c.vals.length ∧ L' = []) := by
 have h := tlen_spec ((c.pieces 89 124 144 t ++ L) ++ F) t c.vb (kvM c.vals) (.left (.left (.here rfl) _) F) (MapG.left (MapG.left (.tl .here) _) F)
 rw [kvM, List.length_map] at h
 exact h
theorem tlen_p (F : List HP) (t : Nat) (c : TabD) : SpecF Tryd.prog 23 [.pointer (some ⟨t, 0, none⟩)] F (c.pieces 89 124 144 t) (fun r L' => r = .int .i64 c.vals.length ∧ L' = c.pieces 89 124 144 t) := by
 have h := tlen_g F t c []
 rw [List.append_nil] at h
 exact spec_hold h
include hk
theorem tput_g (F : List HP) (hK : CelN F 0 0 (wvs K)) (t : Nat) (c : TabD) (hg : GoodT K c) (hn : c.vals.length ≤ 8796093022206) (key : ByteArray) (v : Value) (bs : List Nat) (hv : RdS F v bs.length (bvs bs)) (hb : ∀ b ∈ bs, b < 256) :
 SpecF Tryd.prog 12 [.pointer (some ⟨t, 0, none⟩), .string key, v] F (c.pieces 89 124 144 t) (fun r L => r = .int .i64 (mayI key bs.length) ∧ ∃ c' : TabD, GoodT K c' ∧ c'.cont = putC c.cont key bs ∧ (c'.vals.length ≤ c.vals.length + if bs = [] then 0 else 1) ∧ L = c'.pieces 89 124 144 t) :=
 (tput_spec hk F hK t c _ hg.wf hn key v bs hv hb).turn fun r L h => by
  obtain ⟨rfl, ⟨h1, rfl⟩ | ⟨h1, c', hc, rfl⟩⟩ := h
  ·exact ⟨_, ⟨rfl, c, hg, by rw [putC, if_neg h1], Nat.le_add_right _ _, rfl⟩, Ent.refl _⟩
  ·exact ⟨_, ⟨rfl, c', hg.lay hc, by rw [putC, if_pos h1]; exact hc.cont, hc.len, rfl⟩, Ent.refl _⟩
theorem table_g (F : List HP) (hK : CelN F 0 0 (wvs K)) (lv : Value) (ls : List PairD) (hr : RdS F lv ls.length (pairsC ls)) (hl : ls.length ≤ 8796093022206) (hok : ∀ p ∈ ls, RdS F p.v p.bs.length (bvs p.bs) ∧ (∀ b ∈ p.bs, b < 256)) :
 SpecF Tryd.prog 10 [lv] F [] (fun r L => ∃ t c, r = .pointer (some ⟨t, 0, none⟩) ∧ GoodT K c ∧ c.cont = putsC (fun _ => []) ls ∧ c.vals.length ≤ ls.length ∧ L = c.pieces 89 124 144 t) := by
 obtain ⟨la, lc, rfl⟩ := hr.len
 refine fun10.spec rfl ?_
 conv=>whnf
 refine CallG.pure (newTable_spec _) ?_
 rintro _ _ ⟨t, rfl, vb, q, ob, rfl⟩
 (conv=>whnf);refine .ff ?_;(conv=>whnf)
 refine LoopG.mk (fun m ev L => ∃ (i : Nat) (c : TabD), i ≤ ls.length ∧ m = ls.length - i ∧ GoodT K c ∧ c.cont = putsC (fun _ => []) (ls.take i) ∧ c.vals.length ≤ i ∧
  ev = [(0, .slice la ls.length lc), (2, .pointer none), (3, .pointer (some ⟨t, 0, none⟩)), (4, .int .i64 i)] ∧ L = c.pieces 89 124 144 t) ls.length
  [(0, .slice la ls.length lc), (2, .pointer none), (3, .pointer (some ⟨t, 0, none⟩)), (4, .int .i64 0)] ((tab0 vb q ob).pieces 89 124 144 t) ⟨rfl, rfl, rfl, rfl, trivial⟩ (by rw [List.append_nil]; exact Ent.refl _)
  ⟨0, tab0 vb q ob, Nat.zero_le _, rfl, tab0_good K _ _ _, rfl, Nat.le_refl _, rfl, rfl⟩ ?_
 rintro m ev L ⟨i, c, hi, rfl, hg, hcont, hcl, rfl, rfl⟩
 conv=>whnf
 refine LenG.lit ?_
 conv=>whnf
 refine CondG.dec (fun hlt => ?_) (fun hlt => ?_)
 ·have hi' : i < ls.length := by omega
  obtain ⟨p, hp⟩ : ∃ p, ls[i]? = some p := ⟨ls[i], List.getElem?_eq_getElem hi'⟩
  obtain ⟨hp1, hp2⟩ := pairsC_get hp
  have hpm := List.mem_of_getElem? hp
  obtain ⟨hpr, hpb⟩ := hok p hpm
  conv=>whnf
  refine DrawG.mk 13 [] (c.pieces 89 124 144 t) (by rw [List.append_nil]; exact Ent.refl _) ?_
  conv=>whnf
  refine .take 0 ?_
  conv=>whnf
  refine ⟨rfl, ?_⟩
  conv=>whnf
  refine .take 1 ?_
  conv=>whnf
  refine ⟨rfl, ?_⟩
  conv=>whnf
  refine .take 2 ?_
  conv=>whnf
  refine ⟨rfl, ?_⟩
  conv=>whnf
  refine .take 3 ?_
  conv=>whnf
  refine ⟨rfl, ?_⟩
  conv=>whnf
  refine IdxG.rd hr (by omega) fun b1 o1 hc1 => ?_
  conv=>whnf
  refine .take 4 ?_
  conv=>whnf
  refine ⟨rfl, ?_⟩
  conv=>whnf
  refine .take 5 ?_
  conv=>whnf
  refine ⟨rfl, ?_⟩
  conv=>whnf
  refine LoadG.atF (hc1.one (i := i * 2) (u := .string p.key) hp1) ?_
  conv=>whnf
  refine .take 6 ?_
  conv=>whnf
  refine ⟨rfl, ?_⟩
  conv=>whnf
  refine .take 7 ?_
  conv=>whnf
  refine ⟨rfl, ?_⟩
  conv=>whnf
  refine .take 8 ?_
  conv=>whnf
  refine ⟨rfl, ?_⟩
  conv=>whnf
  refine IdxG.rd hr (by omega) fun b2 o2 hc2 => ?_
  conv=>whnf
  refine .take 9 ?_
  conv=>whnf
  refine ⟨rfl, ?_⟩
  conv=>whnf
  refine .take 10 ?_
  conv=>whnf
  refine ⟨rfl, ?_⟩
  conv=>whnf
  refine LoadG.atF (hc2.one (i := i * 2 + 1) (u := p.v) hp2) ?_
  conv=>whnf
  refine .all ?_
  conv=>whnf
  refine ⟨by decide, ?_⟩
  conv=>whnf
  refine CallG.of (rest := []) (tput_g hk _ (.right hK _) t c hg (by omega) p.key p.v p.bs (.right hpr _) hpb) (by rw [List.append_nil]; exact Ent.refl _) ?_
  rintro _ _ ⟨rfl, c', hg', hcont', hcl', rfl⟩
  conv=>whnf
  refine .take 12 ?_
  conv=>whnf
  refine ⟨rfl, ?_⟩
  conv=>whnf
  refine ⟨rfl, ?_⟩
  conv=>whnf
  refine DrawG.mk 12 _ [] (Ent.refl _) ?_
  conv=>whnf
  refine .take 0 ?_
  conv=>whnf
  refine ⟨rfl, ?_⟩
  conv=>whnf
  refine .take 1 ?_
  conv=>whnf
  refine ⟨rfl, ?_⟩
  conv=>whnf
  refine .take 2 ?_
  conv=>whnf
  refine ⟨rfl, ?_⟩
  conv=>whnf
  refine IdxG.rd hr (by omega) fun b1 o1 hc1 => ?_
  conv=>whnf
  refine .take 3 ?_
  conv=>whnf
  refine ⟨rfl, ?_⟩
  conv=>whnf
  refine .take 4 ?_
  conv=>whnf
  refine ⟨rfl, ?_⟩
  conv=>whnf
  refine LoadG.atF (hc1.one (i := i * 2) (u := .string p.key) hp1) ?_
  conv=>whnf
  refine .take 5 ?_
  conv=>whnf
  refine ⟨rfl, ?_⟩
  conv=>whnf
  refine .take 6 ?_
  conv=>whnf
  refine ⟨rfl, ?_⟩
  conv=>whnf
  refine .take 7 ?_
  conv=>whnf
  refine ⟨rfl, ?_⟩
  conv=>whnf
  refine IdxG.rd hr (by omega) fun b2 o2 hc2 => ?_
  conv=>whnf
  refine .take 8 ?_
  conv=>whnf
  refine ⟨rfl, ?_⟩
  conv=>whnf
  refine .take 9 ?_
  conv=>whnf
  refine ⟨rfl, ?_⟩
  conv=>whnf
  refine LoadG.atF (hc2.one (i := i * 2 + 1) (u := p.v) hp2) ?_
  conv=>whnf
  refine .all ?_
  conv=>whnf
  refine ⟨by decide, ?_⟩
  conv=>whnf
  refine CallG.pure (may7_spec _ p.key p.v p.bs.length hpr.len) ?_
  rintro _ _ ⟨rfl, rfl⟩
  conv=>whnf
  refine .take 11 ?_
  conv=>whnf
  refine ⟨rfl, ?_⟩
  conv=>whnf
  refine ⟨rfl, ?_⟩
  conv=>whnf
  refine CondG.ndec (fun h => absurd rfl h) (fun _ => ?_)
  conv=>whnf
  refine ArithG.i64' ((i + 1 : Nat) : Int) (by omega) (by omega) ?_
  conv=>whnf
  refine ⟨ls.length - (i + 1), [(0, .slice la ls.length lc), (2, .pointer none), (3, .pointer (some ⟨t, 0, none⟩)), (4, .int .i64 (i + 1 : Nat))], c'.pieces 89 124 144 t, by omega, ⟨rfl, rfl, rfl, rfl, trivial⟩, by simp only [List.append_eq, List.append_nil, List.nil_append]; exact Ent.refl _, i + 1, c', by omega, rfl, hg', by rw [hcont', hcont, putsC_step hp], by split at hcl' <;> omega, rfl, rfl⟩
 ·obtain rfl : i = ls.length := by omega
  conv=>whnf
  exact ret_here ⟨t, c, rfl, hg, by rw [hcont, List.take_of_length_le (Nat.le_refl _)], hcl, rfl⟩
end
end Go.Proofs.YtjkldhalmglkpaaDoor
namespace Go.Proofs.YtjkldhalmglkpaaDoor
open Go Go.Sl Go.Sort
theorem pdO_rd {L : List HP} {p : PairD} : ∀ {ls : List PairD}, p ∈ ls → SlV p.v p.bs.length → RdS (pdO ls ++ L) p.v p.bs.length (bvs p.bs)
 | q :: ls, h, hs => by
  rcases List.mem_cons.1 h with rfl | h
  ·exact own_rd hs (by rw [bvs_len, Nat.mul_one])
  ·exact (pdO_rd (ls := ls) h hs).tl
section
variable {K : List W32} (hk : K.length = 64)
include hk
end
end Go.Proofs.YtjkldhalmglkpaaDoor
