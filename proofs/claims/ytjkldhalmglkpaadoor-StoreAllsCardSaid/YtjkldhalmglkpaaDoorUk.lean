import Derived.Test.YtjkldhalmglkpaaDoorUe
import Derived.Test.YtjkldhalmglkpaaDoorUc
import Derived.Test.YtjkldhalmglkpaaDoorPf
import Derived.Test.YtjkldhalmglkpaaDoorZDc
import Derived.Test.YtjkldhalmglkpaaDoorZWd
namespace Go.Proofs.YtjkldhalmglkpaaDoor
open Go Go.Sl Go.Sort
theorem spick_spec (F : List HP) (c : Int) (n : Nat) (h1 : -9223372036854775808 ≤ c) (h2 : c ≤ 9223372036854775807) (hn : 0 < n) : SpecF Tryd.prog 14 [.int .i64 c, .int .i64 n] F [] (fun v L => v = .int .i64 (pickN c n) ∧ L = []) := by
 have ht := pickN_tmod (c := c) (n := n)
 refine fun14.spec rfl ?_
 conv=>whnf
 refine CondG.dec (fun h => ?_) (fun h => ?_)
 ·conv=>whnf
  refine ArithG.i64 (by omega) ?_
  conv=>whnf
  refine ArithG.i64' (-(c + 1)) (by omega) (by omega) ?_
  conv=>whnf
  refine SideG.of (by omega) ?_
  conv=>whnf
  rw [if_pos h] at ht
  rw [ht]
  exact ret_here ⟨rfl, rfl⟩
 ·conv=>whnf
  refine SideG.of (by omega) ?_
  conv=>whnf
  rw [if_neg h] at ht
  rw [ht]
  exact ret_here ⟨rfl, rfl⟩
structure DocP (r : Value) (ls os : List PairD) : Prop where
 sl : SlV r ls.length
 sub : ∀ p ∈ ls, p ∈ os
 own : ∀ p ∈ os, SlV p.v p.bs.length
def docL (r : Value) (ls os : List PairD) : List HP := own 2 r ls.length (pairsC ls) :: pdO os
theorem docL_rd {r : Value} {ls os : List PairD} (h : DocP r ls os) (G : List HP) : RdS (docL r ls os ++ G) r ls.length (pairsC ls) ∧ PdRd (docL r ls os ++ G) ls :=
 ⟨own_rd h.sl (pairsC_len ls), fun d hd => .tl (pdO_rd (h.sub d hd) (h.own d (h.sub d hd)))⟩
theorem put_doc {v x ov : Value} {ls os : List PairD} {key : ByteArray} {bs : List Nat} {f : ByteArray → List Nat} (h : DocP v ls os) (hA : AllD f (ls.map PairD.e)) (hm : mayI key bs.length = 0) (hx : SlV x bs.length) {out : List PairD} (hov : SlV ov out.length)
 (ho : out = (withL PairD.key key ⟨key, x, bs⟩ false ls).filter (fun p => decide (0 < p.bs.length))) : DocP ov out (⟨key, x, bs⟩ :: os) ∧ AllD (putC f key bs) (out.map PairD.e) ∧ out.length ≤ ls.length + 1 := by
 have e : out.map PairD.e = putP key bs (ls.map PairD.e) := by rw [ho]; exact putP_map key x bs ls
 refine ⟨⟨hov, fun p hp => ?_, fun p hp => ?_⟩, by rw [e]; exact hA.put hm, ?_⟩
 ·rw [ho] at hp
  rcases withL_mem PairD.key (List.mem_filter.1 hp).1 with rfl | ⟨h1, _⟩
  ·exact List.mem_cons_self
  ·exact List.mem_cons_of_mem _ (h.sub p h1)
 ·rcases List.mem_cons.1 hp with rfl | h1
  ·exact hx
  ·exact h.own p h1
 ·have h1 := putP_len key bs (ls.map PairD.e)
  rw [← e, List.length_map, List.length_map] at h1
  exact h1
theorem dlaid_spec (F : List HP) (pv : Value) (ps : List PairD) (hpr : RdS F pv ps.length (pairsC ps)) (hpl : ps.length ≤ 3518437208882) (hpok : ∀ p ∈ ps, RdS F p.v p.bs.length (bvs p.bs)) :
 SpecF Tryd.prog 9 [pv] F [] (fun r L => ∃ ls os, DocP r ls os ∧ AllD (putsC (fun _ => []) ps) (ls.map PairD.e) ∧ ls.length ≤ ps.length ∧ L = docL r ls os) := by
 obtain ⟨pa, pc, rfl⟩ := hpr.len
 refine fun9.spec rfl ?_
 conv=>whnf
 refine LoopG.mk (fun mm e L => ∃ (i : Nat) (v : Value) (ls os : List PairD), i ≤ ps.length ∧ mm = ps.length - i ∧ DocP v ls os ∧ AllD (putsC (fun _ => []) (ps.take i)) (ls.map PairD.e) ∧ ls.length ≤ i ∧
  e = [(0, .slice pa ps.length pc), (3, v), (4, .int .i64 i)] ∧ L = docL v ls os) ps.length
  [(0, .slice pa ps.length pc), (3, .slice none 0 0), (4, .int .i64 0)] [own 2 (.slice none 0 0) 0 []] ⟨rfl, rfl, rfl, trivial⟩ (fun w H hs => Sat.own_nil hs)
  ⟨0, .slice none 0 0, [], [], by omega, rfl, ⟨.inl ⟨rfl, rfl⟩, fun p h => h, fun p h => absurd h List.not_mem_nil⟩, AllD.first, Nat.le_refl _, rfl, rfl⟩ ?_
 rintro mm e L ⟨i, v, ls, os, hi, rfl, hd, hA, hl, rfl, rfl⟩
 conv=>whnf
 refine LenG.lit ?_
 conv=>whnf
 refine CondG.dec (fun h1 => ?_) (fun h1 => ?_)
 ·have hil : i < ps.length := by omega
  obtain ⟨p, hp⟩ : ∃ p, ps[i]? = some p := ⟨ps[i], List.getElem?_eq_getElem hil⟩
  obtain ⟨p0, p1⟩ := pairsC_get hp
  have hpm := List.mem_of_getElem? hp
  conv=>whnf
  refine DrawG.mk 17 (docL v ls os) [] (Ent.refl _) ?_
  conv=>whnf
  refine .take 0 ?_
  conv=>whnf
  refine ⟨rfl, ?_⟩
  conv=>whnf
  refine .take 1 ?_
  conv=>whnf
  refine ⟨rfl, ?_⟩
  conv=>whnf
  refine .take 2 ?_
  conv=>whnf
  refine ⟨rfl, ?_⟩
  conv=>whnf
  refine .take 3 ?_
  conv=>whnf
  refine ⟨rfl, ?_⟩
  conv=>whnf
  refine IdxG.rd hpr (by omega) fun cb o hcc => ?_
  conv=>whnf
  refine .take 4 ?_
  conv=>whnf
  refine ⟨rfl, ?_⟩
  conv=>whnf
  refine .take 5 ?_
  conv=>whnf
  refine ⟨rfl, ?_⟩
  conv=>whnf
  refine LoadG.atF (hcc.one (i := ((i : Nat) : Int).toNat * 2) (u := (.string p.key)) (by rw [Int.toNat_natCast]; exact p0)) ?_
  clear hcc
  conv=>whnf
  refine .take 6 ?_
  conv=>whnf
  refine ⟨rfl, ?_⟩
  conv=>whnf
  refine .take 7 ?_
  conv=>whnf
  refine ⟨rfl, ?_⟩
  conv=>whnf
  refine .take 8 ?_
  conv=>whnf
  refine ⟨rfl, ?_⟩
  conv=>whnf
  refine IdxG.rd hpr (by omega) fun cb o hcc => ?_
  conv=>whnf
  refine .take 9 ?_
  conv=>whnf
  refine ⟨rfl, ?_⟩
  conv=>whnf
  refine .take 10 ?_
  conv=>whnf
  refine ⟨rfl, ?_⟩
  conv=>whnf
  refine LoadG.atF (hcc.one (i := ((i : Nat) : Int).toNat * 2 + 1) (u := p.v) (by rw [Int.toNat_natCast]; exact p1)) ?_
  clear hcc
  conv=>whnf
  refine .all ?_
  conv=>whnf
  refine ⟨by decide, ?_⟩
  conv=>whnf
  refine CallG.pure (put7_spec _ v ls (.right (.left (own_rd hd.sl (pairsC_len ls)) F) _) p.key p.v p.bs (.right (.right (hpok p hpm) _) _) (by omega) fun q hq => hd.own q (hd.sub q hq)) ?_
  rintro _ _ (⟨hm, rfl, rfl⟩ | ⟨hm, x, ov, out, hx, hov, ho, rfl, rfl⟩)
  ·conv=>whnf
   refine .take 12 ?_
   conv=>whnf
   refine ⟨rfl, ?_⟩
   conv=>whnf
   refine .take 13 ?_
   conv=>whnf
   refine ⟨rfl, ?_⟩
   conv=>whnf
   refine .take 14 ?_
   conv=>whnf
   refine ⟨rfl, ?_⟩
   conv=>whnf
   refine .take 15 ?_
   conv=>whnf
   refine ⟨rfl, ?_⟩
   conv=>whnf
   refine .take 16 ?_
   conv=>whnf
   refine ⟨rfl, ?_⟩
   conv=>whnf
   refine ⟨rfl, ?_⟩
   conv=>whnf
   refine ArithG.i64' ((i + 1 : Nat) : Int) (by omega) (by omega) ?_
   conv=>whnf
   refine ⟨ps.length - (i + 1), [(0, .slice pa ps.length pc), (3, v), (4, .int .i64 ((i + 1 : Nat) : Int))], docL v ls os, by omega, ⟨rfl, rfl, rfl, trivial⟩, Ent.refl _, i + 1, v, ls, os, by omega, rfl, hd, ?_, by omega, rfl, rfl⟩
   rw [putsC_step hp, putC, if_neg hm]
   exact hA
  ·obtain ⟨d1, d2, d3⟩ := put_doc hd hA hm hx hov ho
   conv=>whnf
   refine .take 12 ?_
   conv=>whnf
   refine ⟨rfl, ?_⟩
   conv=>whnf
   refine .take 13 ?_
   conv=>whnf
   refine ⟨rfl, ?_⟩
   conv=>whnf
   refine .take 14 ?_
   conv=>whnf
   refine ⟨rfl, ?_⟩
   conv=>whnf
   refine .take 15 ?_
   conv=>whnf
   refine ⟨rfl, ?_⟩
   conv=>whnf
   refine .take 16 ?_
   conv=>whnf
   refine ⟨rfl, ?_⟩
   conv=>whnf
   refine ⟨rfl, ?_⟩
   conv=>whnf
   refine ArithG.i64' ((i + 1 : Nat) : Int) (by omega) (by omega) ?_
   conv=>whnf
   refine ⟨ps.length - (i + 1), [(0, .slice pa ps.length pc), (3, ov), (4, .int .i64 ((i + 1 : Nat) : Int))], docL ov out (⟨p.key, x, p.bs⟩ :: os), by omega, ⟨rfl, rfl, rfl, trivial⟩, Ent.cons _ (Ent.cons _ (Ent.drop _)), i + 1, ov, out, ⟨p.key, x, p.bs⟩ :: os, by omega, rfl, d1, ?_, by omega, rfl, rfl⟩
   rw [putsC_step hp]
   exact d2
 ·obtain rfl : i = ps.length := by omega
  rw [List.take_of_length_le (Nat.le_refl _)] at hA
  conv=>whnf
  exact ret_here ⟨ls, os, hd, hA, hl, rfl⟩
section
variable {K : List W32}
theorem is_spec (F : List HP) (t : Nat) (c : TabD) (hg : GoodT K c) (hm : c.vals.length ≤ 3518437208883) (lv : Value) (ls : List PairD) (hr : RdS F lv ls.length (pairsC ls)) (hrd : PdRd F ls) (hA : AllD c.cont (ls.map PairD.e)) :
 SpecF Tryd.prog 19 [.pointer (some ⟨t, 0, none⟩), lv] F (c.pieces 89 124 144 t) (fun r L => r = .bool true ∧ L = c.pieces 89 124 144 t) := by
 refine fun19.spec rfl ?_
 conv=>whnf
 refine CallG.of (rest := []) (tlen_p _ t c) (by rw [List.append_nil]; exact Ent.refl _) ?_
 rintro _ _ ⟨rfl, rfl⟩
 conv=>whnf
 refine CallG.of (rest := []) (told_spec _ t c hg hm) (Ent.refl _) ?_
 rintro ev _ ⟨es, hed, hel, hev, heo, rfl⟩
 have he := hed.one hA
 have hll : ls.length = c.vals.length := by
  have := congrArg List.length he
  rw [List.length_map, List.length_map] at this
  omega
 conv=>whnf
 refine CallG.pure (pairs_same _ ev lv es ls (by omega) he ?_ (.right hr _) ?_ fun d hd => .right (hrd d hd) _) ?_
 ·exact .left (.left (.right (own_rd hev (pairsC_len es)) _) []) F
 ·exact fun d hd => by
   have h := pdO_rd (L := []) hd (heo d hd)
   rw [List.append_nil] at h
   exact .left (.left (.right (.tl h) _) []) F
 rintro _ _ ⟨rfl, rfl⟩
 conv=>whnf
 refine LenG.rd hr ?_
 conv=>whnf
 have ed : decide ((c.vals.length : Int) = (ls.length : Int)) = true := by rw [hll]; simp
 refine ⟨fun _ => ?_, fun h => absurd (ed.symm.trans h) (by decide)⟩
 (conv=>whnf);refine .tt ?_;(conv=>whnf)
 refine ⟨c.pieces 89 124 144 t, ?_, rfl, rfl⟩
 simp only [List.append_eq, List.append_nil, List.nil_append]
 exact Ent.dropL _ _
theorem all_seq2 (F : List HP) (g : Nat) (v : Value) (l : List PairD) (hv : SlV v l.length) (hm : l.length ≤ 3518437208883) (hc : Cel F g 0 v) (hl : RdS F v l.length (pairsC l)) (hr : ∀ p ∈ l, RdS F p.v p.bs.length (bvs p.bs) ∧ p.bs.length ≤ 4096) :
 SeqF Tryd.prog 46 [.pointer (some ⟨g, 0, none⟩)] l.length (rdAllD l) [] F := by
 intro y J Jx round L0 h0
 refine fun46.spec rfl ?_
 conv=>whnf
 refine LoadG.atF hc ?_
 conv=>whnf
 refine LenG.sl hv ?_
 conv=>whnf
 refine LoopG.mk (fun mm e L => ∃ (i : Nat) (L1 : List HP), i ≤ l.length ∧ mm = l.length - i ∧ J i L1 ∧ e = [(0, .func (.yield y) #[] #[]), (1, .pointer (some ⟨g, 0, none⟩)), (5, v), (6, .int .i64 l.length), (7, .int .i64 i)] ∧ L = L1) l.length
  [(0, .func (.yield y) #[] #[]), (1, .pointer (some ⟨g, 0, none⟩)), (5, v), (6, .int .i64 l.length), (7, .int .i64 0)] _ ⟨rfl, rfl, rfl, rfl, rfl, trivial⟩ (Ent.refl _) ⟨0, L0, Nat.zero_le _, rfl, h0, rfl, rfl⟩ ?_
 rintro mm e L ⟨i, _, hi, rfl, hJ, rfl, rfl⟩
 conv=>whnf
 refine CondG.dec (fun h1 => ?_) (fun h1 => ?_)
 ·have hil : i < l.length := by omega
  obtain ⟨p, hp⟩ : ∃ p, l[i]? = some p := ⟨l[i], List.getElem?_eq_getElem hil⟩
  have hpm := List.mem_of_getElem? hp
  obtain ⟨hpr, hpb⟩ := hr p hpm
  obtain ⟨pa, pc, hpv⟩ := hpr.len
  conv=>whnf
  refine IdxG.rd hl (by omega) fun cb o hcc => ?_
  conv=>whnf
  refine LoadNG.atF (vs := p.cells) rfl (by rw [Int.toNat_natCast]; exact hcc.part (i := i * 2) (pairsC_at hp)) ?_
  clear hcc
  conv=>whnf
  intro b4
  conv=>whnf
  refine StoreG.at (cs := p.cells) rfl (Upd.whole (by rfl) (by simp [PairD.cells, Value.oneCell', hpv])) ?_
  conv=>whnf
  refine DrawG.mk 8 [cel b4 34 p.cells] L (Ent.perm (List.perm_append_singleton _ _).symm) ?_
  conv=>whnf
  refine .take 0 ?_
  conv=>whnf
  refine ⟨rfl, ?_⟩
  conv=>whnf
  refine .take 1 ?_
  conv=>whnf
  refine ⟨rfl, ?_⟩
  conv=>whnf
  refine .take 2 ?_
  conv=>whnf
  refine ⟨rfl, ?_⟩
  conv=>whnf
  refine LoadG.at (v := .string p.key) (.here rfl) ?_
  conv=>whnf
  refine .take 3 ?_
  conv=>whnf
  refine ⟨rfl, ?_⟩
  conv=>whnf
  refine .take 4 ?_
  conv=>whnf
  refine ⟨rfl, ?_⟩
  conv=>whnf
  refine LoadG.at (v := p.v) (.here rfl) ?_
  conv=>whnf
  refine .all ?_
  conv=>whnf
  refine ⟨by decide, ?_⟩
  conv=>whnf
  refine CallG.pure (clone_spec _ p.v p.bs (by omega) (.right (.right hpr _) _)) ?_
  rintro x _ ⟨hx, rfl, _⟩
  conv=>whnf
  refine .all ?_
  conv=>whnf
  refine ⟨by decide, ?_⟩
  conv=>whnf
  have hround := round i [.string p.key, x] [own 1 x p.bs.length (bvs p.bs)] L [cel b4 34 p.cells] hil ⟨p, x, hp, hx, rfl, rfl⟩ hJ
  refine YieldG.of (pre := [own 1 x p.bs.length (bvs p.bs)] ++ L) (rest := []) hround (by rw [List.append_nil]; exact Ent.refl _) ?_
  intro b L2 hb
  conv=>whnf
  refine .take 7 ?_
  conv=>whnf
  refine ⟨rfl, ?_⟩
  conv=>whnf
  refine ⟨rfl, ?_⟩
  cases b with
  | false =>
   (conv=>whnf);refine .ntt ?_;(conv=>whnf)
   exact ⟨L2, (by rw [List.append_nil]; exact Ent.dropL _ _), L2, .inr hb, Ent.refl _⟩
  | true =>
   (conv=>whnf);refine .nff ?_;(conv=>whnf)
   refine ArithG.i64' ((i + 1 : Nat) : Int) (by omega) (by omega) ?_
   conv=>whnf
   refine ⟨l.length - (i + 1), [(0, .func (.yield y) #[] #[]), (1, .pointer (some ⟨g, 0, none⟩)), (5, v), (6, .int .i64 l.length), (7, .int .i64 (i + 1 : Nat))], L2, by omega, ⟨rfl, rfl, rfl, rfl, rfl, trivial⟩, (by rw [List.append_nil]; exact Ent.dropL _ _), i + 1, L2, by omega, rfl, hb, rfl, rfl⟩
 ·obtain rfl : i = l.length := by omega
  conv=>whnf
  exact ret_here ⟨L, .inl hJ, Ent.refl _⟩
end
end Go.Proofs.YtjkldhalmglkpaaDoor
