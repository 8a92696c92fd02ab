import Derived.Test.YtjkldhalmglkpaaDoorSn
import Derived.Test.YtjkldhalmglkpaaDoorSo
import Derived.Test.YtjkldhalmglkpaaDoorZTc
import Derived.Test.YtjkldhalmglkpaaDoorZRg
namespace Go.Proofs.YtjkldhalmglkpaaDoor
open Go Go.Sl Go.Sort
theorem prsT : ElT Tryd.prog 22 34 2 40 := .of (by kernel_rfl)
structure PairsOf (c : TabD) (l : List PairD) : Prop where
 all : AllD c.cont (l.map PairD.e)
 len : l.length = c.vals.length
 get : ∀ p ∈ l, getK c.vals p.key = some (p.v, p.bs)
theorem pairsC_take {l : List PairD} {i : Nat} {p : PairD} (h : l[i]? = some p) : pairsC (l.take (i + 1)) = pairsC (l.take i) ++ p.cells := by
 rw [List.take_add_one, h, pairsC_app]
 exact congrArg _ (List.append_nil _)
section
variable {K : List W32}
theorem pairs_spec (F : List HP) (t : Nat) (c : TabD) (hg : GoodT K c) (hm : c.vals.length ≤ 3518437208883) :
 SpecF Tryd.prog 45 [.pointer (some ⟨t, 0, none⟩)] F (c.pieces 89 124 144 t) (fun r L => ∃ l : List PairD, PairsOf c l ∧ SlV r l.length ∧ L = own 2 r l.length (pairsC l) :: c.pieces 89 124 144 t) := by
 refine fun45.spec rfl ?_
 conv=>whnf
 refine LoadG.at (.here rfl) ?_
 conv=>whnf
 refine CallG.pure (keys_spec _ _) ?_
 rintro _ _ ⟨g, rfl, rfl⟩
 conv=>whnf
 refine CallG.of (pre := [blk g (.cells #[.map (some c.vb)] 84), mapS c.vb (kvM c.vals)]) (rest := cel t 89 [.map (some c.vb), .pointer (some ⟨c.q, 0, none⟩), .map (some c.ob)] :: mapP digV digOk c.ob (ofM c.ofs) :: cel c.q 124 [c.top, .int .i64 c.len] :: (rcs 144 c.Bs ++ shs c.S))
  (sorted_spec _ g c.vb (kvM c.vals) (by rw [kvM, List.length_map]; omega) (fun p hp => by
   obtain ⟨q, hq, rfl⟩ := List.mem_map.1 hp
   have := (hg.wf.keys q hq).2
   show q.1.size ≤ maxLen
   simp only [maxLen]
   omega)) (Ent.sel (T := rcs 144 c.Bs ++ shs c.S) (A := [_, _, _, _, _]) [0, 2, 1, 3, 4] rfl) ?_
 rintro kv _ ⟨ss, hkv, hp, rfl⟩
 rw [kvM, List.map_map] at hp
 obtain ⟨a1, a2, a3⟩ := ordK_all hg hp
 obtain ⟨ks, hks⟩ : ∃ ks, ks = (ss.mergeSort leB).map strOfB := ⟨_, rfl⟩
 have hcs : (ss.mergeSort leB).map encStr = keysB ks := by rw [hks, keysB, List.map_map]; rfl
 have hkl : ss.length = ks.length := by rw [hks, List.length_map, List.length_mergeSort]
 rw [hcs, hkl]
 rw [hkl] at hkv
 rw [← hks] at a1 a2 a3
 obtain ⟨l, hl⟩ : ∃ l, l = ordK c.vals ks := ⟨_, rfl⟩
 rw [← hl] at a1 a2 a3
 have hlk : l.length = ks.length := by rw [hl, ordK, List.length_map]
 conv=>whnf
 refine LenG.sl hkv ?_
 conv=>whnf
 have kB : ∀ i (h : i < ks.length), (keysB ks)[i]? = some (.string ks[i]) := fun i h => by rw [keysB, List.getElem?_map, List.getElem?_eq_getElem h]; rfl
 have kBl : (keysB ks).length = ks.length * 1 := by rw [keysB, List.length_map, Nat.mul_one]
 obtain ⟨A, hA⟩ : ∃ A, A = mapP digV digOk c.ob (ofM c.ofs) :: cel c.q 124 [c.top, .int .i64 c.len] :: (rcs 144 c.Bs ++ shs c.S) := ⟨_, rfl⟩
 rw [← hA]
 refine LoopG.mk (fun mm e L => ∃ (i : Nat) (v : Value), i ≤ ks.length ∧ mm = ks.length - i ∧ SlV v i ∧ e = [(0, .pointer (some ⟨t, 0, none⟩)), (2, .slice none 0 0), (3, v), (11, kv), (12, .int .i64 ks.length), (13, .int .i64 i)] ∧
  L = own 2 v i (pairsC (l.take i)) :: own 1 kv ks.length (keysB ks) :: cel t 89 [.map (some c.vb), .pointer (some ⟨c.q, 0, none⟩), .map (some c.ob)] :: mapS c.vb (kvM c.vals) :: A) ks.length
  [(0, .pointer (some ⟨t, 0, none⟩)), (2, .slice none 0 0), (3, .slice none 0 0), (11, kv), (12, .int .i64 ks.length), (13, .int .i64 0)] (own 2 (.slice none 0 0) 0 [] :: own 1 kv ks.length (keysB ks) :: cel t 89 [.map (some c.vb), .pointer (some ⟨c.q, 0, none⟩), .map (some c.ob)] :: mapS c.vb (kvM c.vals) :: A) ⟨rfl, rfl, rfl, rfl, rfl, rfl, trivial⟩ (Ent.trans (Ent.sel (T := A) (A := [_, _, _, _]) [0, 3, 2] rfl) (fun w G hs => Sat.own_nil hs))
  ⟨0, .slice none 0 0, by omega, rfl, .inl ⟨rfl, rfl⟩, rfl, rfl⟩ ?_
 rintro mm e L ⟨i, v, hi, rfl, hv, rfl, rfl⟩
 conv=>whnf
 refine CondG.dec (fun h1 => ?_) (fun h1 => ?_)
 ·have hil : i < ks.length := by omega
  obtain ⟨k, hkk⟩ : ∃ k, k = ks[i] := ⟨_, rfl⟩
  obtain ⟨p, hpl⟩ : ∃ p, l[i]? = some p := ⟨l[i]'(by omega), List.getElem?_eq_getElem (by omega)⟩
  have hpk : p.key = k := by
   rw [hl, ordK, List.getElem?_map, List.getElem?_eq_getElem hil, ← hkk] at hpl
   simp only [Option.map_some, Option.some.injEq] at hpl
   rw [← hpl]
  have hpg := a3 p (List.mem_of_getElem? hpl)
  rw [hpk] at hpg
  conv=>whnf
  refine IdxG.rd (L := own 2 v i (pairsC (l.take i)) :: own 1 kv ks.length (keysB ks) :: cel t 89 [.map (some c.vb), .pointer (some ⟨c.q, 0, none⟩), .map (some c.ob)] :: mapS c.vb (kvM c.vals) :: A) (.tl (own_rd hkv kBl)) (by omega) fun cb o hcc => ?_
  conv=>whnf
  refine LoadG.at (v := .string k) (hcc.one (i := ((i : Nat) : Int).toNat * 1) (by rw [Int.toNat_natCast, Nat.mul_one, hkk]; exact kB i hil)) ?_
  clear hcc
  conv=>whnf
  refine LoadG.at (.tl (.tl (.here rfl))) ?_
  conv=>whnf
  refine DoesG.look strT mapT zeroB trivial (MapG.left (.tl (.tl (.tl .here))) F) false ?_
  rw [if_neg (by decide), getM_kv, hpg, Option.map_some, Option.getD_some]
  obtain ⟨va, vc, hpv⟩ : ∃ a c, p.v = .slice a p.bs.length c := ((hg.wf.vals _ (getK_mem hpg)).1.sl.len).imp fun a h => h.imp fun c h => by rw [bvs_len] at h; exact h
  conv=>whnf
  refine BuildG.of (cs := [.string k, p.v]) (by rw [hpv]; rfl) ?_
  conv=>whnf
  refine BuildG.of (cs := p.cells) (by rw [← hpk]; rfl) ?_
  conv=>whnf
  intro b
  conv=>whnf
  refine DoesG.ent (Ent.front 1 rfl) ?_
  refine app_ownW prsT 22 (m := 1) (ys := p.cells) (.mk _ _ _ _ _ (Nat.le_refl _) (.tl (.left .all _))) rfl (by simp [PairD.cells, Value.oneCell', hpv]) (by simp only [maxLen]; omega) (.wide (by omega)) fun v' hv' hl' _ => ?_
  conv=>whnf
  refine ArithG.i64' ((i + 1 : Nat) : Int) (by omega) (by omega) ?_
  conv=>whnf
  refine ⟨ks.length - (i + 1), [(0, .pointer (some ⟨t, 0, none⟩)), (2, .slice none 0 0), (3, v'), (11, kv), (12, .int .i64 ks.length), (13, .int .i64 (i + 1 : Nat))], _, by omega, ⟨rfl, rfl, rfl, rfl, rfl, rfl, trivial⟩, ?_, i + 1, v', by omega, rfl, hv', rfl, rfl⟩
  rw [pairsC_take hpl]
  exact Ent.sel (T := A) (A := [_, _, _, _, _]) [0, 2, 3, 4] rfl
 ·obtain rfl : i = ks.length := by omega
  conv=>whnf
  refine ⟨own 2 v l.length (pairsC l) :: c.pieces 89 124 144 t, ?_, l, ⟨a1, a2, a3⟩, by rw [hlk]; exact hv, rfl⟩
  rw [← hlk, List.take_of_length_le (Nat.le_refl _), TabD.pieces, ← hA]
  exact Ent.sel (T := A) (A := [_, _, _, _]) [0, 2, 3] rfl
theorem tall_spec (F : List HP) (t : Nat) (c : TabD) (hg : GoodT K c) (hm : c.vals.length ≤ 3518437208883) :
 SpecF Tryd.prog 11 [.pointer (some ⟨t, 0, none⟩)] F (c.pieces 89 124 144 t) (fun r L => ∃ (g : Nat) (v : Value) (l : List PairD), r = .func (.func 46) #[] #[.pointer (some ⟨g, 0, none⟩)] ∧ PairsOf c l ∧ SlV v l.length ∧
  L = cel g 22 [v] :: own 2 v l.length (pairsC l) :: c.pieces 89 124 144 t) := by
 refine fun11.spec rfl ?_
 conv=>whnf
 refine CallG.of (rest := []) (pairs_spec _ t c hg hm) (by rw [List.append_nil]; exact Ent.refl _) ?_
 rintro v _ ⟨l, hl, hv, rfl⟩
 rw [List.append_nil]
 conv=>whnf
 intro g
 conv=>whnf
 obtain ⟨va, vc, rfl⟩ := hv.len
 refine StoreG.at rfl (Upd.here (by decide) rfl) ?_
 conv=>whnf
 exact ret_here ⟨g, _, l, rfl, hl, hv, rfl⟩
def rdAllD (l : List PairD) (i : Nat) (vs : List Value) (A : List HP) : Prop := ∃ p x, l[i]? = some p ∧ SlV x p.bs.length ∧ vs = [.string p.key, x] ∧ A = [own 1 x p.bs.length (bvs p.bs)]
theorem all_seq (F : List HP) (g : Nat) (v : Value) (l : List PairD) (hv : SlV v l.length) (hm : l.length ≤ 3518437208883) (hr : ∀ p ∈ l, RdS F p.v p.bs.length (bvs p.bs) ∧ p.bs.length ≤ 4096) :
 SeqF Tryd.prog 46 [.pointer (some ⟨g, 0, none⟩)] l.length (rdAllD l) [cel g 22 [v], own 2 v l.length (pairsC l)] F := by
 intro y J Jx round L0 h0
 refine fun46.spec rfl ?_
 conv=>whnf
 refine LoadG.at (v := v) (.here rfl) ?_
 conv=>whnf
 refine LenG.sl hv ?_
 conv=>whnf
 have hl2 : (pairsC l).length = l.length * 2 := pairsC_len l
 refine LoopG.mk (fun mm e L => ∃ (i : Nat) (L1 : List HP), i ≤ l.length ∧ mm = l.length - i ∧ J i L1 ∧ e = [(0, .func (.yield y) #[] #[]), (1, .pointer (some ⟨g, 0, none⟩)), (5, v), (6, .int .i64 l.length), (7, .int .i64 i)] ∧
  L = cel g 22 [v] :: own 2 v l.length (pairsC l) :: L1) l.length
  [(0, .func (.yield y) #[] #[]), (1, .pointer (some ⟨g, 0, none⟩)), (5, v), (6, .int .i64 l.length), (7, .int .i64 0)] _ ⟨rfl, rfl, rfl, rfl, rfl, trivial⟩ (Ent.refl _) ⟨0, L0, Nat.zero_le _, rfl, h0, rfl, rfl⟩ ?_
 rintro mm e L ⟨i, L1, hi, rfl, hJ, rfl, rfl⟩
 conv=>whnf
 refine CondG.dec (fun h1 => ?_) (fun h1 => ?_)
 ·have hil : i < l.length := by omega
  obtain ⟨p, hp⟩ : ∃ p, l[i]? = some p := ⟨l[i], List.getElem?_eq_getElem hil⟩
  have hpm := List.mem_of_getElem? hp
  obtain ⟨hpr, hpb⟩ := hr p hpm
  obtain ⟨pa, pc, hpv⟩ := hpr.len
  conv=>whnf
  refine IdxG.rd (L := cel g 22 [v] :: own 2 v l.length (pairsC l) :: L1) (.tl (own_rd hv hl2)) (by omega) fun cb o hcc => ?_
  conv=>whnf
  refine LoadNG.at (vs := p.cells) rfl (by rw [Int.toNat_natCast]; exact hcc.part (i := i * 2) (pairsC_at hp)) ?_
  clear hcc
  conv=>whnf
  intro b4
  conv=>whnf
  refine StoreG.at (cs := p.cells) rfl (Upd.whole (by rfl) (by simp [PairD.cells, Value.oneCell', hpv])) ?_
  conv=>whnf
  refine DrawG.mk 8 [cel b4 34 p.cells] (cel g 22 [v] :: own 2 v l.length (pairsC l) :: L1) (Ent.perm (List.perm_append_singleton _ _).symm) ?_
  conv=>whnf
  refine .take 0 ?_
  conv=>whnf
  refine ⟨rfl, ?_⟩
  conv=>whnf
  refine .take 1 ?_
  conv=>whnf
  refine ⟨rfl, ?_⟩
  conv=>whnf
  refine .take 2 ?_
  conv=>whnf
  refine ⟨rfl, ?_⟩
  conv=>whnf
  refine LoadG.at (v := .string p.key) (.here rfl) ?_
  conv=>whnf
  refine .take 3 ?_
  conv=>whnf
  refine ⟨rfl, ?_⟩
  conv=>whnf
  refine .take 4 ?_
  conv=>whnf
  refine ⟨rfl, ?_⟩
  conv=>whnf
  refine LoadG.at (v := p.v) (.here rfl) ?_
  conv=>whnf
  refine .all ?_
  conv=>whnf
  refine ⟨by decide, ?_⟩
  conv=>whnf
  refine CallG.pure (clone_spec _ p.v p.bs (by omega) (.right (.right hpr _) _)) ?_
  rintro x _ ⟨hx, rfl, _⟩
  conv=>whnf
  refine .all ?_
  conv=>whnf
  refine ⟨by decide, ?_⟩
  conv=>whnf
  have hround := round i [.string p.key, x] [own 1 x p.bs.length (bvs p.bs)] L1 ([cel g 22 [v], own 2 v l.length (pairsC l)] ++ [cel b4 34 p.cells]) hil ⟨p, x, hp, hx, rfl, rfl⟩ hJ
  rw [List.append_assoc] at hround
  refine YieldG.of (pre := [own 1 x p.bs.length (bvs p.bs)] ++ L1) (rest := [cel g 22 [v], own 2 v l.length (pairsC l)]) hround (Ent.perm (by classical exact List.perm_iff_count.2 fun x => by simp only [List.append_eq, List.count_append, List.count_cons, List.count_nil]; omega)) ?_
  intro b L2 hb
  conv=>whnf
  refine .take 7 ?_
  conv=>whnf
  refine ⟨rfl, ?_⟩
  conv=>whnf
  refine ⟨rfl, ?_⟩
  cases b with
  | false =>
   (conv=>whnf);refine .ntt ?_;(conv=>whnf)
   exact ⟨[cel g 22 [v], own 2 v l.length (pairsC l)] ++ L2, (Ent.dropL _ _).trans (Ent.perm List.perm_append_comm), L2, .inr hb, Ent.refl _⟩
  | true =>
   (conv=>whnf);refine .nff ?_;(conv=>whnf)
   refine ArithG.i64' ((i + 1 : Nat) : Int) (by omega) (by omega) ?_
   conv=>whnf
   refine ⟨l.length - (i + 1), [(0, .func (.yield y) #[] #[]), (1, .pointer (some ⟨g, 0, none⟩)), (5, v), (6, .int .i64 l.length), (7, .int .i64 (i + 1 : Nat))], _, by omega, ⟨rfl, rfl, rfl, rfl, rfl, trivial⟩, (Ent.dropL _ _).trans (Ent.perm List.perm_append_comm), i + 1, L2, by omega, rfl, hb, rfl, rfl⟩
 ·obtain rfl : i = l.length := by omega
  conv=>whnf
  exact ret_here ⟨L1, .inl hJ, Ent.refl _⟩
theorem pairs_rd {t : Nat} {c : TabD} {l : List PairD} (hg : GoodT K c) (hl : PairsOf c l) : ∀ p ∈ l, RdS (c.pieces 89 124 144 t) p.v p.bs.length (bvs p.bs) ∧ p.bs.length ≤ 4096 ∧ ∀ b ∈ p.bs, b < 256 := fun p hp => by
 obtain ⟨h1, h2, _, h4⟩ := hg.wf.vals _ (getK_mem (hl.get p hp))
 have h := TabD.shG (TT := 89) (ST := 124) (NT := 144) (t := t) p.v (bvs p.bs) h1
 rw [bvs_len] at h
 exact ⟨h, h2, h4⟩
def pdO (l : List PairD) : List HP := l.map fun p => own 1 p.v p.bs.length (bvs p.bs)
theorem told_spec (F : List HP) (t : Nat) (c : TabD) (hg : GoodT K c) (hm : c.vals.length ≤ 3518437208883) :
 SpecF Tryd.prog 21 [.pointer (some ⟨t, 0, none⟩)] F (c.pieces 89 124 144 t) (fun r L => ∃ ls : List PairD, AllD c.cont (ls.map PairD.e) ∧ ls.length = c.vals.length ∧ SlV r ls.length ∧ (∀ p ∈ ls, SlV p.v p.bs.length) ∧
  L = c.pieces 89 124 144 t ++ (own 2 r ls.length (pairsC ls) :: pdO ls)) := by
 refine fun21.spec rfl ?_
 conv=>whnf
 intro b3
 conv=>whnf
 refine CallG.of (pre := c.pieces 89 124 144 t) (rest := [cel b3 22 [.slice none 0 0]]) (tall_spec _ t c hg hm) (Ent.perm (List.perm_append_singleton _ _).symm) ?_
 rintro _ _ ⟨g, v, l, rfl, hl, hv, rfl⟩
 conv=>whnf
 have hprd := pairs_rd (t := t) hg hl
 have hll : l.length ≤ 3518437208883 := by rw [hl.len]; exact hm
 refine ⟨by kernel_rfl, RangeG.mk l.length (rdAllD l) [cel g 22 [v], own 2 v l.length (pairsC l)] (fun i L => ∃ (v' : Value) (ls : List PairD), ls.length = i ∧ ls.map PairD.e = (l.take i).map PairD.e ∧ SlV v' i ∧ (∀ p ∈ ls, SlV p.v p.bs.length) ∧ L = cel b3 22 [v'] :: own 2 v' i (pairsC ls) :: pdO ls)
  (fun _ _ => False) [cel b3 22 [.slice none 0 0], own 2 (.slice none 0 0) 0 []] (c.pieces 89 124 144 t)
  (fun G => all_seq _ g v l hv (by rw [hl.len]; exact hm) fun p hp => ⟨((hprd p hp).1.left F).right G, (hprd p hp).2.1⟩) (fun i vs A h => by obtain ⟨_, _, _, _, rfl, _⟩ := h; rfl) ?_ ⟨.slice none 0 0, [], rfl, rfl, .inl ⟨rfl, rfl⟩, by simp, rfl⟩ ?_ ?_ (fun _ _ _ h => h.elim) (fun _ _ h => h.elim)⟩
 ·refine (Ent.trans (m := own 2 (.slice none 0 0) 0 [] :: (cel g 22 [v] :: own 2 v l.length (pairsC l) :: (c.pieces 89 124 144 t ++ [cel b3 22 [.slice none 0 0]]))) (fun w H hs => Sat.own_nil hs) (Ent.perm ?_))
  exact (by classical exact List.perm_iff_count.2 fun x => by simp only [List.append_eq, List.count_append, List.count_cons, List.count_nil]; omega)
 ·rintro i _ _ L1 y G hil ⟨p, x, hp, hx, rfl, rfl⟩ ⟨v', ls, hls, hmap, hv', hown, rfl⟩ _
  obtain ⟨xa, xc, hxe⟩ := hx.len
  obtain ⟨va, vc, hve⟩ := hv'.len
  conv=>whnf
  refine ⟨rfl, fun G' _ => ?_⟩
  conv=>whnf
  refine LoadG.at (v := v') (.tl (.here rfl)) ?_
  conv=>whnf
  refine BuildG.of (cs := [.string p.key, x]) (by rw [hxe]; rfl) ?_
  conv=>whnf
  refine BuildG.of (cs := [.string p.key, x]) rfl ?_
  conv=>whnf
  intro b
  conv=>whnf
  refine DoesG.ent (Ent.front 3 rfl) ?_
  refine app_ownW prsT 22 (m := 1) (ys := [.string p.key, x]) (.mk _ _ _ _ _ (Nat.le_refl _) (.tl (.left .all _))) rfl (by simp [Value.oneCell', hxe]) (by simp only [maxLen]; omega) (.wide (by omega)) fun v2 hv2 _ _ => ?_
  obtain ⟨wa, wc, rfl⟩ := hv2.len
  conv=>whnf
  refine StoreG.at rfl (Upd.tl (Upd.tl (Upd.tl (Upd.here (by simp) rfl)))) ?_
  conv=>whnf
  refine ⟨cel b3 22 [.slice wa (i + 1) wc] :: own 2 (.slice wa (i + 1) wc) (i + 1) (pairsC (ls ++ [⟨p.key, x, p.bs⟩])) :: pdO (ls ++ [⟨p.key, x, p.bs⟩]), ?_, _, ls ++ [⟨p.key, x, p.bs⟩], by rw [List.length_append, hls]; rfl, ?_, hv2, ?_, rfl⟩
  ·rw [pairsC_app]
   unfold pdO
   rw [List.map_append]
   refine (Ent.sel (T := ls.map fun p => own 1 p.v p.bs.length (bvs p.bs)) (A := [_, _, _, _]) [3, 0, 2] rfl).trans ?_
   exact Ent.perm (List.Perm.cons _ (List.Perm.cons _ (List.perm_append_singleton _ _).symm))
  ·rw [List.take_add_one, hp, List.map_append, List.map_append, hmap]
   rfl
  ·intro q hq
   rcases List.mem_append.1 hq with hq | hq
   ·exact hown q hq
   ·obtain rfl := List.mem_singleton.1 hq
    exact hx
 ·rintro D _ ⟨v', ls, hls, hmap, hv', hown, rfl⟩
  conv=>whnf
  refine LoadG.at (v := v') (.tl (.tl (.tl (.here rfl)))) ?_
  conv=>whnf
  refine ⟨[cel g 22 [v], own 2 v l.length (pairsC l)] ++ (cel b3 22 [v'] :: own 2 v' l.length (pairsC ls) :: pdO ls ++ c.pieces 89 124 144 t), Ent.refl _, ?_⟩
  refine ⟨c.pieces 89 124 144 t ++ (own 2 v' ls.length (pairsC ls) :: pdO ls), ?_, ls, ?_, by rw [hls]; exact hl.len, by rw [hls]; exact hv', hown, rfl⟩
  ·rw [hls]
   refine (Ent.sel (T := pdO ls ++ c.pieces 89 124 144 t) (A := [_, _, _, _]) [3] rfl).trans ?_
   exact Ent.perm (List.perm_append_comm (l₁ := own 2 v' l.length (pairsC ls) :: pdO ls) (l₂ := c.pieces 89 124 144 t))
  ·rw [hmap, List.take_of_length_le (Nat.le_refl _)]
   exact hl.all
end
end Go.Proofs.YtjkldhalmglkpaaDoor
