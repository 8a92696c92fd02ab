import Derived.Test.YtjkldhalmglkpaaDoorUi
import Derived.Test.YtjkldhalmglkpaaDoorUh
import Derived.Test.YtjkldhalmglkpaaDoorSf
import Derived.Test.YtjkldhalmglkpaaDoorUb
namespace Go.Proofs.YtjkldhalmglkpaaDoor
open Go Go.Sl Go.Sort
def mineB : ByteArray := ⟨#[109, 105, 110, 101]⟩
theorem chS_cons (d : ChD) (l : List ChD) : chS (d :: l) = own 1 d.ov d.old.length (bvs d.old) :: own 1 d.nv d.new.length (bvs d.new) :: chS l := rfl
theorem keysB_one (T : List ByteArray) : ∀ u ∈ keysB T, u.oneCell' = true := fun u hu => by
 obtain ⟨k, _, rfl⟩ := List.mem_map.1 hu
 rfl
theorem keysB_len (T : List ByteArray) : (keysB T).length = T.length * 1 := by rw [keysB, List.length_map, Nat.mul_one]
section
variable {K : List W32} (hk : K.length = 64)
include hk
theorem lists_spec (F : List HP) (hK : CelN F 0 0 (wvs K)) (pv : Value) (ps : List PairD) (hpr : RdS F pv ps.length (pairsC ps)) (hpl : ps.length ≤ 1073741824) (hpok : ∀ p ∈ ps, RdS F p.v p.bs.length (bvs p.bs) ∧ (∀ b ∈ p.bs, b < 256))
 (xv : Value) (xs : List StepS) (hxr : RdS F xv xs.length (xs.flatMap StepS.cells)) (hxl : xs.length ≤ 1073741824) (hxok : ∀ x ∈ xs, StepFit F x ∧ x.bs.length ≤ 140737488355328) :
 SpecF Tryd.prog 5 [pv, xv] F [] (fun r L => r = .bool true) := by
 obtain ⟨xa, xc, rfl⟩ := hxr.len
 refine fun5.spec rfl ?_
 conv=>whnf
 refine CallG.pure (awake_spec hk _ (.right hK _)) ?_
 rintro _ _ ⟨rfl, rfl⟩
 conv=>whnf
 refine CallG.pure (table_g hk _ (.right hK _) _ ps (hpr.right _) (by omega) fun p hp => ⟨(hpok p hp).1.right _, (hpok p hp).2⟩) ?_
 rintro _ _ ⟨t, c, rfl, hg, -, hcl, rfl⟩
 (conv=>whnf);repeat((with_reducible first|refine .ff ?_|refine .nff ?_);conv=>whnf)
 refine CallG.pure (over_k _ _ _ (tabFind c.vals)) ?_
 rintro _ _ ⟨s, rfl, rfl⟩
 (conv=>whnf);refine .ff ?_;(conv=>whnf);refine .ff ?_;(conv=>whnf);refine .ff ?_;(conv=>whnf)
 refine CondG.ndec (fun h => absurd rfl h) (fun _ => ?_)
 conv=>whnf
 refine BuildG.of (cs := [.slice none 0 0]) rfl ?_
 conv=>whnf
 intro sh
 conv=>whnf
 obtain ⟨src, hsrc⟩ : ∃ src, src = Value.iface 25 (.pointer (some ⟨t, 0, none⟩)) := ⟨_, rfl⟩
 obtain ⟨find, hfind⟩ : ∃ find, find = tabFind c.vals := ⟨_, rfl⟩
 have ho : SrcOk find := by rw [hfind]; exact tab_srcOk hg.wf
 have hf : ∀ k, (find k).1 = c.cont k := fun k => by rw [hfind]; exact tabFind_eq hg k
 obtain ⟨M, hM⟩ : ∃ M, M = c.pieces 89 124 144 t := ⟨_, rfl⟩
 have hsM : ∀ G, SrcG Tryd.prog (M ++ G) src find := fun G => by
  rw [hsrc, hfind, hM]
  exact tab_srcD G t c hg.wf
 rw [← hsrc, ← hfind]
 refine LoopG.mk (fun mm e L => ∃ (i : Nat) (U : View) (n a m : Nat), i ≤ xs.length ∧ mm = xs.length - i ∧ U.hist.length ≤ i ∧ n ≤ i ∧ a ≤ i ∧ m ≤ i ∧ OkV U ∧
  e = [(1, .slice xa xs.length xc), (4, .bool false), (7, .pointer (some ⟨s, 0, none⟩)), (9, .pointer (some ⟨sh, 0, none⟩)), (10, .int .i64 i)] ∧ L = stK 95 s src find U n a :: shX sh m :: M) xs.length
  [(1, .slice xa xs.length xc), (4, .bool false), (7, .pointer (some ⟨s, 0, none⟩)), (9, .pointer (some ⟨sh, 0, none⟩)), (10, .int .i64 0)] (stK 95 s src find ⟨fun k => (find k).1, []⟩ 0 0 :: shX sh 0 :: M) ⟨rfl, rfl, rfl, rfl, rfl, trivial⟩ ?_
  ⟨0, ⟨fun k => (find k).1, []⟩, 0, 0, 0, by omega, rfl, Nat.le_refl 0, Nat.le_refl 0, Nat.le_refl 0, Nat.le_refl 0, .first hf hg.ok, rfl, rfl⟩ ?_
 ·rw [hM]
  simp only [List.append_eq, List.append_nil, List.nil_append, List.cons_append]
  exact (shX_begin sh).trans (Ent.perm (List.Perm.swap _ _ _))
 rintro mm e L ⟨i, U, n, a, m, hi, rfl, hh, hn, ha, hm, hU, rfl, rfl⟩
 conv=>whnf
 refine LenG.lit ?_
 conv=>whnf
 refine CondG.dec (fun h1 => ?_) (fun h1 => ?_)
 ·have hil : i < xs.length := by omega
  obtain ⟨x, hx⟩ : ∃ x, xs[i]? = some x := ⟨xs[i], List.getElem?_eq_getElem hil⟩
  have hxm := List.mem_of_getElem? hx
  obtain ⟨hfit, hxb⟩ := hxok x hxm
  obtain ⟨va, vc, hxv⟩ := hfit.rd.len
  conv=>whnf
  refine IdxG.rd hxr (by omega) fun cb o hcc => ?_
  conv=>whnf
  refine LoadNG.atF (vs := x.cells) rfl (by rw [Int.toNat_natCast]; exact hcc.part (i := i * 4) (stpC_all hx)) ?_
  clear hcc
  conv=>whnf
  intro b
  conv=>whnf
  refine StoreG.at (cs := x.cells) rfl (Upd.whole (by rfl) (by simp [StepS.cells, Value.oneCell', hxv])) ?_
  conv=>whnf
  refine LoadG.at (v := .int .i64 x.kind) (.here rfl) ?_
  conv=>whnf
  refine CondG.dec (fun h2 => ?_) (fun h2 => ?_)
  ·conv=>whnf
   refine LoadG.at (v := .string x.key) (.here rfl) ?_
   conv=>whnf
   refine CallG.of (pre := [stK 95 s src find U n a]) (rest := cel b 58 x.cells :: shX sh m :: M) (get_e _ s src U n a x.key ((hsM F).left [_, _]) ho) (Ent.perm (List.Perm.swap _ _ _)) ?_
   rintro _ _ ⟨y, hy, rfl, rfl⟩
   have hgl : (gotV U x.key).length ≤ 1099511627776 := by
    unfold gotV
    have := (hU.now x.key).2.1
    split
    ·exact Nat.le_trans this (by decide)
    ·simp
   conv=>whnf
   refine CallG.of (pre := [own 1 y (gotV U x.key).length (bvs (gotV U x.key)), shX sh m]) (rest := stK 95 s src find U n (a + 1) :: cel b 58 x.cells :: M) (shX_take _ sh m y _ _ hy (bvs_len _) hgl (by omega)) (Ent.perm (by classical exact List.perm_iff_count.2 fun x => by simp only [List.append_eq, List.count_append, List.count_cons, List.count_nil]; omega)) ?_
   rintro _ _ rfl
   conv=>whnf
   refine ArithG.i64' ((i + 1 : Nat) : Int) (by omega) (by omega) ?_
   conv=>whnf
   exact ⟨xs.length - (i + 1), [(1, .slice xa xs.length xc), (4, .bool false), (7, .pointer (some ⟨s, 0, none⟩)), (9, .pointer (some ⟨sh, 0, none⟩)), (10, .int .i64 ((i + 1 : Nat) : Int))], _, by omega, ⟨rfl, rfl, rfl, rfl, rfl, trivial⟩, ((Ent.front 1 rfl).trans (Ent.cons _ (Ent.cons _ (Ent.drop _)))), i + 1, U, n, a + 1, m + 1, by omega, rfl, by omega, by omega, by omega, by omega, hU, rfl, rfl⟩
  conv=>whnf
  refine CondG.dec (fun h3 => ?_) (fun h3 => ?_)
  ·conv=>whnf
   refine LoadG.at (v := x.v) (.here rfl) ?_
   conv=>whnf
   refine CallG.pure (lent_spec _ x.v x.bs (.right hfit.rd _) hxb) ?_
   rintro r _ ⟨hr, rfl⟩
   obtain ⟨ra, rc, rfl⟩ := hr.len
   obtain ⟨O, hO⟩ : ∃ O, O = own 1 (.slice ra (x.bs.length + 40) rc) (x.bs.length + 40) (bvs (lentB x.bs)) := ⟨_, rfl⟩
   have hcap : x.bs.length + 40 ≤ rc := by
    rcases hr with ⟨h5, h6⟩ | ⟨g, cap, h5, h6⟩
    ·omega
    ·cases h5; exact h6
   have hro : ∀ A, RdS (O :: A) (.slice ra (x.bs.length + 40) rc) (x.bs.length + 40) (bvs (lentB x.bs)) := fun A => by rw [hO]; exact own_rd hr (by rw [bvs_len, lentB_len, Nat.mul_one])
   have hcut : ∀ A, RdS (O :: A) (.slice ra x.bs.length rc) x.bs.length (bvs x.bs) := fun A => by
    have h4 := RdS.take (hro A) (k := x.bs.length) (by omega) (by rw [bvs_len, lentB_len])
    have e : (bvs (lentB x.bs)).take x.bs.length = bvs x.bs := by rw [bvs, ← List.map_take, lentB, List.take_left' rfl]; rfl
    rw [e] at h4
    exact h4
   rw [← hO]
   conv=>whnf
   refine DrawG.mk 9 (O :: cel b 58 x.cells :: shX sh m :: M) [stK 95 s src find U n a] (Ent.perm (by classical exact List.perm_iff_count.2 fun x => by simp only [List.append_eq, List.count_append, List.count_cons, List.count_nil]; omega)) ?_
   conv=>whnf
   refine .take 0 ?_
   conv=>whnf
   refine ⟨rfl, ?_⟩
   conv=>whnf
   refine .take 1 ?_
   conv=>whnf
   refine ⟨rfl, ?_⟩
   conv=>whnf
   refine .take 2 ?_
   conv=>whnf
   refine ⟨rfl, ?_⟩
   conv=>whnf
   refine LoadG.at (v := .string x.key) (.tl (.here rfl)) ?_
   conv=>whnf
   refine .take 3 ?_
   conv=>whnf
   refine ⟨rfl, ?_⟩
   conv=>whnf
   refine .take 4 ?_
   conv=>whnf
   refine ⟨rfl, ?_⟩
   conv=>whnf
   refine .take 5 ?_
   conv=>whnf
   refine ⟨rfl, ?_⟩
   conv=>whnf
   refine LoadG.at (v := x.v) (.tl (.here rfl)) ?_
   conv=>whnf
   refine .take 6 ?_
   conv=>whnf
   refine ⟨rfl, ?_⟩
   conv=>whnf
   refine LenG.rd hfit.rd ?_
   conv=>whnf
   refine .take 7 ?_
   conv=>whnf
   refine ⟨rfl, ?_⟩
   conv=>whnf
   refine SlcG.lit ?_
   conv=>whnf
   refine SideG.of (by omega) ?_
   conv=>whnf
   refine SliceG.zero ?_
   conv=>whnf
   refine .all ?_
   conv=>whnf
   refine ⟨by decide, ?_⟩
   conv=>whnf
   refine CallG.of (pre := [stK 95 s src find U n a]) (rest := []) (put_e _ s src U n a x.key (.slice ra x.bs.length rc) x.bs ((hsM F).left [_, _, _]) ho (.left (hcut _) F) (by omega)) (by rw [List.append_nil]; exact Ent.refl _) ?_
   rintro _ _ ⟨rfl, rfl⟩
   have hU2 : OkV (putV U x.key x.bs) := by
    unfold putV
    split
    ·rename_i hm; exact hU.upd hm hfit.byte
    ·exact hU
   have hh2 : (putV U x.key x.bs).hist.length ≤ i := by rw [putV_hist]; exact hh
   conv=>whnf
   refine ⟨rfl, ?_⟩
   conv=>whnf
   refine LoadG.at (v := x.v) (.tl (.tl (.here rfl))) ?_
   conv=>whnf
   refine CallG.pure (kept_spec _ (.slice ra (x.bs.length + 40) rc) x.v x.bs (.left (.tl (hro _)) F) (.right hfit.rd _) hxb) ?_
   rintro _ _ ⟨rfl, rfl⟩
   (conv=>whnf);refine .nff ?_;(conv=>whnf)
   obtain ⟨l2, hl2⟩ : ∃ l2, l2 = (lentB x.bs).map Int.ofNat := ⟨_, rfl⟩
   have hl3 : l2.length = x.bs.length + 40 := by rw [hl2, List.length_map, lentB_len]
   have eO : O = own 1 (.slice ra (x.bs.length + 40) rc) l2.length (ivs l2) := by rw [hO, hl3, bvs_ivs, hl2]
   refine CallG.of (pre := [own 1 (.slice ra (x.bs.length + 40) rc) l2.length (ivs l2)]) (rest := stK 95 s src find (putV U x.key x.bs) (n + 1) (a + 1) :: cel b 58 x.cells :: shX sh m :: M) (spoil_spec _ _ l2 (by omega)) (by rw [← eO]; exact Ent.perm (by classical exact List.perm_iff_count.2 fun x => by simp only [List.append_eq, List.count_append, List.count_cons, List.count_nil]; omega)) ?_
   rintro _ _ ⟨m2, hm2, rfl⟩
   conv=>whnf
   refine ArithG.i64' ((i + 1 : Nat) : Int) (by omega) (by omega) ?_
   conv=>whnf
   exact ⟨xs.length - (i + 1), [(1, .slice xa xs.length xc), (4, .bool false), (7, .pointer (some ⟨s, 0, none⟩)), (9, .pointer (some ⟨sh, 0, none⟩)), (10, .int .i64 ((i + 1 : Nat) : Int))], _, by omega, ⟨rfl, rfl, rfl, rfl, rfl, trivial⟩, (Ent.drop _).trans (Ent.cons _ (Ent.drop _)), i + 1, putV U x.key x.bs, n + 1, a + 1, m, by omega, rfl, by omega, by omega, by omega, by omega, hU2, rfl, rfl⟩
  conv=>whnf
  refine CondG.dec (fun h4 => ?_) (fun h4 => ?_)
  ·conv=>whnf
   refine CallG.of (pre := [stK 95 s src find U n a]) (rest := cel b 58 x.cells :: shX sh m :: M) (mark_k _ s src U n a (by omega) (by omega)) (Ent.perm (List.Perm.swap _ _ _)) ?_
   rintro _ _ ⟨rfl, rfl⟩
   have hh2 : (U.hist ++ [U.now]).length ≤ i + 1 := by rw [List.length_append]; exact Nat.succ_le_succ hh
   conv=>whnf
   refine ArithG.i64' ((i + 1 : Nat) : Int) (by omega) (by omega) ?_
   conv=>whnf
   exact ⟨xs.length - (i + 1), [(1, .slice xa xs.length xc), (4, .bool false), (7, .pointer (some ⟨s, 0, none⟩)), (9, .pointer (some ⟨sh, 0, none⟩)), (10, .int .i64 ((i + 1 : Nat) : Int))], _, by omega, ⟨rfl, rfl, rfl, rfl, rfl, trivial⟩, (Ent.cons _ (Ent.drop _)), i + 1, ⟨U.now, U.hist ++ [U.now]⟩, n, a, m, by omega, rfl, hh2, by omega, by omega, by omega, hU.mark, rfl, rfl⟩
  conv=>whnf
  refine CondG.dec (fun h5 => ?_) (fun h5 => ?_)
  ·conv=>whnf
   refine LoadG.at (v := .int .i64 x.mark) (.here rfl) ?_
   conv=>whnf
   refine CallG.of (pre := [stK 95 s src find U n a]) (rest := cel b 58 x.cells :: shX sh m :: M) (back_k _ s src U n a (by omega) (by omega) x.mark hfit.lo hfit.hi) (Ent.perm (List.Perm.swap _ _ _)) ?_
   rintro _ _ ⟨rfl, rfl⟩
   have hh2 : (backV U x.mark).hist.length ≤ i := Nat.le_trans (backV_len U x.mark) hh
   conv=>whnf
   refine ArithG.i64' ((i + 1 : Nat) : Int) (by omega) (by omega) ?_
   conv=>whnf
   exact ⟨xs.length - (i + 1), [(1, .slice xa xs.length xc), (4, .bool false), (7, .pointer (some ⟨s, 0, none⟩)), (9, .pointer (some ⟨sh, 0, none⟩)), (10, .int .i64 ((i + 1 : Nat) : Int))], _, by omega, ⟨rfl, rfl, rfl, rfl, rfl, trivial⟩, (Ent.cons _ (Ent.drop _)), i + 1, backV U x.mark, n, a, m, by omega, rfl, by omega, by omega, by omega, by omega, hU.back _, rfl, rfl⟩
  conv=>whnf
  refine ArithG.i64' ((i + 1 : Nat) : Int) (by omega) (by omega) ?_
  conv=>whnf
  exact ⟨xs.length - (i + 1), [(1, .slice xa xs.length xc), (4, .bool false), (7, .pointer (some ⟨s, 0, none⟩)), (9, .pointer (some ⟨sh, 0, none⟩)), (10, .int .i64 ((i + 1 : Nat) : Int))], _, by omega, ⟨rfl, rfl, rfl, rfl, rfl, trivial⟩, Ent.drop _, i + 1, U, n, a, m, by omega, rfl, by omega, by omega, by omega, by omega, hU, rfl, rfl⟩
 obtain rfl : i = xs.length := by omega
 clear h1 hi
 conv=>whnf
 have hls : ∀ {l : List ChD}, ChIs find U l → ∀ d ∈ l, d.old.length ≤ 4096 ∧ d.new.length ≤ 4096 := fun {l} h d hd => by
  obtain ⟨h6, h7⟩ := h.vals d hd
  rw [h6, h7, hf]
  exact ⟨(hg.ok d.key).2.1, (hU.now d.key).2.1⟩
 refine CallG.of (pre := [stK 95 s src find U n a]) (rest := shX sh m :: M) (changes_q0 _ s src U n a (by omega)) (Ent.refl _) ?_
 rintro av _ ⟨la, T, hca, hA, hal, hTl, rfl⟩
 obtain ⟨aa, ac, rfl⟩ := hA.1.len
 conv=>whnf
 obtain ⟨Z, hZ⟩ : ∃ Z, Z = stQ s src find U n a T :: shX sh m :: M := ⟨_, rfl⟩
 refine LoopG.mk (fun mm e L => ∃ (i : Nat) (lf : List ChD) (fv : Value), i ≤ la.length ∧ mm = la.length - i ∧ lf.length = i ∧ LsV fv lf ∧ lf.map (fun d => (d.key, d.old, d.new)) = (la.take i).map (fun d => (d.key, d.old, d.new)) ∧
  e = [(4, .bool false), (7, .pointer (some ⟨s, 0, none⟩)), (9, .pointer (some ⟨sh, 0, none⟩)), (16, .slice aa la.length ac), (17, fv), (18, .int .i64 i)] ∧ L = own 3 fv lf.length (lf.flatMap ChD.cells) :: (chS lf ++ (lsP (.slice aa la.length ac) la ++ Z))) la.length
  [(4, .bool false), (7, .pointer (some ⟨s, 0, none⟩)), (9, .pointer (some ⟨sh, 0, none⟩)), (16, .slice aa la.length ac), (17, .slice none 0 0), (18, .int .i64 0)] (own 3 (.slice none 0 0) 0 [] :: (lsP (.slice aa la.length ac) la ++ Z)) ⟨rfl, rfl, rfl, rfl, rfl, rfl, trivial⟩
  (Ent.trans (m := lsP (.slice aa la.length ac) la ++ Z) (by rw [hZ]; exact Ent.perm (by classical exact List.perm_iff_count.2 fun x => by simp only [List.append_eq, List.count_append, List.count_cons, List.count_nil]; omega)) (fun w H hs => Sat.own_nil hs))
  ⟨0, [], .slice none 0 0, by omega, rfl, rfl, ⟨.inl ⟨rfl, rfl⟩, fun d hd => absurd hd List.not_mem_nil⟩, rfl, rfl, rfl⟩ ?_
 rintro mm e L ⟨i, lf, fv, hi, rfl, hfl, hfv, hfm, rfl, rfl⟩
 conv=>whnf
 refine LenG.lit ?_
 conv=>whnf
 refine CondG.dec (fun h1 => ?_) (fun h1 => ?_)
 ·have hil : i < la.length := by omega
  obtain ⟨d, hd⟩ : ∃ d, la[i]? = some d := ⟨la[i], List.getElem?_eq_getElem hil⟩
  obtain ⟨d0, d1, d2⟩ := chC_at hd
  have hdm := List.mem_of_getElem? hd
  obtain ⟨l1, l2⟩ := hls hca d hdm
  conv=>whnf
  refine DrawG.mk 22 (lsP (.slice aa la.length ac) la ++ Z) (own 3 fv lf.length (lf.flatMap ChD.cells) :: chS lf) (Ent.perm (by classical exact List.perm_iff_count.2 fun x => by simp only [List.append_eq, List.count_append, List.count_cons, List.count_nil]; omega)) ?_
  conv=>whnf
  refine .take 0 ?_
  conv=>whnf
  refine ⟨rfl, ?_⟩
  conv=>whnf
  refine .take 1 ?_
  conv=>whnf
  refine ⟨rfl, ?_⟩
  conv=>whnf
  refine .take 2 ?_
  conv=>whnf
  refine ⟨rfl, ?_⟩
  conv=>whnf
  refine .take 3 ?_
  conv=>whnf
  refine ⟨rfl, ?_⟩
  conv=>whnf
  refine IdxG.rd (L := lsP (.slice aa la.length ac) la ++ Z) (lsP_rd hA Z).1 (by omega) fun cb o hcc => ?_
  conv=>whnf
  refine .take 4 ?_
  conv=>whnf
  refine ⟨rfl, ?_⟩
  conv=>whnf
  refine .take 5 ?_
  conv=>whnf
  refine ⟨rfl, ?_⟩
  conv=>whnf
  refine LoadG.at (v := (.string d.key)) (hcc.one (i := ((i : Nat) : Int).toNat * 3) (by rw [Int.toNat_natCast]; exact d0)) ?_
  clear hcc
  conv=>whnf
  refine .take 6 ?_
  conv=>whnf
  refine ⟨rfl, ?_⟩
  conv=>whnf
  refine .take 7 ?_
  conv=>whnf
  refine ⟨rfl, ?_⟩
  conv=>whnf
  refine .take 8 ?_
  conv=>whnf
  refine ⟨rfl, ?_⟩
  conv=>whnf
  refine IdxG.rd (L := lsP (.slice aa la.length ac) la ++ Z) (lsP_rd hA Z).1 (by omega) fun cb o hcc => ?_
  conv=>whnf
  refine .take 9 ?_
  conv=>whnf
  refine ⟨rfl, ?_⟩
  conv=>whnf
  refine .take 10 ?_
  conv=>whnf
  refine ⟨rfl, ?_⟩
  conv=>whnf
  refine LoadG.at (v := d.ov) (hcc.one (i := ((i : Nat) : Int).toNat * 3 + 1) (by rw [Int.toNat_natCast]; exact d1)) ?_
  clear hcc
  conv=>whnf
  refine .take 12 ?_
  conv=>whnf
  refine ⟨rfl, ?_⟩
  conv=>whnf
  refine .take 13 ?_
  conv=>whnf
  refine ⟨rfl, ?_⟩
  conv=>whnf
  refine .take 14 ?_
  conv=>whnf
  refine ⟨rfl, ?_⟩
  conv=>whnf
  refine IdxG.rd (L := lsP (.slice aa la.length ac) la ++ Z) (lsP_rd hA Z).1 (by omega) fun cb o hcc => ?_
  conv=>whnf
  refine .take 15 ?_
  conv=>whnf
  refine ⟨rfl, ?_⟩
  conv=>whnf
  refine .take 16 ?_
  conv=>whnf
  refine ⟨rfl, ?_⟩
  conv=>whnf
  refine LoadG.at (v := d.nv) (hcc.one (i := ((i : Nat) : Int).toNat * 3 + 2) (by rw [Int.toNat_natCast]; exact d2)) ?_
  clear hcc
  conv=>whnf
  refine .all ?_
  conv=>whnf
  refine ⟨by decide, ?_⟩
  conv=>whnf
  refine CallG.pure (ltwin_spec _ d.ov d.old (.right (.left ((lsP_rd hA Z).2 d hdm).1 F) _) (by omega)) ?_
  rintro ov _ ⟨hov, rfl⟩
  obtain ⟨oa, oc, hoe⟩ := hov.len
  conv=>whnf
  refine .all ?_
  conv=>whnf
  refine ⟨by decide, ?_⟩
  conv=>whnf
  refine CallG.pure (ltwin_spec _ d.nv d.new (.right (.left ((lsP_rd hA Z).2 d hdm).2 F) _) (by omega)) ?_
  rintro nv _ ⟨hnv, rfl⟩
  obtain ⟨na, nc, hne⟩ := hnv.len
  conv=>whnf
  refine .all ?_
  conv=>whnf
  refine ⟨by decide, ?_⟩
  conv=>whnf
  refine BuildG.of (cs := [.string d.key, ov, nv]) (by rw [hoe, hne]; rfl) ?_
  conv=>whnf
  refine .all ?_
  conv=>whnf
  refine ⟨by decide, ?_⟩
  conv=>whnf
  refine BuildG.of (cs := [.string d.key, ov, nv]) (by rw [hoe, hne]; rfl) ?_
  conv=>whnf
  intro b38
  conv=>whnf
  refine .all ?_
  conv=>whnf
  refine ⟨by decide, ?_⟩
  conv=>whnf
  refine DoesG.ent (Ent.front 3 rfl) ?_
  refine app_ownW changesT 63 (m := 1) (ys := [.string d.key, ov, nv]) (.mk _ _ _ _ _ (Nat.le_refl _) (.tl (.left .all _))) rfl (by rw [hoe, hne]; simp [Value.oneCell']) (by simp only [maxLen]; omega) (.wide (by omega)) fun v2 hv2 _ _ => ?_
  conv=>whnf
  refine .all ?_
  conv=>whnf
  refine ⟨by decide, ?_⟩
  conv=>whnf
  refine ⟨rfl, ?_⟩
  conv=>whnf
  refine ArithG.i64' ((i + 1 : Nat) : Int) (by omega) (by omega) ?_
  conv=>whnf
  obtain ⟨q, hq⟩ : ∃ q : ChD, q = ⟨d.key, ov, d.old, nv, d.new⟩ := ⟨_, rfl⟩
  have e1 : own 3 v2 (lf.length + 1) (lf.flatMap ChD.cells ++ [.string d.key, ov, nv]) = own 3 v2 (lf ++ [q]).length ((lf ++ [q]).flatMap ChD.cells) := by simp [hq, ChD.cells]
  have e2 : chS (lf ++ [q]) = chS lf ++ [own 1 ov d.old.length (bvs d.old), own 1 nv d.new.length (bvs d.new)] := by simp [chS, hq]
  rw [e1]
  refine ⟨la.length - (i + 1), [(4, .bool false), (7, .pointer (some ⟨s, 0, none⟩)), (9, .pointer (some ⟨sh, 0, none⟩)), (16, .slice aa la.length ac), (17, v2), (18, .int .i64 ((i + 1 : Nat) : Int))], _, by omega, ⟨rfl, rfl, rfl, rfl, rfl, rfl, trivial⟩, ?_, i + 1, lf ++ [q], v2, by omega, rfl, by rw [List.length_append, hfl]; rfl, ⟨by rw [List.length_append]; exact hv2, fun x hx => ?_⟩, ?_, rfl, rfl⟩
  ·rw [e2]
   exact Ent.trans (m := own 3 v2 (lf ++ [q]).length ((lf ++ [q]).flatMap ChD.cells) :: own 1 nv d.new.length (bvs d.new) :: own 1 ov d.old.length (bvs d.old) :: (chS lf ++ (lsP (.slice aa la.length ac) la ++ Z))) (Ent.cons _ (Ent.drop _)) (Ent.perm (by classical exact List.perm_iff_count.2 fun x => by simp only [List.append_eq, List.count_append, List.count_cons, List.count_nil]; omega))
  ·rcases List.mem_append.1 hx with hx | hx
   ·exact hfv.2 x hx
   ·rw [List.mem_singleton.1 hx, hq]
    exact ⟨hov, hnv⟩
  ·rw [List.map_append, hfm, List.take_add_one, hd, List.map_append, hq]
   rfl
 obtain rfl : i = la.length := by omega
 clear h1 hi
 rw [List.take_of_length_le (Nat.le_refl _)] at hfm
 obtain ⟨fa, fc, rfl⟩ := hfv.1.len
 conv=>whnf
 rw [hZ]
 refine CallG.of (pre := [stQ s src find U n a T]) (rest := lsP (.slice fa lf.length fc) lf ++ (lsP (.slice aa la.length ac) la ++ (shX sh m :: M))) (changes_q _ s src U n a T (by omega)) (Ent.perm (by unfold lsP; exact (by classical exact List.perm_iff_count.2 fun x => by simp only [List.append_eq, List.count_append, List.count_cons, List.count_nil]; omega))) ?_
 rintro bv _ ⟨lb, hcb, hB, hbl, rfl⟩
 obtain ⟨ba, bc, rfl⟩ := hB.1.len
 conv=>whnf
 refine CallG.of (pre := [stQ s src find U n a T]) (rest := lsP (.slice ba lb.length bc) lb ++ (lsP (.slice fa lf.length fc) lf ++ (lsP (.slice aa la.length ac) la ++ (shX sh m :: M)))) (touched_q _ s src U n a T (by omega)) (Ent.perm (by classical exact List.perm_iff_count.2 fun x => by simp only [List.append_eq, List.count_append, List.count_cons, List.count_nil]; omega)) ?_
 rintro uv _ ⟨huv, rfl⟩
 obtain ⟨ua, uc, rfl⟩ := huv.len
 conv=>whnf
 refine LenG.lit ?_
 conv=>whnf
 refine DoesG.makeG stringsU .i64 .i64 (by omega) (by simp only [maxLen]; omega) fun kb zs hz => ?_
 conv=>whnf
 refine DoesG.copyS (o := 0) (cs := keysB T) stringsU.und (by kernel_rfl) (.tl (.left (own_rd huv (keysB_len T)) F)) (by rw [keysB_len, Nat.mul_one]) (Nat.le_refl _) (by omega) (keysB_one T) (cur' := keysB T) (by
  rw [List.take_zero, List.nil_append, List.drop_eq_nil_of_le (by omega), List.append_nil]) ?_
 conv=>whnf
 have hKr : ∀ G, RdS (cel kb 9 (keysB T) :: G) (.slice (some ⟨kb, 0, none⟩) T.length T.length) T.length (keysB T) := fun G => .mk _ _ _ _ _ (Nat.le_refl _) (CelN.left (L := [cel kb 9 (keysB T)]) .all G)
 refine CallG.of (pre := [stQ s src find U n a T]) (rest := cel kb 9 (keysB T) :: own 1 (.slice ua T.length uc) T.length (keysB T) :: (lsP (.slice ba lb.length bc) lb ++ (lsP (.slice fa lf.length fc) lf ++ (lsP (.slice aa la.length ac) la ++ (shX sh m :: M))))) (touched_q _ s src U n a T (by omega)) (Ent.perm (by classical exact List.perm_iff_count.2 fun x => by simp only [List.append_eq, List.count_append, List.count_cons, List.count_nil]; omega)) ?_
 rintro yv _ ⟨hyv, rfl⟩
 obtain ⟨ya, yc, rfl⟩ := hyv.len
 have hab := hca.same hcb
 have habl : la.length = lb.length := by
  have := congrArg List.length hab
  simpa using this
 conv=>whnf
 refine CallG.pure (changes_same _ (.slice aa la.length ac) (.slice fa lf.length fc) la lf (by omega) hfm.symm ?_ ?_ ?_ ?_) ?_
 ·exact ((((((lsP_rd hA _).right _).right _).tl.tl).tl).tl.left F).1
 ·exact (((((lsP_rd hfv _).right _).tl.tl).tl).tl.left F).1
 ·exact ((((((lsP_rd hA _).right _).right _).tl.tl).tl).tl.left F).2
 ·exact (((((lsP_rd hfv _).right _).tl.tl).tl).tl.left F).2
 rintro _ _ ⟨rfl, rfl⟩
 (conv=>whnf);refine .tt ?_;(conv=>whnf);refine .tt ?_;(conv=>whnf);refine .tt ?_;(conv=>whnf)
 refine CallG.pure (changes_same _ (.slice ba lb.length bc) (.slice fa lf.length fc) lb lf (by omega) (hab.symm.trans hfm.symm) ?_ ?_ ?_ ?_) ?_
 ·exact ((((lsP_rd hB _).tl.tl).tl).tl.left F).1
 ·exact (((((lsP_rd hfv _).right _).tl.tl).tl).tl.left F).1
 ·exact ((((lsP_rd hB _).tl.tl).tl).tl.left F).2
 ·exact (((((lsP_rd hfv _).right _).tl.tl).tl).tl.left F).2
 rintro _ _ ⟨rfl, rfl⟩
 (conv=>whnf);refine .tt ?_;(conv=>whnf);refine .tt ?_;(conv=>whnf);refine .tt ?_;(conv=>whnf);refine .tt ?_;(conv=>whnf)
 refine CallG.pure (texts_same _ (.slice ua T.length uc) (.slice (some ⟨kb, 0, none⟩) T.length T.length) T (.left (.tl (.tl (.tl (own_rd huv (keysB_len T))))) F) (.left (.tl (.tl (hKr _))) F) (by omega)) ?_
 rintro _ _ ⟨rfl, rfl⟩
 (conv=>whnf);refine .tt ?_;(conv=>whnf);refine .tt ?_;(conv=>whnf);refine .tt ?_;(conv=>whnf);refine .tt ?_;(conv=>whnf)
 refine CallG.pure (texts_same _ (.slice ya T.length yc) (.slice (some ⟨kb, 0, none⟩) T.length T.length) T (.left (own_rd hyv (keysB_len T)) F) (.left (.tl (.tl (hKr _))) F) (by omega)) ?_
 rintro _ _ ⟨rfl, rfl⟩
 (conv=>whnf);refine .tt ?_;(conv=>whnf)
 obtain ⟨R, hR⟩ : ∃ R, R = own 1 (.slice ya T.length yc) T.length (keysB T) :: own 1 (.slice ua T.length uc) T.length (keysB T) :: stQ s src find U n a T :: cel kb 9 (keysB T) :: (lsP (.slice fa lf.length fc) lf ++ M) := ⟨_, rfl⟩
 obtain ⟨oa, hoa⟩ : ∃ oa, oa = own 3 (.slice aa la.length ac) la.length (la.flatMap ChD.cells) := ⟨_, rfl⟩
 obtain ⟨ob, hob⟩ : ∃ ob, ob = own 3 (.slice ba lb.length bc) lb.length (lb.flatMap ChD.cells) := ⟨_, rfl⟩
 have hoar : ∀ G, RdS (oa :: G) (.slice aa la.length ac) la.length (la.flatMap ChD.cells) := fun G => by rw [hoa]; exact own_rd hA.1 (chC_len la)
 have hobr : ∀ G, RdS (ob :: G) (.slice ba lb.length bc) lb.length (lb.flatMap ChD.cells) := fun G => by rw [hob]; exact own_rd hB.1 (chC_len lb)
 refine LoopG.mk (fun mm e L => ∃ i : Nat, i ≤ la.length ∧ mm = la.length - i ∧
  e = [(4, .bool false), (7, .pointer (some ⟨s, 0, none⟩)), (9, .pointer (some ⟨sh, 0, none⟩)), (16, .slice aa la.length ac), (17, .slice fa lf.length fc), (19, .slice ba lb.length bc), (20, .slice ua T.length uc), (21, .slice (some ⟨kb, 0, none⟩) T.length T.length), (22, .slice ya T.length yc), (23, .bool true), (24, .int .i64 i)] ∧ L = oa :: ob :: (chS (la.drop i) ++ (chS (lb.drop i) ++ (shX sh (m + 4 * i) :: R)))) la.length
  [(4, .bool false), (7, .pointer (some ⟨s, 0, none⟩)), (9, .pointer (some ⟨sh, 0, none⟩)), (16, .slice aa la.length ac), (17, .slice fa lf.length fc), (19, .slice ba lb.length bc), (20, .slice ua T.length uc), (21, .slice (some ⟨kb, 0, none⟩) T.length T.length), (22, .slice ya T.length yc), (23, .bool true), (24, .int .i64 0)] (oa :: ob :: (chS la ++ (chS lb ++ (shX sh m :: R)))) ⟨rfl, rfl, rfl, rfl, rfl, rfl, rfl, rfl, rfl, rfl, rfl, trivial⟩ ?_
  ⟨0, by omega, rfl, rfl, rfl⟩ ?_
 ·rw [hoa, hob, hR]
  refine Ent.perm ?_
  unfold lsP
  exact (by classical exact List.perm_iff_count.2 fun x => by simp only [List.append_eq, List.count_append, List.count_cons, List.count_nil]; omega)
 rintro mm e L ⟨i, hi, rfl, rfl, rfl⟩
 conv=>whnf
 refine LenG.lit ?_
 conv=>whnf
 refine CondG.dec (fun h1 => ?_) (fun h1 => ?_)
 ·have hil : i < la.length := by omega
  have hil2 : i < lb.length := by omega
  obtain ⟨da, hda⟩ : ∃ d, la[i]? = some d := ⟨la[i], List.getElem?_eq_getElem hil⟩
  obtain ⟨db, hdb⟩ : ∃ d, lb[i]? = some d := ⟨lb[i], List.getElem?_eq_getElem hil2⟩
  obtain ⟨-, a1, a2⟩ := chC_at hda
  obtain ⟨-, b1, b2⟩ := chC_at hdb
  have hdam := List.mem_of_getElem? hda
  have hdbm := List.mem_of_getElem? hdb
  obtain ⟨sa1, sa2⟩ := hA.2 da hdam
  obtain ⟨sb1, sb2⟩ := hB.2 db hdbm
  obtain ⟨za1, za2⟩ := hls hca da hdam
  obtain ⟨zb1, zb2⟩ := hls hcb db hdbm
  have da3 : la.drop i = da :: la.drop (i + 1) := by
   obtain ⟨h2, h3⟩ := List.getElem?_eq_some_iff.1 hda
   rw [List.drop_eq_getElem_cons h2, h3]
  have db3 : lb.drop i = db :: lb.drop (i + 1) := by
   obtain ⟨h2, h3⟩ := List.getElem?_eq_some_iff.1 hdb
   rw [List.drop_eq_getElem_cons h2, h3]
  rw [da3, db3, chS_cons, chS_cons]
  obtain ⟨CA, hCA⟩ : ∃ CA, CA = chS (la.drop (i + 1)) := ⟨_, rfl⟩
  obtain ⟨CB, hCB⟩ : ∃ CB, CB = chS (lb.drop (i + 1)) := ⟨_, rfl⟩
  rw [← hCA, ← hCB]
  obtain ⟨na2, hna2⟩ : ∃ p, p = own 1 da.nv da.new.length (bvs da.new) := ⟨_, rfl⟩
  obtain ⟨nb1, hnb1⟩ : ∃ p, p = own 1 db.ov db.old.length (bvs db.old) := ⟨_, rfl⟩
  obtain ⟨nb2, hnb2⟩ : ∃ p, p = own 1 db.nv db.new.length (bvs db.new) := ⟨_, rfl⟩
  rw [← hna2, ← hnb1, ← hnb2]
  (conv=>whnf);refine .tt ?_;(conv=>whnf);refine .tt ?_;(conv=>whnf)
  refine LenG.lit ?_
  (conv=>whnf);refine .tt ?_;(conv=>whnf);refine .tt ?_;(conv=>whnf)
  refine CondG.dec (fun h2 => ?_) (fun h2 => absurd h2 (by omega))
  conv=>whnf
  refine IdxG.rd (L := oa :: ob :: (own 1 da.ov da.old.length (bvs da.old) :: na2 :: (CA ++ (nb1 :: nb2 :: (CB ++ (shX sh (m + 4 * i) :: R)))))) (hoar _) (by omega) fun cb o hcc => ?_
  conv=>whnf
  refine LoadG.at (v := da.ov) (hcc.one (i := ((i : Nat) : Int).toNat * 3 + 1) (by rw [Int.toNat_natCast]; exact a1)) ?_
  clear hcc
  conv=>whnf
  refine CallG.of (pre := [own 1 da.ov da.old.length (bvs da.old), shX sh (m + 4 * i)]) (rest := oa :: ob :: na2 :: nb1 :: nb2 :: (CA ++ (CB ++ R))) (shX_take _ sh _ _ _ _ sa1 (bvs_len _) (by omega) (by omega)) (Ent.perm (by classical exact List.perm_iff_count.2 fun x => by simp only [List.append_eq, List.count_append, List.count_cons, List.count_nil]; omega)) ?_
  rintro _ _ rfl
  conv=>whnf
  rw [hnb2]
  refine IdxG.rd (L := shX sh (m + 4 * i + 1) :: oa :: ob :: na2 :: nb1 :: own 1 db.nv db.new.length (bvs db.new) :: (CA ++ (CB ++ R))) (.tl (.tl (hobr _))) (by omega) fun cb o hcc => ?_
  conv=>whnf
  refine LoadG.at (v := db.nv) (hcc.one (i := ((i : Nat) : Int).toNat * 3 + 2) (by rw [Int.toNat_natCast]; exact b2)) ?_
  clear hcc
  conv=>whnf
  refine CallG.of (pre := [own 1 db.nv db.new.length (bvs db.new), shX sh (m + 4 * i + 1)]) (rest := oa :: ob :: na2 :: nb1 :: (CA ++ (CB ++ R))) (shX_take _ sh _ _ _ _ sb2 (bvs_len _) (by omega) (by omega)) (Ent.perm (by classical exact List.perm_iff_count.2 fun x => by simp only [List.append_eq, List.count_append, List.count_cons, List.count_nil]; omega)) ?_
  rintro _ _ rfl
  conv=>whnf
  rw [hna2]
  refine IdxG.rd (L := shX sh (m + 4 * i + 1 + 1) :: oa :: ob :: own 1 da.nv da.new.length (bvs da.new) :: nb1 :: (CA ++ (CB ++ R))) (.tl (hoar _)) (by omega) fun cb o hcc => ?_
  conv=>whnf
  refine LoadG.at (v := da.nv) (hcc.one (i := ((i : Nat) : Int).toNat * 3 + 2) (by rw [Int.toNat_natCast]; exact a2)) ?_
  clear hcc
  conv=>whnf
  refine CallG.of (pre := [own 1 da.nv da.new.length (bvs da.new), shX sh (m + 4 * i + 1 + 1)]) (rest := oa :: ob :: nb1 :: (CA ++ (CB ++ R))) (shX_take _ sh _ _ _ _ sa2 (bvs_len _) (by omega) (by omega)) (Ent.perm (by classical exact List.perm_iff_count.2 fun x => by simp only [List.append_eq, List.count_append, List.count_cons, List.count_nil]; omega)) ?_
  rintro _ _ rfl
  conv=>whnf
  rw [hnb1]
  refine IdxG.rd (L := shX sh (m + 4 * i + 1 + 1 + 1) :: oa :: ob :: own 1 db.ov db.old.length (bvs db.old) :: (CA ++ (CB ++ R))) (.tl (.tl (hobr _))) (by omega) fun cb o hcc => ?_
  conv=>whnf
  refine LoadG.at (v := db.ov) (hcc.one (i := ((i : Nat) : Int).toNat * 3 + 1) (by rw [Int.toNat_natCast]; exact b1)) ?_
  clear hcc
  conv=>whnf
  refine CallG.of (pre := [own 1 db.ov db.old.length (bvs db.old), shX sh (m + 4 * i + 1 + 1 + 1)]) (rest := oa :: ob :: (CA ++ (CB ++ R))) (shX_take _ sh _ _ _ _ sb1 (bvs_len _) (by omega) (by omega)) (Ent.perm (by classical exact List.perm_iff_count.2 fun x => by simp only [List.append_eq, List.count_append, List.count_cons, List.count_nil]; omega)) ?_
  rintro _ _ rfl
  conv=>whnf
  refine ArithG.i64' ((i + 1 : Nat) : Int) (by omega) (by omega) ?_
  conv=>whnf
  refine ⟨la.length - (i + 1), [(4, .bool false), (7, .pointer (some ⟨s, 0, none⟩)), (9, .pointer (some ⟨sh, 0, none⟩)), (16, .slice aa la.length ac), (17, .slice fa lf.length fc), (19, .slice ba lb.length bc), (20, .slice ua T.length uc), (21, .slice (some ⟨kb, 0, none⟩) T.length T.length), (22, .slice ya T.length yc), (23, .bool true), (24, .int .i64 ((i + 1 : Nat) : Int))], oa :: ob :: (CA ++ (CB ++ (shX sh (m + 4 * i + 1 + 1 + 1 + 1) :: R))), by omega, ⟨rfl, rfl, rfl, rfl, rfl, rfl, rfl, rfl, rfl, rfl, rfl, trivial⟩, Ent.perm (by classical exact List.perm_iff_count.2 fun x => by simp only [List.append_eq, List.count_append, List.count_cons, List.count_nil]; omega), i + 1, by omega, rfl, rfl, ?_⟩
  rw [hCA, hCB, show m + 4 * (i + 1) = m + 4 * i + 1 + 1 + 1 + 1 by omega]
 obtain rfl : i = la.length := by omega
 clear h1 hi
 rw [List.drop_length, show lb.drop la.length = [] from List.drop_eq_nil_of_le (by omega), show chS [] = [] from rfl]
 (conv=>whnf);refine .ff ?_;(conv=>whnf);refine .ff ?_;(conv=>whnf);refine .ff ?_;(conv=>whnf);refine .ff ?_;(conv=>whnf);refine .ff ?_;(conv=>whnf)
 refine CallG.of (pre := [shX sh (m + 4 * la.length)]) (rest := oa :: ob :: R) (shX_owned _ sh _ (by omega)) (Ent.perm (by classical exact List.perm_iff_count.2 fun x => by simp only [List.append_eq, List.count_append, List.count_cons, List.count_nil]; omega)) ?_
 rintro _ _ ⟨rfl, rfl⟩
 conv=>whnf
 rw [hR]
 refine CallG.of (pre := [own 1 (.slice ua T.length uc) T.length (keysB T), own 1 (.slice ya T.length yc) T.length (keysB T)]) (rest := shX sh (m + 4 * la.length) :: oa :: ob :: stQ s src find U n a T :: cel kb 9 (keysB T) :: (lsP (.slice fa lf.length fc) lf ++ M)) (otexts_spec _ _ _ _ _ _ _ (by omega) (by omega)) (Ent.perm (by classical exact List.perm_iff_count.2 fun x => by simp only [List.append_eq, List.count_append, List.count_cons, List.count_nil]; omega)) ?_
 rintro _ _ ⟨rfl, rfl⟩
 conv=>whnf
 obtain ⟨Q, hQ⟩ : ∃ Q, Q = ob :: stQ s src find U n a T :: cel kb 9 (keysB T) :: (lsP (.slice fa lf.length fc) lf ++ M) := ⟨_, rfl⟩
 have hac : la.length ≤ ac ∨ la.length = 0 := by
  rcases hA.1 with ⟨_, h⟩ | ⟨g, cap, h, h2⟩
  ·exact .inr h
  ·cases h; exact .inl h2
 refine LoopG.mk (fun mm e L => ∃ (i : Nat) (cs : List Value), i ≤ la.length ∧ mm = la.length - i ∧ cs.length = la.length * 3 ∧
  e = [(4, .bool false), (7, .pointer (some ⟨s, 0, none⟩)), (16, .slice aa la.length ac), (17, .slice fa lf.length fc), (19, .slice ba lb.length bc), (21, .slice (some ⟨kb, 0, none⟩) T.length T.length), (23, .bool true), (25, .bool true), (26, .bool true), (27, .int .i64 i)] ∧ L = own 3 (.slice aa la.length ac) la.length cs :: Q) la.length
  [(4, .bool false), (7, .pointer (some ⟨s, 0, none⟩)), (16, .slice aa la.length ac), (17, .slice fa lf.length fc), (19, .slice ba lb.length bc), (21, .slice (some ⟨kb, 0, none⟩) T.length T.length), (23, .bool true), (25, .bool true), (26, .bool true), (27, .int .i64 0)] (oa :: Q) ⟨rfl, rfl, rfl, rfl, rfl, rfl, rfl, rfl, rfl, rfl, trivial⟩ (by rw [hQ]; exact Ent.drop _)
  ⟨0, la.flatMap ChD.cells, by omega, rfl, chC_len la, rfl, by rw [hoa]⟩ ?_
 rintro mm e L ⟨i, cs, hi, rfl, hcs, rfl, rfl⟩
 conv=>whnf
 refine LenG.lit ?_
 conv=>whnf
 refine CondG.dec (fun h1 => ?_) (fun h1 => ?_)
 ·have hil : i < la.length := by omega
  obtain ⟨g, cap, hge, hcap2⟩ := slv_some hA.1 (by omega)
  cases hge
  conv=>whnf
  refine BuildG.of (cs := [.string mineB, .slice none 0 0, .slice none 0 0]) rfl ?_
  conv=>whnf
  refine ⟨g, 0, _, _, rfl, by omega, ?_⟩
  conv=>whnf
  refine StoreG.at rfl (Upd.own (by simp only [List.length_cons, List.length_nil]; omega) (by simp [Value.oneCell']) rfl) ?_
  conv=>whnf
  refine ArithG.i64' ((i + 1 : Nat) : Int) (by omega) (by omega) ?_
  conv=>whnf
  exact ⟨la.length - (i + 1), [(4, .bool false), (7, .pointer (some ⟨s, 0, none⟩)), (16, .slice (some ⟨g, 0, none⟩) la.length ac), (17, .slice fa lf.length fc), (19, .slice ba lb.length bc), (21, .slice (some ⟨kb, 0, none⟩) T.length T.length), (23, .bool true), (25, .bool true), (26, .bool true), (27, .int .i64 ((i + 1 : Nat) : Int))], _, by omega, ⟨rfl, rfl, rfl, rfl, rfl, rfl, rfl, rfl, rfl, rfl, trivial⟩, Ent.refl _, i + 1, _, by omega, rfl, by simp only [List.length_append, List.length_take, List.length_drop, List.length_cons, List.length_nil]; omega, rfl, rfl⟩
 obtain rfl : i = la.length := by omega
 clear h1 hi
 conv=>whnf
 refine BuildG.of (cs := [.string mineB, .slice none 0 0, .slice none 0 0]) rfl ?_
 conv=>whnf
 refine BuildG.of (cs := [.string mineB, .slice none 0 0, .slice none 0 0]) rfl ?_
 conv=>whnf
 refine BuildG.of (cs := [.string mineB, .slice none 0 0, .slice none 0 0, .string mineB, .slice none 0 0, .slice none 0 0]) rfl ?_
 conv=>whnf
 intro b53
 conv=>whnf
 refine DoesG.ent (Ent.front 1 rfl) ?_
 refine app_ownW changesT 63 (m := 2) (ys := [.string mineB, .slice none 0 0, .slice none 0 0, .string mineB, .slice none 0 0, .slice none 0 0]) (.mk _ _ _ _ _ (Nat.le_refl _) (.tl (.left .all _))) rfl (by simp [Value.oneCell']) (by simp only [maxLen]; omega) (.wide (by omega)) fun av2 hav2 _ _ => ?_
 conv=>whnf
 rw [hQ]
 refine LoopG.mk (fun mm e L => ∃ i : Nat, i ≤ lb.length ∧ mm = lb.length - i ∧
  e = [(4, .bool false), (7, .pointer (some ⟨s, 0, none⟩)), (16, av2), (17, .slice fa lf.length fc), (19, .slice ba lb.length bc), (21, .slice (some ⟨kb, 0, none⟩) T.length T.length), (23, .bool true), (25, .bool true), (26, .bool true), (28, .int .i64 i)] ∧ L = ob :: stQ s src find U n a T :: cel kb 9 (keysB T) :: (lsP (.slice fa lf.length fc) lf ++ M)) lb.length
  [(4, .bool false), (7, .pointer (some ⟨s, 0, none⟩)), (16, av2), (17, .slice fa lf.length fc), (19, .slice ba lb.length bc), (21, .slice (some ⟨kb, 0, none⟩) T.length T.length), (23, .bool true), (25, .bool true), (26, .bool true), (28, .int .i64 0)] (ob :: stQ s src find U n a T :: cel kb 9 (keysB T) :: (lsP (.slice fa lf.length fc) lf ++ M)) ⟨rfl, rfl, rfl, rfl, rfl, rfl, rfl, rfl, rfl, rfl, trivial⟩ ((Ent.drop _).trans (Ent.drop _))
  ⟨0, by omega, rfl, rfl, rfl⟩ ?_
 rintro mm e L ⟨i, hi, rfl, rfl, rfl⟩
 conv=>whnf
 refine LenG.lit ?_
 conv=>whnf
 have hbf := hab.symm.trans hfm.symm
 have hlbf : lb.length = lf.length := by
  have := congrArg List.length hbf
  simpa using this
 refine CondG.dec (fun h1 => ?_) (fun h1 => ?_)
 ·have hil : i < lb.length := by omega
  obtain ⟨db, hdb⟩ : ∃ d, lb[i]? = some d := ⟨lb[i], List.getElem?_eq_getElem hil⟩
  obtain ⟨df, hdf⟩ : ∃ d, lf[i]? = some d := ⟨lf[i], List.getElem?_eq_getElem (by omega)⟩
  obtain ⟨b0, -, -⟩ := chC_at hdb
  obtain ⟨f0, -, -⟩ := chC_at hdf
  have ek : df.key = db.key := by
   have h := congrArg (fun z => z[i]?) hbf
   simp only [List.getElem?_map, hdb, hdf, Option.map_some, Option.some.injEq, Prod.mk.injEq] at h
   exact h.1.symm
  rw [ek] at f0
  have e1 : (!decide (db.key = db.key)) = false := by simp
  conv=>whnf
  refine DrawG.mk 11 (ob :: stQ s src find U n a T :: cel kb 9 (keysB T) :: (lsP (.slice fa lf.length fc) lf ++ M)) [] (Ent.refl _) ?_
  conv=>whnf
  refine .take 0 ?_
  conv=>whnf
  refine ⟨rfl, ?_⟩
  conv=>whnf
  refine .take 1 ?_
  conv=>whnf
  refine ⟨rfl, ?_⟩
  conv=>whnf
  refine .take 2 ?_
  conv=>whnf
  refine ⟨rfl, ?_⟩
  conv=>whnf
  refine IdxG.rd (L := ob :: stQ s src find U n a T :: cel kb 9 (keysB T) :: (lsP (.slice fa lf.length fc) lf ++ M)) (hobr _) (by omega) fun cb o hcc => ?_
  conv=>whnf
  refine .take 3 ?_
  conv=>whnf
  refine ⟨rfl, ?_⟩
  conv=>whnf
  refine .take 4 ?_
  conv=>whnf
  refine ⟨rfl, ?_⟩
  conv=>whnf
  refine LoadG.at (v := .string db.key) (hcc.one (i := ((i : Nat) : Int).toNat * 3) (by rw [Int.toNat_natCast]; exact b0)) ?_
  clear hcc
  conv=>whnf
  refine .take 5 ?_
  conv=>whnf
  refine ⟨rfl, ?_⟩
  conv=>whnf
  refine .take 6 ?_
  conv=>whnf
  refine ⟨rfl, ?_⟩
  conv=>whnf
  refine .take 7 ?_
  conv=>whnf
  refine ⟨rfl, ?_⟩
  conv=>whnf
  refine IdxG.rd (L := ob :: stQ s src find U n a T :: cel kb 9 (keysB T) :: (lsP (.slice fa lf.length fc) lf ++ M)) (.tl (.tl (.tl (lsP_rd hfv M).1))) (by omega) fun cb o hcc => ?_
  conv=>whnf
  refine .take 8 ?_
  conv=>whnf
  refine ⟨rfl, ?_⟩
  conv=>whnf
  refine .take 9 ?_
  conv=>whnf
  refine ⟨rfl, ?_⟩
  conv=>whnf
  refine LoadG.at (v := .string db.key) (hcc.one (i := ((i : Nat) : Int).toNat * 3) (by rw [Int.toNat_natCast]; exact f0)) ?_
  clear hcc
  conv=>whnf
  refine .take 10 ?_
  conv=>whnf
  refine ⟨rfl, ?_⟩
  conv=>whnf
  rw [e1]
  refine ⟨rfl, ?_⟩
  (conv=>whnf);refine .ff ?_;(conv=>whnf)
  refine ArithG.i64' ((i + 1 : Nat) : Int) (by omega) (by omega) ?_
  conv=>whnf
  exact ⟨lb.length - (i + 1), [(4, .bool false), (7, .pointer (some ⟨s, 0, none⟩)), (16, av2), (17, .slice fa lf.length fc), (19, .slice ba lb.length bc), (21, .slice (some ⟨kb, 0, none⟩) T.length T.length), (23, .bool true), (25, .bool true), (26, .bool true), (28, .int .i64 ((i + 1 : Nat) : Int))], _, by omega, ⟨rfl, rfl, rfl, rfl, rfl, rfl, rfl, rfl, rfl, rfl, trivial⟩, Ent.refl _, i + 1, by omega, rfl, rfl, rfl⟩
 obtain rfl : i = lb.length := by omega
 clear h1 hi
 conv=>whnf
 refine CallG.of (pre := [stQ s src find U n a T]) (rest := ob :: cel kb 9 (keysB T) :: (lsP (.slice fa lf.length fc) lf ++ M)) (changes_q _ s src U n a T (by omega)) (Ent.perm (by classical exact List.perm_iff_count.2 fun x => by simp only [List.append_eq, List.count_append, List.count_cons, List.count_nil]; omega)) ?_
 rintro cv _ ⟨lc, hcc, hC, hcl2, rfl⟩
 conv=>whnf
 refine CallG.of (pre := [stQ s src find U n a T]) (rest := lsP cv lc ++ (ob :: cel kb 9 (keysB T) :: (lsP (.slice fa lf.length fc) lf ++ M))) (touched_q _ s src U n a T (by omega)) (Ent.perm (by classical exact List.perm_iff_count.2 fun x => by simp only [List.append_eq, List.count_append, List.count_cons, List.count_nil]; omega)) ?_
 rintro zv _ ⟨hzv, rfl⟩
 conv=>whnf
 refine CallG.pure (changes_same _ cv (.slice fa lf.length fc) lc lf (by omega) ((hca.same hcc).symm.trans hfm.symm) ?_ ?_ ?_ ?_) ?_
 ·exact (((lsP_rd hC _).tl.tl).left F).1
 ·exact (((((lsP_rd hfv _).tl.tl).right _).tl.tl).left F).1
 ·exact (((lsP_rd hC _).tl.tl).left F).2
 ·exact (((((lsP_rd hfv _).tl.tl).right _).tl.tl).left F).2
 rintro _ _ ⟨rfl, rfl⟩
 (conv=>whnf);refine .tt ?_;(conv=>whnf);refine .tt ?_;(conv=>whnf);refine .tt ?_;(conv=>whnf)
 refine CallG.pure (texts_same _ zv (.slice (some ⟨kb, 0, none⟩) T.length T.length) T (.left (own_rd hzv (keysB_len T)) F) (.left (.tl (.tl (.right (.tl (hKr _)) _))) F) (by omega)) ?_
 rintro _ _ ⟨rfl, rfl⟩
 (conv=>whnf);refine .tt ?_;(conv=>whnf);refine .tt ?_;(conv=>whnf);refine .tt ?_;(conv=>whnf);refine .tt ?_;(conv=>whnf);refine .tt ?_;(conv=>whnf);refine .tt ?_;(conv=>whnf);refine .tt ?_;(conv=>whnf);refine .tt ?_;(conv=>whnf);refine .tt ?_;(conv=>whnf)
 refine LenG.sl hav2 ?_
 (conv=>whnf);refine .tt ?_;(conv=>whnf);refine .tt ?_;(conv=>whnf)
 refine LenG.lit ?_
 (conv=>whnf);refine .tt ?_;(conv=>whnf)
 refine ArithG.i64' ((lf.length + 2 : Nat) : Int) (by omega) (by omega) ?_
 (conv=>whnf);refine .tt ?_;(conv=>whnf);refine .tt ?_;(conv=>whnf)
 exact ret_here (by show Value.bool (decide _) = _; rw [show la.length = lf.length by omega]; simp)
end
end Go.Proofs.YtjkldhalmglkpaaDoor
