import Derived.Test.YtjkldhalmglkpaaDoorUe
import Derived.Test.YtjkldhalmglkpaaDoorUc
import Derived.Test.YtjkldhalmglkpaaDoorSf
namespace Go.Proofs.YtjkldhalmglkpaaDoor
open Go Go.Sl Go.Sort
theorem stpC_all {l : List StepS} {i : Nat} {x : StepS} (h : l[i]? = some x) : ((l.flatMap StepS.cells).drop (i * 4)).take 4 = x.cells := by
 obtain ⟨h1, rfl⟩ := List.getElem?_eq_some_iff.1 h
 exact flat_get (cells := StepS.cells) (sz := 4) (fun _ _ => rfl) h1
structure StepFit (F : List HP) (x : StepS) : Prop where
 rd : RdS F x.v x.bs.length (bvs x.bs)
 byte : ∀ b ∈ x.bs, b < 256
 lo : -9223372036854775808 ≤ x.mark
 hi : x.mark ≤ 9223372036854775807
section
variable {K : List W32} (hk : K.length = 64)
include hk
theorem laid_spec (F : List HP) (hK : CelN F 0 0 (wvs K)) (pv : Value) (ps : List PairD) (hpr : RdS F pv ps.length (pairsC ps)) (hpl : ps.length ≤ 3518437208882) (hpok : ∀ p ∈ ps, RdS F p.v p.bs.length (bvs p.bs) ∧ (∀ b ∈ p.bs, b < 256))
 (xv : Value) (xs : List StepS) (hxr : RdS F xv xs.length (xs.flatMap StepS.cells)) (hxl : xs.length ≤ 2513169434917) (hxok : ∀ x ∈ xs, StepFit F x) :
 SpecF Tryd.prog 6 [pv, xv] F [] (fun r L => r = .bool true) := by
 obtain ⟨xa, xc, rfl⟩ := hxr.len
 refine fun6.spec rfl ?_
 conv=>whnf
 refine CallG.pure (awake_spec hk _ (.right hK _)) ?_
 rintro _ _ ⟨rfl, rfl⟩
 conv=>whnf
 refine CallG.pure (table_g hk _ (.right hK _) _ ps (hpr.right _) (by omega) fun p hp => ⟨(hpok p hp).1.right _, (hpok p hp).2⟩) ?_
 rintro _ _ ⟨t, c, rfl, hg, -, hcl, rfl⟩
 (conv=>whnf);repeat((with_reducible first|refine .ff ?_|refine .nff ?_);conv=>whnf)
 refine CallG.of (rest := []) (told_spec _ t c hg (by omega)) (by simp only [List.append_eq, List.append_nil]; exact Ent.refl _) ?_
 rintro bv _ ⟨bs, hbd, hbl, hbv, hbo, rfl⟩
 conv=>whnf
 refine CallG.pure (over_k _ _ _ (tabFind c.vals)) ?_
 rintro _ _ ⟨s, rfl, rfl⟩
 (conv=>whnf);refine .ff ?_;(conv=>whnf);refine .ff ?_;(conv=>whnf);refine .ff ?_;(conv=>whnf)
 refine CondG.ndec (fun h => absurd rfl h) (fun _ => ?_)
 conv=>whnf
 obtain ⟨src, hsrc⟩ : ∃ src, src = Value.iface 25 (.pointer (some ⟨t, 0, none⟩)) := ⟨_, rfl⟩
 obtain ⟨find, hfind⟩ : ∃ find, find = tabFind c.vals := ⟨_, rfl⟩
 have ho : SrcOk find := by rw [hfind]; exact tab_srcOk hg.wf
 have hf : ∀ k, (find k).1 = c.cont k := fun k => by rw [hfind]; exact tabFind_eq hg k
 have hs : ∀ G, SrcG Tryd.prog (c.pieces 89 124 144 t ++ G) src find := fun G => by
  rw [hsrc, hfind]
  exact tab_srcD G t c hg.wf
 rw [← hsrc, ← hfind]
 obtain ⟨B, hB⟩ : ∃ B, B = own 2 bv bs.length (pairsC bs) :: pdO bs := ⟨_, rfl⟩
 rw [← hB]
 obtain ⟨M, hM⟩ : ∃ M, M = c.pieces 89 124 144 t ++ B := ⟨_, rfl⟩
 have hsM : ∀ G, SrcG Tryd.prog (M ++ G) src find := fun G => by
  rw [hM, List.append_assoc]
  exact hs _
 refine LoopG.mk (fun mm e L => ∃ (i : Nat) (U : View) (n a : Nat), i ≤ xs.length ∧ mm = xs.length - i ∧ U.hist.length ≤ i ∧ n ≤ i ∧ a ≤ i ∧ OkV U ∧
  e = [(1, .slice xa xs.length xc), (4, .bool false), (6, .pointer (some ⟨t, 0, none⟩)), (7, bv), (8, .pointer (some ⟨s, 0, none⟩)), (10, .int .i64 i)] ∧ L = stK 95 s src find U n a :: M) xs.length
  [(1, .slice xa xs.length xc), (4, .bool false), (6, .pointer (some ⟨t, 0, none⟩)), (7, bv), (8, .pointer (some ⟨s, 0, none⟩)), (10, .int .i64 0)] (stK 95 s src find ⟨fun k => (find k).1, []⟩ 0 0 :: M) ⟨rfl, rfl, rfl, rfl, rfl, rfl, trivial⟩ ?_
  ⟨0, ⟨fun k => (find k).1, []⟩, 0, 0, by omega, rfl, Nat.le_refl 0, Nat.le_refl 0, Nat.le_refl 0, .first hf hg.ok, rfl, rfl⟩ ?_
 ·rw [hM]
  simp only [List.append_eq, List.append_nil, List.nil_append, List.cons_append]
  exact Ent.refl _
 rintro mm e L ⟨i, U, n, a, hi, rfl, hh, hn, ha, hU, rfl, rfl⟩
 conv=>whnf
 refine LenG.lit ?_
 conv=>whnf
 refine CondG.dec (fun h1 => ?_) (fun h1 => ?_)
 ·have hil : i < xs.length := by omega
  obtain ⟨x, hx⟩ : ∃ x, xs[i]? = some x := ⟨xs[i], List.getElem?_eq_getElem hil⟩
  have hxm := List.mem_of_getElem? hx
  have hfit := hxok x hxm
  obtain ⟨va, vc, hxv⟩ := hfit.rd.len
  conv=>whnf
  refine IdxG.rd hxr (by omega) fun cb o hcc => ?_
  conv=>whnf
  refine LoadNG.atF (vs := x.cells) rfl (by rw [Int.toNat_natCast]; exact hcc.part (i := i * 4) (stpC_all hx)) ?_
  clear hcc
  conv=>whnf
  intro b
  conv=>whnf
  refine StoreG.at (cs := x.cells) rfl (Upd.whole (by rfl) (by simp [StepS.cells, Value.oneCell', hxv])) ?_
  conv=>whnf
  refine LoadG.at (v := .int .i64 x.kind) (.here rfl) ?_
  conv=>whnf
  refine CondG.dec (fun h2 => ?_) (fun h2 => ?_)
  ·conv=>whnf
   refine LoadG.at (v := .string x.key) (.here rfl) ?_
   conv=>whnf
   refine CallG.of (pre := [stK 95 s src find U n a]) (rest := cel b 58 x.cells :: M) (get_e _ s src U n a x.key ((hsM F).left [_]) ho) (Ent.perm (List.Perm.swap _ _ _)) ?_
   rintro _ _ ⟨y, hy, rfl, rfl⟩
   conv=>whnf
   refine ArithG.i64' ((i + 1 : Nat) : Int) (by omega) (by omega) ?_
   conv=>whnf
   exact ⟨xs.length - (i + 1), [(1, .slice xa xs.length xc), (4, .bool false), (6, .pointer (some ⟨t, 0, none⟩)), (7, bv), (8, .pointer (some ⟨s, 0, none⟩)), (10, .int .i64 ((i + 1 : Nat) : Int))], _, by omega, ⟨rfl, rfl, rfl, rfl, rfl, rfl, trivial⟩, ((Ent.drop _).trans (Ent.trans (Ent.front 1 rfl) (Ent.drop _))).trans (Ent.refl _), i + 1, U, n, a + 1, by omega, rfl, by omega, by omega, by omega, hU, rfl, rfl⟩
  conv=>whnf
  refine CondG.dec (fun h3 => ?_) (fun h3 => ?_)
  ·conv=>whnf
   refine LoadG.at (v := .string x.key) (.here rfl) ?_
   conv=>whnf
   refine LoadG.at (v := x.v) (.here rfl) ?_
   conv=>whnf
   refine CallG.of (pre := [stK 95 s src find U n a]) (rest := cel b 58 x.cells :: M) (put_e _ s src U n a x.key x.v x.bs ((hsM F).left [_]) ho (.right hfit.rd _) (by omega)) (Ent.perm (List.Perm.swap _ _ _)) ?_
   rintro _ _ ⟨rfl, rfl⟩
   have hU2 : OkV (putV U x.key x.bs) := by
    unfold putV
    split
    ·rename_i hm; exact hU.upd hm hfit.byte
    ·exact hU
   have hh2 : (putV U x.key x.bs).hist.length ≤ i := by rw [putV_hist]; exact hh
   conv=>whnf
   refine ArithG.i64' ((i + 1 : Nat) : Int) (by omega) (by omega) ?_
   conv=>whnf
   exact ⟨xs.length - (i + 1), [(1, .slice xa xs.length xc), (4, .bool false), (6, .pointer (some ⟨t, 0, none⟩)), (7, bv), (8, .pointer (some ⟨s, 0, none⟩)), (10, .int .i64 ((i + 1 : Nat) : Int))], _, by omega, ⟨rfl, rfl, rfl, rfl, rfl, rfl, trivial⟩, (Ent.front 1 rfl).trans (Ent.drop _), i + 1, putV U x.key x.bs, n + 1, a + 1, by omega, rfl, by omega, by omega, by omega, hU2, rfl, rfl⟩
  conv=>whnf
  refine CondG.dec (fun h4 => ?_) (fun h4 => ?_)
  ·conv=>whnf
   refine CallG.of (pre := [stK 95 s src find U n a]) (rest := cel b 58 x.cells :: M) (mark_k _ s src U n a (by omega) (by omega)) (Ent.perm (List.Perm.swap _ _ _)) ?_
   rintro _ _ ⟨rfl, rfl⟩
   have hh2 : (U.hist ++ [U.now]).length ≤ i + 1 := by rw [List.length_append]; exact Nat.succ_le_succ hh
   conv=>whnf
   refine ArithG.i64' ((i + 1 : Nat) : Int) (by omega) (by omega) ?_
   conv=>whnf
   exact ⟨xs.length - (i + 1), [(1, .slice xa xs.length xc), (4, .bool false), (6, .pointer (some ⟨t, 0, none⟩)), (7, bv), (8, .pointer (some ⟨s, 0, none⟩)), (10, .int .i64 ((i + 1 : Nat) : Int))], _, by omega, ⟨rfl, rfl, rfl, rfl, rfl, rfl, trivial⟩, (Ent.front 1 rfl).trans (Ent.drop _), i + 1, ⟨U.now, U.hist ++ [U.now]⟩, n, a, by omega, rfl, hh2, by omega, by omega, hU.mark, rfl, rfl⟩
  conv=>whnf
  refine CondG.dec (fun h5 => ?_) (fun h5 => ?_)
  ·conv=>whnf
   refine LoadG.at (v := .int .i64 x.mark) (.here rfl) ?_
   conv=>whnf
   refine CallG.of (pre := [stK 95 s src find U n a]) (rest := cel b 58 x.cells :: M) (back_k _ s src U n a (by omega) (by omega) x.mark hfit.lo hfit.hi) (Ent.perm (List.Perm.swap _ _ _)) ?_
   rintro _ _ ⟨rfl, rfl⟩
   have hh2 : (backV U x.mark).hist.length ≤ i := Nat.le_trans (backV_len U x.mark) hh
   conv=>whnf
   refine ArithG.i64' ((i + 1 : Nat) : Int) (by omega) (by omega) ?_
   conv=>whnf
   exact ⟨xs.length - (i + 1), [(1, .slice xa xs.length xc), (4, .bool false), (6, .pointer (some ⟨t, 0, none⟩)), (7, bv), (8, .pointer (some ⟨s, 0, none⟩)), (10, .int .i64 ((i + 1 : Nat) : Int))], _, by omega, ⟨rfl, rfl, rfl, rfl, rfl, rfl, trivial⟩, (Ent.front 1 rfl).trans (Ent.drop _), i + 1, backV U x.mark, n, a, by omega, rfl, by omega, by omega, by omega, hU.back _, rfl, rfl⟩
  conv=>whnf
  refine ArithG.i64' ((i + 1 : Nat) : Int) (by omega) (by omega) ?_
  conv=>whnf
  exact ⟨xs.length - (i + 1), [(1, .slice xa xs.length xc), (4, .bool false), (6, .pointer (some ⟨t, 0, none⟩)), (7, bv), (8, .pointer (some ⟨s, 0, none⟩)), (10, .int .i64 ((i + 1 : Nat) : Int))], _, by omega, ⟨rfl, rfl, rfl, rfl, rfl, rfl, trivial⟩, Ent.drop _, i + 1, U, n, a, by omega, rfl, by omega, by omega, by omega, hU, rfl, rfl⟩
 obtain rfl : i = xs.length := by omega
 clear h1 hi
 conv=>whnf
 rw [hM]
 refine CallG.of (pre := c.pieces 89 124 144 t) (rest := stK 95 s src find U n a :: B) (tcopy_spec _ t c hg) (Ent.perm (by classical exact List.perm_iff_count.2 fun x => by simp only [List.append_eq, List.count_append, List.count_cons, List.count_nil]; omega)) ?_
 rintro _ _ ⟨t2, c2, rfl, hg2, hv2, rfl⟩
 (conv=>whnf);refine .ff ?_;(conv=>whnf)
 refine CallG.of (pre := [stK 95 s src find U n a]) (rest := c2.pieces 89 124 144 t2 ++ (c.pieces 89 124 144 t ++ B)) (changes_k _ s src U n a (by omega)) (Ent.perm (by classical exact List.perm_iff_count.2 fun x => by simp only [List.append_eq, List.count_append, List.count_cons, List.count_nil]; omega)) ?_
 rintro lv _ ⟨l, hch, hlv, hls, hll, rfl⟩
 conv=>whnf
 have hcl2 : c2.vals.length = c.vals.length := by rw [hv2]
 have hc2 : c2.cont = c.cont := by unfold TabD.cont; rw [hv2]
 obtain ⟨CL, hCL⟩ : ∃ CL, CL = own 3 lv l.length (l.flatMap ChD.cells) :: chS l := ⟨_, rfl⟩
 have hCr : ∀ G, RdS (CL ++ G) lv l.length (l.flatMap ChD.cells) ∧ ∀ d ∈ l, RdS (CL ++ G) d.ov d.old.length (bvs d.old) ∧ RdS (CL ++ G) d.nv d.new.length (bvs d.new) := fun G => by
  rw [hCL]
  exact ⟨own_rd hlv (chC_len l), fun d hd => ⟨.tl (chS_rd hls d hd).1, .tl (chS_rd hls d hd).2⟩⟩
 have hok := changes_ok hch hf hg.ok hU
 rw [← hCL]
 refine CallG.of (pre := c2.pieces 89 124 144 t2) (rest := CL ++ (stK 95 s src find U n a :: (c.pieces 89 124 144 t ++ B))) (apply_spec hk _ (.right hK _) t2 c2 hg2 lv l ((hCr _).1.left F) (by omega)
  (fun d hd => ⟨(hok d hd).1, ((hCr _).2 d hd).2.left F, (hok d hd).2⟩) fun d hd => ((hls d hd).1.len)) (Ent.perm (by classical exact List.perm_iff_count.2 fun x => by simp only [List.append_eq, List.count_append, List.count_cons, List.count_nil]; omega)) ?_
 rintro _ _ ⟨rfl, c3, hg3, hc3, rfl⟩
 have hc3' : c3.cont = U.now := by rw [hc3, hc2]; exact changes_lay hch hf hg.ok hU
 conv=>whnf
 refine CallG.of (pre := c.pieces 89 124 144 t) (rest := B ++ (CL ++ (stK 95 s src find U n a :: c3.pieces 89 124 144 t2))) (told_spec _ t c hg (by omega)) (Ent.perm (by classical exact List.perm_iff_count.2 fun x => by simp only [List.append_eq, List.count_append, List.count_cons, List.count_nil]; omega)) ?_
 rintro av _ ⟨es, had, hal, hav, hao, rfl⟩
 obtain ⟨A, hA⟩ : ∃ A, A = own 2 av es.length (pairsC es) :: pdO es := ⟨_, rfl⟩
 have hAr : ∀ G, RdS (A ++ G) av es.length (pairsC es) ∧ PdRd (A ++ G) es := fun G => by
  rw [hA]
  exact ⟨own_rd hav (pairsC_len es), fun d hd => .tl (pdO_rd hd (hao d hd))⟩
 have hBr : ∀ G, RdS (B ++ G) bv bs.length (pairsC bs) ∧ PdRd (B ++ G) bs := fun G => by
  rw [hB]
  exact ⟨own_rd hbv (pairsC_len bs), fun d hd => .tl (pdO_rd hd (hbo d hd))⟩
 rw [← hA, List.append_assoc]
 conv=>whnf
 refine CondG.ndec (fun h => absurd rfl h) (fun _ => ?_)
 (conv=>whnf);refine .ff ?_;(conv=>whnf);refine .ff ?_;(conv=>whnf)
 refine CallG.pure (pairs_same _ bv av bs es (by omega) (hbd.one had) ?_ ?_ ?_ ?_) ?_
 ·exact (((hBr _).1.right A).right _).left F
 ·exact ((hAr _).1.right _).left F
 ·exact fun d hd => ((((hBr _).2 d hd).right A).right _).left F
 ·exact fun d hd => (((hAr _).2 d hd).right _).left F
 rintro _ _ ⟨rfl, rfl⟩
 (conv=>whnf);repeat((with_reducible first|refine .ff ?_|refine .nff ?_);conv=>whnf)
 refine CallG.of (pre := [stK 95 s src find U n a]) (rest := c.pieces 89 124 144 t ++ (c3.pieces 89 124 144 t2 ++ (A ++ (B ++ CL)))) (touched_k _ s src U n a (by omega)) (Ent.perm (by classical exact List.perm_iff_count.2 fun x => by simp only [List.append_eq, List.count_append, List.count_cons, List.count_nil]; omega)) ?_
 rintro kv _ ⟨ks, hkm, hkl, hkv, rfl⟩
 obtain ⟨ka, kc, rfl⟩ := hkv.len
 obtain ⟨Z, hZ⟩ : ∃ Z, Z = c.pieces 89 124 144 t ++ (c3.pieces 89 124 144 t2 ++ (A ++ (B ++ (CL ++ [own 1 (.slice ka ks.length kc) ks.length (keysB ks)])))) := ⟨_, rfl⟩
 have hsZ : ∀ G, SrcG Tryd.prog (Z ++ G) src find := fun G => by
  rw [hZ, List.append_assoc]
  exact hs _
 have hF3 : ∀ key M, SpecF Tryd.prog 41 [.pointer (some ⟨t2, 0, none⟩), .string key] (M ++ (Z ++ F)) [] (fun v L => ∃ x, SlV x (tabFind c3.vals key).1.length ∧ v = .tuple #[x, .int .i64 (tabFind c3.vals key).2] ∧ L = [own 1 x (tabFind c3.vals key).1.length (bvs (tabFind c3.vals key).1)]) := fun key M => by
  have h := find_at ((A ++ (B ++ (CL ++ [own 1 (.slice ka ks.length kc) ks.length (keysB ks)]))) ++ F) t2 c3 hg3.wf key (M ++ c.pieces 89 124 144 t)
  rw [hZ]
  simpa only [List.append_assoc] using h
 have hF1 : ∀ key M, SpecF Tryd.prog 41 [.pointer (some ⟨t, 0, none⟩), .string key] (M ++ (Z ++ F)) [] (fun v L => ∃ x, SlV x (find key).1.length ∧ v = .tuple #[x, .int .i64 (find key).2] ∧ L = [own 1 x (find key).1.length (bvs (find key).1)]) := fun key M => by
  have h := find_at ((c3.pieces 89 124 144 t2 ++ (A ++ (B ++ (CL ++ [own 1 (.slice ka ks.length kc) ks.length (keysB ks)])))) ++ F) t c hg.wf key M
  rw [hZ, hfind]
  simpa only [List.append_assoc] using h
 have hkr : RdS Z (.slice ka ks.length kc) ks.length (keysB ks) := by
  rw [hZ]
  refine .right (.right (.right (.right (.right (own_rd hkv ?_) _) _) _) _) _
  rw [keysB, List.length_map, Nat.mul_one]
 have hbr : RdS Z bv bs.length (pairsC bs) := by
  rw [hZ]
  exact (((hBr _).1.right A).right _).right _
 have hcr : RdS Z lv l.length (l.flatMap ChD.cells) ∧ ∀ d ∈ l, RdS Z d.ov d.old.length (bvs d.old) ∧ RdS Z d.nv d.new.length (bvs d.new) := by
  rw [hZ]
  exact ⟨((((hCr _).1.right B).right A).right _).right _, fun d hd => ⟨(((((hCr _).2 d hd).1.right B).right A).right _).right _, (((((hCr _).2 d hd).2.right B).right A).right _).right _⟩⟩
 have two : ∀ (vals : List (KV ByteArray)) (k : ByteArray), mayI k 0 = 0 → (tabFind vals k).2 = 0 := fun vals k hk => by
  unfold tabFind
  rw [if_neg (by omega)]
 conv=>whnf
 refine LoopG.mk (fun mm e L => ∃ (i a2 : Nat), i ≤ ks.length ∧ mm = ks.length - i ∧
  e = [(4, .bool false), (6, .pointer (some ⟨t, 0, none⟩)), (7, bv), (8, .pointer (some ⟨s, 0, none⟩)), (12, .pointer (some ⟨t2, 0, none⟩)), (13, lv), (16, .slice ka ks.length kc), (17, .int .i64 i)] ∧ L = stK 95 s src find U n a2 :: Z) ks.length
  [(4, .bool false), (6, .pointer (some ⟨t, 0, none⟩)), (7, bv), (8, .pointer (some ⟨s, 0, none⟩)), (12, .pointer (some ⟨t2, 0, none⟩)), (13, lv), (16, .slice ka ks.length kc), (17, .int .i64 0)] (stK 95 s src find U n a :: Z) ⟨rfl, rfl, rfl, rfl, rfl, rfl, rfl, rfl, trivial⟩ (by rw [hZ]; exact Ent.perm (by classical exact List.perm_iff_count.2 fun x => by simp only [List.append_eq, List.count_append, List.count_cons, List.count_nil]; omega))
  ⟨0, a, by omega, rfl, rfl, rfl⟩ ?_
 rintro mm e L ⟨i, a2, hi, rfl, rfl, rfl⟩
 conv=>whnf
 refine LenG.lit ?_
 conv=>whnf
 refine CondG.dec (fun h1 => ?_) (fun h1 => ?_)
 ·have hil : i < ks.length := by omega
  obtain ⟨k, hkk⟩ : ∃ k, k = ks[i] := ⟨_, rfl⟩
  have hk0 : mayI k 0 = 0 := hkm k (by rw [hkk]; exact List.getElem_mem hil)
  have hkB : (keysB ks)[i]? = some (.string k) := by rw [keysB, List.getElem?_map, List.getElem?_eq_getElem hil, hkk]; rfl
  conv=>whnf
  refine IdxG.rd hkr (by omega) fun cb o hcc => ?_
  conv=>whnf
  refine LoadG.at (v := .string k) (.tl (hcc.one (i := ((i : Nat) : Int).toNat * 1) (by rw [Int.toNat_natCast, Nat.mul_one]; exact hkB))) ?_
  clear hcc
  conv=>whnf
  refine CallG.of (pre := [stK 95 s src find U n a2]) (rest := Z) (get_e _ s src U n a2 k (hsZ F) ho) (Ent.refl _) ?_
  rintro _ _ ⟨x, hx, rfl, rfl⟩
  have hgot : gotV U k = U.now k := by unfold gotV; rw [if_pos hk0]
  rw [hgot] at hx
  rw [hgot, hk0]
  conv=>whnf
  refine IdxG.rd hkr (by omega) fun cb o hcc => ?_
  conv=>whnf
  refine LoadG.at (v := .string k) (.tl (.tl (hcc.one (i := ((i : Nat) : Int).toNat * 1) (by rw [Int.toNat_natCast, Nat.mul_one]; exact hkB)))) ?_
  clear hcc
  conv=>whnf
  refine CallG.pure (hF3 k [own 1 x (U.now k).length (bvs (U.now k)), stK 95 s src find U n (a2 + 1)]) ?_
  rintro _ _ ⟨y, hy, rfl, rfl⟩
  have h3 : (tabFind c3.vals k).1 = U.now k := by rw [tabFind_eq hg3, hc3']
  rw [h3] at hy
  rw [h3, two _ k hk0]
  conv=>whnf
  refine CondG.ndec (fun h => absurd rfl h) (fun _ => ?_)
  (conv=>whnf);refine .ff ?_;(conv=>whnf);refine .ff ?_;(conv=>whnf)
  refine CondG.ndec (fun h => absurd rfl h) (fun _ => ?_)
  (conv=>whnf);refine .ff ?_;(conv=>whnf);refine .ff ?_;(conv=>whnf)
  refine CallG.pure (bytes_same _ x y (U.now k) (U.now k) (.tl (own_rd hx (by rw [bvs_len, Nat.mul_one]))) (own_rd hy (by rw [bvs_len, Nat.mul_one]))) ?_
  rintro _ _ ⟨rfl, rfl⟩
  rw [decide_eq_true (rfl : strB (U.now k) = strB (U.now k))]
  (conv=>whnf);repeat((with_reducible first|refine .ff ?_|refine .nff ?_);conv=>whnf)
  refine ArithG.i64' ((i + 1 : Nat) : Int) (by omega) (by omega) ?_
  conv=>whnf
  exact ⟨ks.length - (i + 1), [(4, .bool false), (6, .pointer (some ⟨t, 0, none⟩)), (7, bv), (8, .pointer (some ⟨s, 0, none⟩)), (12, .pointer (some ⟨t2, 0, none⟩)), (13, lv), (16, .slice ka ks.length kc), (17, .int .i64 (i + 1 : Nat))], _, by omega, ⟨rfl, rfl, rfl, rfl, rfl, rfl, rfl, rfl, trivial⟩, (Ent.drop _).trans (Ent.drop _), i + 1, a2 + 1, by omega, rfl, rfl, rfl⟩
 obtain rfl : i = ks.length := by omega
 clear h1 hi
 conv=>whnf
 obtain ⟨ba, bc, rfl⟩ := hbv.len
 refine LoopG.mk (fun mm e L => ∃ (i a2 : Nat), i ≤ bs.length ∧ mm = bs.length - i ∧
  e = [(4, .bool false), (6, .pointer (some ⟨t, 0, none⟩)), (7, .slice ba bs.length bc), (8, .pointer (some ⟨s, 0, none⟩)), (12, .pointer (some ⟨t2, 0, none⟩)), (13, lv), (22, .int .i64 i)] ∧ L = stK 95 s src find U n a2 :: Z) bs.length
  [(4, .bool false), (6, .pointer (some ⟨t, 0, none⟩)), (7, .slice ba bs.length bc), (8, .pointer (some ⟨s, 0, none⟩)), (12, .pointer (some ⟨t2, 0, none⟩)), (13, lv), (22, .int .i64 0)] _ ⟨rfl, rfl, rfl, rfl, rfl, rfl, rfl, trivial⟩ (Ent.refl _)
  ⟨0, a2, by omega, rfl, rfl, rfl⟩ ?_
 clear a2
 rintro mm e L ⟨i, a2, hi, rfl, rfl, rfl⟩
 conv=>whnf
 refine LenG.lit ?_
 conv=>whnf
 refine CondG.dec (fun h1 => ?_) (fun h1 => ?_)
 ·have hil : i < bs.length := by omega
  obtain ⟨p, hp⟩ : ∃ p, bs[i]? = some p := ⟨bs[i], List.getElem?_eq_getElem hil⟩
  obtain ⟨hp1, hp2⟩ := pairsC_get hp
  obtain ⟨k, hkk⟩ : ∃ k, k = p.key := ⟨_, rfl⟩
  have hk0 : mayI k 0 = 0 := by
   obtain ⟨h2, h3⟩ := hbd.mem p.e (List.mem_map_of_mem (List.mem_of_getElem? hp))
   rw [hkk]
   exact (mayI_le (hg.may (k := p.key) (by rw [show c.cont p.key = p.bs from h2]; exact h3)).1).2
  rw [← hkk] at hp1
  conv=>whnf
  refine IdxG.rd hbr (by omega) fun cb o hcc => ?_
  conv=>whnf
  refine LoadG.at (v := .string k) (.tl (hcc.one (i := ((i : Nat) : Int).toNat * 2) (by rw [Int.toNat_natCast]; exact hp1))) ?_
  clear hcc
  conv=>whnf
  refine CallG.of (pre := [stK 95 s src find U n a2]) (rest := Z) (get_e _ s src U n a2 k (hsZ F) ho) (Ent.refl _) ?_
  rintro _ _ ⟨x, hx, rfl, rfl⟩
  have hgot : gotV U k = U.now k := by unfold gotV; rw [if_pos hk0]
  rw [hgot] at hx
  rw [hgot, hk0]
  conv=>whnf
  refine IdxG.rd hbr (by omega) fun cb o hcc => ?_
  conv=>whnf
  refine LoadG.at (v := .string k) (.tl (.tl (hcc.one (i := ((i : Nat) : Int).toNat * 2) (by rw [Int.toNat_natCast]; exact hp1)))) ?_
  clear hcc
  conv=>whnf
  refine CallG.pure (hF3 k [own 1 x (U.now k).length (bvs (U.now k)), stK 95 s src find U n (a2 + 1)]) ?_
  rintro _ _ ⟨y, hy, rfl, rfl⟩
  have h3 : (tabFind c3.vals k).1 = U.now k := by rw [tabFind_eq hg3, hc3']
  rw [h3] at hy
  rw [h3, two _ k hk0]
  conv=>whnf
  refine CondG.ndec (fun h => absurd rfl h) (fun _ => ?_)
  (conv=>whnf);refine .ff ?_;(conv=>whnf);refine .ff ?_;(conv=>whnf)
  refine CondG.ndec (fun h => absurd rfl h) (fun _ => ?_)
  (conv=>whnf);refine .ff ?_;(conv=>whnf);refine .ff ?_;(conv=>whnf)
  refine CallG.pure (bytes_same _ x y (U.now k) (U.now k) (.tl (own_rd hx (by rw [bvs_len, Nat.mul_one]))) (own_rd hy (by rw [bvs_len, Nat.mul_one]))) ?_
  rintro _ _ ⟨rfl, rfl⟩
  rw [decide_eq_true (rfl : strB (U.now k) = strB (U.now k))]
  (conv=>whnf);repeat((with_reducible first|refine .ff ?_|refine .nff ?_);conv=>whnf)
  refine ArithG.i64' ((i + 1 : Nat) : Int) (by omega) (by omega) ?_
  conv=>whnf
  exact ⟨bs.length - (i + 1), [(4, .bool false), (6, .pointer (some ⟨t, 0, none⟩)), (7, .slice ba bs.length bc), (8, .pointer (some ⟨s, 0, none⟩)), (12, .pointer (some ⟨t2, 0, none⟩)), (13, lv), (22, .int .i64 (i + 1 : Nat))], _, by omega, ⟨rfl, rfl, rfl, rfl, rfl, rfl, rfl, trivial⟩, (Ent.drop _).trans (Ent.drop _), i + 1, a2 + 1, by omega, rfl, rfl, rfl⟩
 obtain rfl : i = bs.length := by omega
 clear h1 hi
 conv=>whnf
 obtain ⟨la, lc, rfl⟩ := hlv.len
 refine LoopG.mk (fun mm e L => ∃ i : Nat, i ≤ l.length ∧ mm = l.length - i ∧
  e = [(4, .bool false), (6, .pointer (some ⟨t, 0, none⟩)), (13, .slice la l.length lc), (27, .int .i64 i)] ∧ L = stK 95 s src find U n a2 :: Z) l.length
  [(4, .bool false), (6, .pointer (some ⟨t, 0, none⟩)), (13, .slice la l.length lc), (27, .int .i64 0)] _ ⟨rfl, rfl, rfl, rfl, trivial⟩ (Ent.refl _)
  ⟨0, by omega, rfl, rfl, rfl⟩ ?_
 rintro mm e L ⟨i, hi, rfl, rfl, rfl⟩
 conv=>whnf
 refine LenG.lit ?_
 conv=>whnf
 refine CondG.dec (fun h1 => ?_) (fun h1 => ?_)
 ·have hil : i < l.length := by omega
  obtain ⟨d, hd⟩ : ∃ d, l[i]? = some d := ⟨l[i], List.getElem?_eq_getElem hil⟩
  have hdm := List.mem_of_getElem? hd
  obtain ⟨d0, d1, d2⟩ := chC_at hd
  obtain ⟨k, hkk⟩ : ∃ k, k = d.key := ⟨_, rfl⟩
  obtain ⟨ho1, ho2⟩ := hch.vals d hdm
  have hne := (hch.mem d.key).1 (List.mem_map.2 ⟨d, hdm, rfl⟩)
  have hk0 : mayI k 0 = 0 := by rw [hkk]; exact (mayI_le (hok d hdm).1).2
  obtain ⟨hrd1, hrd2⟩ := hcr.2 d hdm
  rw [← hkk] at d0 ho1 ho2 hne
  conv=>whnf
  refine IdxG.rd hcr.1 (by omega) fun cb o hcc => ?_
  conv=>whnf
  refine LoadG.at (v := .string k) (.tl (hcc.one (i := ((i : Nat) : Int).toNat * 3) (by rw [Int.toNat_natCast]; exact d0))) ?_
  clear hcc
  conv=>whnf
  refine CallG.pure (hF1 k [stK 95 s src find U n a2]) ?_
  rintro _ _ ⟨x, hx, rfl, rfl⟩
  have hz : (find k).2 = 0 := by rw [hfind]; exact two _ k hk0
  rw [hz]
  have e0 : (!decide ((0 : Int) = 0)) = false := by decide
  have e1 : decide (strB (find k).1 = strB d.old) = true := by rw [ho1]; simp
  have e2 : decide (strB d.old = strB d.new) = false := by rw [ho1, ho2]; simpa using fun h => hne h.symm
  conv=>whnf
  refine DrawG.mk 25 (own 1 x (find k).1.length (bvs (find k).1) :: stK 95 s src find U n a2 :: Z) [] (Ent.refl _) ?_
  conv=>whnf
  refine .take 0 ?_
  conv=>whnf
  refine ⟨rfl, ?_⟩
  conv=>whnf
  refine .take 1 ?_
  conv=>whnf
  refine ⟨rfl, ?_⟩
  conv=>whnf
  rw [e0]
  refine .take 2 ?_
  conv=>whnf
  refine ⟨rfl, ?_⟩
  conv=>whnf
  refine .take 3 ?_
  conv=>whnf
  refine ⟨rfl, ?_⟩
  (conv=>whnf);refine .ff ?_;(conv=>whnf)
  refine .take 4 ?_
  conv=>whnf
  refine ⟨rfl, ?_⟩
  (conv=>whnf);refine .ff ?_;(conv=>whnf)
  refine .take 5 ?_
  conv=>whnf
  refine ⟨rfl, ?_⟩
  (conv=>whnf);refine .ff ?_;(conv=>whnf)
  refine .take 6 ?_
  conv=>whnf
  refine ⟨rfl, ?_⟩
  (conv=>whnf);refine .ff ?_;(conv=>whnf)
  refine IdxG.rd (L := own 1 x (find k).1.length (bvs (find k).1) :: stK 95 s src find U n a2 :: Z) (.tl (.tl hcr.1)) (by omega) fun cb o hcc => ?_
  conv=>whnf
  refine .take 7 ?_
  conv=>whnf
  refine ⟨rfl, ?_⟩
  (conv=>whnf);refine .ff ?_;(conv=>whnf)
  refine .take 8 ?_
  conv=>whnf
  refine ⟨rfl, ?_⟩
  (conv=>whnf);refine .ff ?_;(conv=>whnf)
  refine LoadG.at (v := d.ov) (hcc.one (i := ((i : Nat) : Int).toNat * 3 + 1) (by rw [Int.toNat_natCast]; exact d1)) ?_
  clear hcc
  conv=>whnf
  refine .all ?_
  conv=>whnf
  refine ⟨by decide, ?_⟩
  (conv=>whnf);refine .ff ?_;(conv=>whnf)
  refine CallG.pure (bytes_same _ x d.ov (find k).1 d.old (.right (.left (own_rd hx (by rw [bvs_len, Nat.mul_one])) F) _) (.right (.left (.tl (.tl hrd1)) F) _)) ?_
  rintro _ _ ⟨rfl, rfl⟩
  rw [e1]
  conv=>whnf
  refine .take 10 ?_
  conv=>whnf
  refine ⟨rfl, ?_⟩
  (conv=>whnf);refine .ff ?_;(conv=>whnf)
  refine .take 11 ?_
  conv=>whnf
  refine ⟨rfl, ?_⟩
  (conv=>whnf);refine .ff ?_;(conv=>whnf)
  refine .take 12 ?_
  conv=>whnf
  refine ⟨rfl, ?_⟩
  conv=>whnf
  refine .take 13 ?_
  conv=>whnf
  refine ⟨rfl, ?_⟩
  (conv=>whnf);refine .nff ?_;(conv=>whnf)
  refine .take 14 ?_
  conv=>whnf
  refine ⟨rfl, ?_⟩
  (conv=>whnf);refine .ff ?_;(conv=>whnf)
  refine .take 15 ?_
  conv=>whnf
  refine ⟨rfl, ?_⟩
  (conv=>whnf);refine .ff ?_;(conv=>whnf)
  refine IdxG.rd (L := own 1 x (find k).1.length (bvs (find k).1) :: stK 95 s src find U n a2 :: Z) (.tl (.tl hcr.1)) (by omega) fun cb o hcc => ?_
  conv=>whnf
  refine .take 16 ?_
  conv=>whnf
  refine ⟨rfl, ?_⟩
  (conv=>whnf);refine .ff ?_;(conv=>whnf)
  refine .take 17 ?_
  conv=>whnf
  refine ⟨rfl, ?_⟩
  (conv=>whnf);refine .ff ?_;(conv=>whnf)
  refine LoadG.at (v := d.ov) (hcc.one (i := ((i : Nat) : Int).toNat * 3 + 1) (by rw [Int.toNat_natCast]; exact d1)) ?_
  clear hcc
  conv=>whnf
  refine .take 18 ?_
  conv=>whnf
  refine ⟨rfl, ?_⟩
  (conv=>whnf);refine .ff ?_;(conv=>whnf)
  refine .take 19 ?_
  conv=>whnf
  refine ⟨rfl, ?_⟩
  (conv=>whnf);refine .ff ?_;(conv=>whnf)
  refine .take 20 ?_
  conv=>whnf
  refine ⟨rfl, ?_⟩
  (conv=>whnf);refine .ff ?_;(conv=>whnf)
  refine IdxG.rd (L := own 1 x (find k).1.length (bvs (find k).1) :: stK 95 s src find U n a2 :: Z) (.tl (.tl hcr.1)) (by omega) fun cb o hcc => ?_
  conv=>whnf
  refine .take 21 ?_
  conv=>whnf
  refine ⟨rfl, ?_⟩
  (conv=>whnf);refine .ff ?_;(conv=>whnf)
  refine .take 22 ?_
  conv=>whnf
  refine ⟨rfl, ?_⟩
  (conv=>whnf);refine .ff ?_;(conv=>whnf)
  refine LoadG.at (v := d.nv) (hcc.one (i := ((i : Nat) : Int).toNat * 3 + 2) (by rw [Int.toNat_natCast]; exact d2)) ?_
  clear hcc
  conv=>whnf
  refine .all ?_
  conv=>whnf
  refine ⟨by decide, ?_⟩
  (conv=>whnf);refine .ff ?_;(conv=>whnf)
  refine CallG.pure (bytes_same _ d.ov d.nv d.old d.new (.right (.left (.tl (.tl hrd1)) F) _) (.right (.left (.tl (.tl hrd2)) F) _)) ?_
  rintro _ _ ⟨rfl, rfl⟩
  rw [e2]
  conv=>whnf
  refine .take 24 ?_
  conv=>whnf
  refine ⟨rfl, ?_⟩
  (conv=>whnf);refine .ff ?_;(conv=>whnf)
  refine ⟨rfl, ?_⟩
  (conv=>whnf);refine .ff ?_;(conv=>whnf)
  refine ArithG.i64' ((i + 1 : Nat) : Int) (by omega) (by omega) ?_
  conv=>whnf
  exact ⟨l.length - (i + 1), [(4, .bool false), (6, .pointer (some ⟨t, 0, none⟩)), (13, .slice la l.length lc), (27, .int .i64 (i + 1 : Nat))], _, by omega, ⟨rfl, rfl, rfl, rfl, trivial⟩, Ent.drop _, i + 1, by omega, rfl, rfl, rfl⟩
 ·conv=>whnf
  exact ret_here rfl
end
end Go.Proofs.YtjkldhalmglkpaaDoor
