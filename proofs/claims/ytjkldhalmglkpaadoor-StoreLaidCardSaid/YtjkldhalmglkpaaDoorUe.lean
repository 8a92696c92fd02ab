import Derived.Test.YtjkldhalmglkpaaDoorUc
import Derived.Test.YtjkldhalmglkpaaDoorSo
import Derived.Test.YtjkldhalmglkpaaDoorZMc
import Derived.Test.YtjkldhalmglkpaaDoorZVb
namespace Go.Proofs.YtjkldhalmglkpaaDoor
open Go Go.Sl Go.Sort
theorem NdB.ptr {K : List W32} {Bs : Bls} {t : Trie} {v : Value} (h : NdB K Bs t v) : ∃ p, v = .pointer p := by
 cases h <;> exact ⟨_, rfl⟩
theorem mclone_ext (v : Value) : extSem Tryd.prog 80 #[v] = Extern.MapsClone.clone #[v] := by kernel_rfl
theorem mclone1_spec (F : List HP) (b : Nat) (m : List (ByteArray × Value)) (hm : MapG Value.string (fun _ => True) F b m) : SpecF Tryd.prog 60 [.map (some b)] F [] (fun r L => ∃ b', r = .map (some b') ∧ L = [mapS b' m]) := by
 refine fun60.spec rfl ?_
 conv=>whnf
 refine CondG.ff ?_
 conv=>whnf
 show DoesG _ _ (extSem Tryd.prog 80 #[.iface 84 (.map (some b))]) _ _
 rw [mclone_ext]
 refine DoesG.mclone (hm.right _) fun b' => ?_
 conv=>whnf
 refine DoesG.tass mapT (by simp) ?_
 conv=>whnf
 exact ret_here ⟨b', rfl, rfl⟩
theorem mclone2_spec (F : List HP) (b : Nat) (m : List (List Nat × Value)) (hm : MapG digV digOk F b m) : SpecF Tryd.prog 62 [.map (some b)] F [] (fun r L => ∃ b', r = .map (some b') ∧ L = [mapP digV digOk b' m]) := by
 refine fun62.spec rfl ?_
 conv=>whnf
 refine CondG.ff ?_
 conv=>whnf
 show DoesG _ _ (extSem Tryd.prog 80 #[.iface 87 (.map (some b))]) _ _
 rw [mclone_ext]
 refine DoesG.mclone (hm.right _) fun b' => ?_
 conv=>whnf
 refine DoesG.tass ofT (by simp) ?_
 conv=>whnf
 exact ret_here ⟨b', rfl, rfl⟩
theorem mcopy_spec (F : List HP) (q : Nat) (top : Value) (len : Int) (h0 : Cel F q 0 top) (h1 : Cel F q 1 (.int .i64 len)) (hp : ∃ p, top = .pointer p) : SpecF Tryd.prog 61 [.pointer (some ⟨q, 0, none⟩)] F [] (fun r L => ∃ b, r = .pointer (some ⟨b, 0, none⟩) ∧ L = [cel b 124 [top, .int .i64 len]]) := by
 obtain ⟨p, rfl⟩ := hp
 refine fun61.spec rfl ?_
 conv=>whnf
 refine DrawG.mk 11 [] [] (Ent.refl _) ?_
 conv=>whnf
 refine .take 0 ?_
 conv=>whnf
 refine ⟨rfl, ?_⟩
 conv=>whnf
 refine .take 1 ?_
 conv=>whnf
 refine ⟨rfl, ?_⟩
 conv=>whnf
 refine .take 2 ?_
 conv=>whnf
 refine ⟨rfl, ?_⟩
 conv=>whnf
 refine .take 3 ?_
 conv=>whnf
 refine ⟨rfl, ?_⟩
 conv=>whnf
 refine LoadG.atF h0 ?_
 conv=>whnf
 refine .take 4 ?_
 conv=>whnf
 refine ⟨rfl, ?_⟩
 conv=>whnf
 refine .take 5 ?_
 conv=>whnf
 refine ⟨rfl, ?_⟩
 conv=>whnf
 refine .take 6 ?_
 conv=>whnf
 refine ⟨rfl, ?_⟩
 conv=>whnf
 refine .take 7 ?_
 conv=>whnf
 refine ⟨rfl, ?_⟩
 conv=>whnf
 refine LoadG.atF h1 ?_
 conv=>whnf
 refine .take 8 ?_
 conv=>whnf
 refine ⟨rfl, ?_⟩
 conv=>whnf
 refine BuildG.of (cs := [.pointer p, .int .i64 len]) rfl ?_
 conv=>whnf
 refine .all ?_
 conv=>whnf
 refine ⟨by decide, ?_⟩
 conv=>whnf
 intro b
 conv=>whnf
 refine .take 10 ?_
 conv=>whnf
 refine ⟨rfl, ?_⟩
 conv=>whnf
 refine ⟨rfl, ?_⟩
 conv=>whnf
 exact ret_here ⟨b, rfl, rfl⟩
section
variable {K : List W32}
theorem tcopy_spec (F : List HP) (t : Nat) (c : TabD) (hg : GoodT K c) : SpecF Tryd.prog 39 [.pointer (some ⟨t, 0, none⟩)] F (c.pieces 89 124 144 t) (fun r L => ∃ (t' : Nat) (c' : TabD), r = .pointer (some ⟨t', 0, none⟩) ∧ GoodT K c' ∧ c'.vals = c.vals ∧ L = c'.pieces 89 124 144 t' ++ c.pieces 89 124 144 t) := by
 refine fun39.spec rfl ?_
 conv=>whnf
 refine DrawG.mk 18 (c.pieces 89 124 144 t) [] (Ent.refl _) ?_
 conv=>whnf
 refine .take 0 ?_
 conv=>whnf
 refine ⟨rfl, ?_⟩
 conv=>whnf
 refine .take 1 ?_
 conv=>whnf
 refine ⟨rfl, ?_⟩
 conv=>whnf
 refine .take 2 ?_
 conv=>whnf
 refine ⟨rfl, ?_⟩
 conv=>whnf
 refine .take 3 ?_
 conv=>whnf
 refine ⟨rfl, ?_⟩
 conv=>whnf
 refine LoadG.at (.here rfl) ?_
 conv=>whnf
 refine .take 5 ?_
 conv=>whnf
 refine ⟨rfl, ?_⟩
 conv=>whnf
 refine .take 6 ?_
 conv=>whnf
 refine ⟨rfl, ?_⟩
 conv=>whnf
 refine .take 7 ?_
 conv=>whnf
 refine ⟨rfl, ?_⟩
 conv=>whnf
 refine .take 8 ?_
 conv=>whnf
 refine ⟨rfl, ?_⟩
 conv=>whnf
 refine LoadG.at (.here rfl) ?_
 conv=>whnf
 refine .take 10 ?_
 conv=>whnf
 refine ⟨rfl, ?_⟩
 conv=>whnf
 refine .take 11 ?_
 conv=>whnf
 refine ⟨rfl, ?_⟩
 conv=>whnf
 refine .take 12 ?_
 conv=>whnf
 refine ⟨rfl, ?_⟩
 conv=>whnf
 refine .take 13 ?_
 conv=>whnf
 refine ⟨rfl, ?_⟩
 conv=>whnf
 refine LoadG.at (.here rfl) ?_
 conv=>whnf
 refine .all ?_
 conv=>whnf
 refine ⟨by decide, ?_⟩
 conv=>whnf
 refine CallG.pure (mclone1_spec _ c.vb _ (.right (.left (.tl .here) F) _)) ?_
 rintro _ _ ⟨vb', rfl, rfl⟩
 conv=>whnf
 refine .all ?_
 conv=>whnf
 refine ⟨by decide, ?_⟩
 conv=>whnf
 have htop : ∃ p, c.top = .pointer p := NdB.ptr hg.wf.node
 refine CallG.pure (mcopy_spec _ c.q c.top c.len (.right (.left (.tl (.tl (.tl (.here rfl)))) F) _) (.right (.left (.tl (.tl (.tl (.here rfl)))) F) _) htop) ?_
 rintro _ _ ⟨q', rfl, rfl⟩
 conv=>whnf
 refine .all ?_
 conv=>whnf
 refine ⟨by decide, ?_⟩
 conv=>whnf
 refine CallG.pure (mclone2_spec _ c.ob _ (.right (.left (.tl (.tl .here)) F) _)) ?_
 rintro _ _ ⟨ob', rfl, rfl⟩
 conv=>whnf
 refine .take 15 ?_
 conv=>whnf
 refine ⟨rfl, ?_⟩
 conv=>whnf
 refine BuildG.of (cs := [.map (some vb'), .pointer (some ⟨q', 0, none⟩), .map (some ob')]) rfl ?_
 conv=>whnf
 refine .all ?_
 conv=>whnf
 refine ⟨by decide, ?_⟩
 conv=>whnf
 intro t'
 conv=>whnf
 refine .take 17 ?_
 conv=>whnf
 refine ⟨rfl, ?_⟩
 conv=>whnf
 refine ⟨rfl, ?_⟩
 conv=>whnf
 refine ⟨({ c with vb := vb', q := q', ob := ob' } : TabD).pieces 89 124 144 t' ++ c.pieces 89 124 144 t, ?_, t', { c with vb := vb', q := q', ob := ob' }, rfl, ⟨⟨hg.wf.vals, hg.wf.ofs, hg.wf.back, hg.wf.node, hg.wf.tree, hg.wf.keys⟩, hg.nd, hg.tree, hg.full⟩, rfl, rfl⟩
 have hB : ∀ p ∈ rcs 144 c.Bs ++ shs c.S, Twice p := fun p hp => by
  rcases List.mem_append.1 hp with hp | hp
  ·obtain ⟨x, _, rfl⟩ := List.mem_map.1 hp
   exact rob_twice _ _
  ·obtain ⟨x, _, rfl⟩ := List.mem_map.1 hp
   exact shC_twice _ _
 obtain ⟨B, hBe⟩ : ∃ B, B = rcs 144 c.Bs ++ shs c.S := ⟨_, rfl⟩
 simp only [TabD.pieces]
 rw [← hBe] at hB ⊢
 refine (Ent.perm (l := _) (m := B ++ [cel t' 89 [.map (some vb'), .pointer (some ⟨q', 0, none⟩), .map (some ob')], mapP digV digOk ob' (ofM c.ofs), cel q' 124 [c.top, .int .i64 c.len], mapS vb' (kvM c.vals), cel t 89 [.map (some c.vb), .pointer (some ⟨c.q, 0, none⟩), .map (some c.ob)], mapS c.vb (kvM c.vals), mapP digV digOk c.ob (ofM c.ofs), cel c.q 124 [c.top, .int .i64 c.len]]) ?_).trans ((Ent.dups hB _).trans (Ent.perm ?_))
 ·exact (by classical exact List.perm_iff_count.2 fun x => by simp only [List.append_eq, List.count_append, List.count_cons, List.count_nil]; omega)
 ·exact (by classical exact List.perm_iff_count.2 fun x => by simp only [List.append_eq, List.count_append, List.count_cons, List.count_nil]; omega)
end
end Go.Proofs.YtjkldhalmglkpaaDoor
namespace Go.Proofs.YtjkldhalmglkpaaDoor
open Go Go.Sl Go.Sort
def PdRd (F : List HP) (l : List PairD) : Prop := ∀ d ∈ l, RdS F d.v d.bs.length (bvs d.bs)
theorem pairs_same (F : List HP) (va vb : Value) (l m : List PairD) (hn : l.length ≤ 4611686018427387904) (he : l.map PairD.e = m.map PairD.e) (hA : RdS F va l.length (pairsC l)) (hB : RdS F vb m.length (pairsC m)) (hra : PdRd F l) (hrb : PdRd F m) :
 SpecF Tryd.prog 15 [va, vb] F [] (fun r L => r = .bool true ∧ L = []) := by
 have hl : l.length = m.length := by
  have := congrArg List.length he
  simpa using this
 refine fun15.spec rfl ?_
 conv=>whnf
 refine LenG.rd hA ?_
 conv=>whnf
 refine LenG.rd hB ?_
 conv=>whnf
 refine CondG.ndec (fun h => absurd (by rw [hl]) h) (fun _ => ?_)
 conv=>whnf
 refine LoopG.mk (fun mm e L => ∃ q : Nat, q ≤ l.length ∧ mm = l.length - q ∧ e = [(0, va), (1, vb), (4, .bool false), (5, .int .i64 q)] ∧ L = []) l.length
  [(0, va), (1, vb), (4, .bool false), (5, .int .i64 0)] _ ⟨rfl, rfl, rfl, rfl, trivial⟩ (Ent.refl _) ⟨0, by omega, rfl, rfl, rfl⟩ ?_
 rintro mm e L ⟨q, hq, rfl, rfl, rfl⟩
 conv=>whnf
 refine LenG.rd hA ?_
 conv=>whnf
 refine CondG.dec (fun h1 => ?_) (fun h1 => ?_)
 ·have hql : q < l.length := by omega
  have hqm : q < m.length := by omega
  obtain ⟨d, hd⟩ : ∃ d, l[q]? = some d := ⟨l[q], List.getElem?_eq_getElem hql⟩
  obtain ⟨f, hf⟩ : ∃ f, m[q]? = some f := ⟨m[q], List.getElem?_eq_getElem hqm⟩
  obtain ⟨d0, d1⟩ := pairsC_get hd
  obtain ⟨f0, f1⟩ := pairsC_get hf
  have hdm := List.mem_of_getElem? hd
  have hfm := List.mem_of_getElem? hf
  obtain ⟨ek, eb⟩ : d.key = f.key ∧ d.bs = f.bs := by
   have h := congrArg (fun z => z[q]?) he
   simp only [List.getElem?_map, hd, hf, Option.map_some, Option.some.injEq, PairD.e, Prod.mk.injEq] at h
   exact h
  have e1 : (!decide (d.key = d.key)) = false := by simp
  have e2 : decide (strB d.bs = strB f.bs) = true := by rw [eb]; simp
  conv=>whnf
  refine DrawG.mk 25 [] [] (Ent.refl _) ?_
  conv=>whnf
  refine .take 0 ?_
  conv=>whnf
  refine ⟨rfl, ?_⟩
  conv=>whnf
  refine .take 1 ?_
  conv=>whnf
  refine ⟨rfl, ?_⟩
  conv=>whnf
  refine .take 2 ?_
  conv=>whnf
  refine ⟨rfl, ?_⟩
  conv=>whnf
  refine IdxG.rd hA (by omega) fun cb o hcc => ?_
  conv=>whnf
  refine .take 3 ?_
  conv=>whnf
  refine ⟨rfl, ?_⟩
  conv=>whnf
  refine .take 4 ?_
  conv=>whnf
  refine ⟨rfl, ?_⟩
  conv=>whnf
  refine LoadG.atF (hcc.one (i := q * 2) (u := (.string d.key)) d0) ?_
  clear hcc
  conv=>whnf
  refine .take 5 ?_
  conv=>whnf
  refine ⟨rfl, ?_⟩
  conv=>whnf
  refine .take 6 ?_
  conv=>whnf
  refine ⟨rfl, ?_⟩
  conv=>whnf
  refine .take 7 ?_
  conv=>whnf
  refine ⟨rfl, ?_⟩
  conv=>whnf
  refine IdxG.rd hB (by omega) fun cb o hcc => ?_
  conv=>whnf
  refine .take 8 ?_
  conv=>whnf
  refine ⟨rfl, ?_⟩
  conv=>whnf
  refine .take 9 ?_
  conv=>whnf
  refine ⟨rfl, ?_⟩
  conv=>whnf
  refine LoadG.atF (hcc.one (i := q * 2) (u := (.string f.key)) f0) ?_
  clear hcc
  conv=>whnf
  refine .take 10 ?_
  conv=>whnf
  refine ⟨rfl, ?_⟩
  conv=>whnf
  rw [← ek, e1]
  refine .take 11 ?_
  conv=>whnf
  refine ⟨rfl, ?_⟩
  conv=>whnf
  refine .take 12 ?_
  conv=>whnf
  refine ⟨rfl, ?_⟩
  (conv=>whnf);refine .ff ?_;(conv=>whnf)
  refine .take 13 ?_
  conv=>whnf
  refine ⟨rfl, ?_⟩
  (conv=>whnf);refine .ff ?_;(conv=>whnf)
  refine .take 14 ?_
  conv=>whnf
  refine ⟨rfl, ?_⟩
  (conv=>whnf);refine .ff ?_;(conv=>whnf)
  refine IdxG.rd hA (by omega) fun cb o hcc => ?_
  conv=>whnf
  refine .take 15 ?_
  conv=>whnf
  refine ⟨rfl, ?_⟩
  (conv=>whnf);refine .ff ?_;(conv=>whnf)
  refine .take 16 ?_
  conv=>whnf
  refine ⟨rfl, ?_⟩
  (conv=>whnf);refine .ff ?_;(conv=>whnf)
  refine LoadG.atF (hcc.one (i := q * 2 + 1) (u := d.v) d1) ?_
  clear hcc
  conv=>whnf
  refine .take 17 ?_
  conv=>whnf
  refine ⟨rfl, ?_⟩
  (conv=>whnf);refine .ff ?_;(conv=>whnf)
  refine .take 18 ?_
  conv=>whnf
  refine ⟨rfl, ?_⟩
  (conv=>whnf);refine .ff ?_;(conv=>whnf)
  refine .take 19 ?_
  conv=>whnf
  refine ⟨rfl, ?_⟩
  (conv=>whnf);refine .ff ?_;(conv=>whnf)
  refine IdxG.rd hB (by omega) fun cb o hcc => ?_
  conv=>whnf
  refine .take 20 ?_
  conv=>whnf
  refine ⟨rfl, ?_⟩
  (conv=>whnf);refine .ff ?_;(conv=>whnf)
  refine .take 21 ?_
  conv=>whnf
  refine ⟨rfl, ?_⟩
  (conv=>whnf);refine .ff ?_;(conv=>whnf)
  refine LoadG.atF (hcc.one (i := q * 2 + 1) (u := f.v) f1) ?_
  clear hcc
  conv=>whnf
  refine .all ?_
  conv=>whnf
  refine ⟨by decide, ?_⟩
  (conv=>whnf);refine .ff ?_;(conv=>whnf)
  refine CallG.pure (bytes_same _ d.v f.v d.bs f.bs (hra d hdm) (hrb f hfm)) ?_
  rintro _ _ ⟨rfl, rfl⟩
  rw [e2]
  conv=>whnf
  refine .take 23 ?_
  conv=>whnf
  refine ⟨rfl, ?_⟩
  (conv=>whnf);refine .ff ?_;(conv=>whnf)
  refine .take 24 ?_
  conv=>whnf
  refine ⟨rfl, ?_⟩
  (conv=>whnf);refine .ff ?_;(conv=>whnf)
  refine ⟨rfl, ?_⟩
  (conv=>whnf);refine .nff ?_;(conv=>whnf)
  refine ArithG.i64' ((q + 1 : Nat) : Int) (by omega) (by omega) ?_
  conv=>whnf
  exact ⟨l.length - (q + 1), [(0, va), (1, vb), (4, .bool false), (5, .int .i64 ((q + 1 : Nat) : Int))], _, by omega, ⟨rfl, rfl, rfl, rfl, trivial⟩, Ent.refl _, q + 1, by omega, rfl, rfl, rfl⟩
 ·conv=>whnf
  exact ret_here ⟨rfl, rfl⟩
section
variable {find : ByteArray → List Nat × Int}
theorem touched_k (F : List HP) (s : Nat) (src : Value) (V : View) (n a : Nat) (ha : a ≤ 8796093022207) :
 SpecF Tryd.prog 34 [.pointer (some ⟨s, 0, none⟩)] F [stK 95 s src find V n a] (fun r L => ∃ ks : List ByteArray, (∀ k ∈ ks, mayI k 0 = 0) ∧ ks.length ≤ a ∧ SlV r ks.length ∧ L = [own 1 r ks.length (keysB ks), stK 95 s src find V n a]) := by
 refine SpecF.unpack0 fun c hc => ?_
 refine (touched_c F s src c (Nat.le_trans hc.cnt ha) fun p hp => (hc.src.has p hp).2).turn fun v L h => ?_
 obtain ⟨ss, hv, hp, rfl⟩ := h
 have hl : ((ss.mergeSort leB).map strOfB).length = ss.length := by rw [List.length_map, List.length_mergeSort]
 refine ⟨_, ⟨(ss.mergeSort leB).map strOfB, ?_, ?_, by rw [hl]; exact hv, rfl⟩, ?_⟩
 ·intro k hk
  obtain ⟨x, hx, rfl⟩ := List.mem_map.1 hk
  obtain ⟨p, hpm, e⟩ := List.mem_map.1 (hp.mem_iff.1 ((List.mergeSort_perm ss leB).mem_iff.1 hx))
  have e2 : p.1 = strOfB x := data_inj e
  rw [← e2]
  exact (hc.src.has p hpm).2
 ·rw [hl, hp.length_eq, List.length_map]
  exact hc.cnt
 ·rw [hl]
  have e : keysB ((ss.mergeSort leB).map strOfB) = (ss.mergeSort leB).map encStr := by rw [keysB, List.map_map]; rfl
  rw [e]
  exact Ent.under (Ent.pack0 (ls := fun c => StC.pieces 95 s src c) hc) [_]
end
section
variable {K : List W32} (hk : K.length = 64)
include hk
theorem apply_spec (F : List HP) (hK : CelN F 0 0 (wvs K)) (t : Nat) (c : TabD) (hg : GoodT K c) (lv : Value) (ls : List ChD) (hr : RdS F lv ls.length (ls.flatMap ChD.cells)) (hn : c.vals.length + ls.length ≤ 8796093022206)
 (hok : ∀ d ∈ ls, mayI d.key d.new.length = 0 ∧ RdS F d.nv d.new.length (bvs d.new) ∧ (∀ b ∈ d.new, b < 256)) (hol : ∀ d ∈ ls, ∃ a c, d.ov = .slice a d.old.length c) :
 SpecF Tryd.prog 40 [.pointer (some ⟨t, 0, none⟩), lv] F (c.pieces 89 124 144 t) (fun r L => r = .int .i64 0 ∧ ∃ c' : TabD, GoodT K c' ∧ c'.cont = applyC c.cont ls ∧ L = c'.pieces 89 124 144 t) := by
 obtain ⟨la, lc, rfl⟩ := hr.len
 refine fun40.spec rfl ?_
 conv=>whnf
 refine LenG.lit ?_
 conv=>whnf
 have hcl : (ls.flatMap ChD.cells).length = ls.length * 3 := chC_len ls
 have hcells : ∀ {i : Nat} {d : ChD}, ls[i]? = some d → ((ls.flatMap ChD.cells).drop (i * 3)).take 3 = d.cells := fun {i d} h => by
  obtain ⟨h1, rfl⟩ := List.getElem?_eq_some_iff.1 h
  exact flat_get (cells := ChD.cells) (sz := 3) (fun _ _ => rfl) h1
 refine LoopG.mk (fun mm e L => ∃ i : Nat, i ≤ ls.length ∧ mm = ls.length - i ∧ e = [(0, .pointer (some ⟨t, 0, none⟩)), (1, .slice la ls.length lc), (4, .int .i64 0), (10, .slice la ls.length lc), (11, .int .i64 ls.length), (12, .int .i64 i)] ∧ L = c.pieces 89 124 144 t) ls.length
  [(0, .pointer (some ⟨t, 0, none⟩)), (1, .slice la ls.length lc), (4, .int .i64 0), (10, .slice la ls.length lc), (11, .int .i64 ls.length), (12, .int .i64 0)] _ ⟨rfl, rfl, rfl, rfl, rfl, rfl, trivial⟩ (Ent.refl _) ⟨0, by omega, rfl, rfl, rfl⟩ ?_
 rintro mm e L ⟨i, hi, rfl, rfl, rfl⟩
 conv=>whnf
 refine CondG.dec (fun h1 => ?_) (fun h1 => ?_)
 ·have hil : i < ls.length := by omega
  obtain ⟨d, hd⟩ : ∃ d, ls[i]? = some d := ⟨ls[i], List.getElem?_eq_getElem hil⟩
  have hdm := List.mem_of_getElem? hd
  obtain ⟨hm, hrd, hb⟩ := hok d hdm
  obtain ⟨oa, oc, hov⟩ := hol d hdm
  obtain ⟨na, nc, hnv⟩ := hrd.len
  conv=>whnf
  refine IdxG.rd hr (by omega) fun cb o hcc => ?_
  conv=>whnf
  refine LoadNG.atF (vs := d.cells) rfl (by rw [Int.toNat_natCast]; exact hcc.part (i := i * 3) (hcells hd)) ?_
  clear hcc
  conv=>whnf
  intro b6
  conv=>whnf
  refine StoreG.at (cs := d.cells) rfl (Upd.whole (by rfl) (by simp [ChD.cells, Value.oneCell', hov, hnv])) ?_
  conv=>whnf
  refine LoadG.at (v := .string d.key) (.here rfl) ?_
  conv=>whnf
  refine LoadG.at (v := d.nv) (.here rfl) ?_
  conv=>whnf
  refine CallG.pure (smay_spec_r _ d.key d.nv d.new.length ⟨_, _, hnv⟩) ?_
  rintro _ _ ⟨rfl, rfl⟩
  rw [hm]
  conv=>whnf
  refine CondG.ndec (fun h => absurd rfl h) (fun _ => ?_)
  conv=>whnf
  refine ArithG.i64' ((i + 1 : Nat) : Int) (by omega) (by omega) ?_
  conv=>whnf
  exact ⟨ls.length - (i + 1), [(0, .pointer (some ⟨t, 0, none⟩)), (1, .slice la ls.length lc), (4, .int .i64 0), (10, .slice la ls.length lc), (11, .int .i64 ls.length), (12, .int .i64 (i + 1 : Nat))], _, by omega, ⟨rfl, rfl, rfl, rfl, rfl, rfl, trivial⟩, Ent.drop _, i + 1, by omega, rfl, rfl, rfl⟩
 obtain rfl : i = ls.length := by omega
 clear h1 hi
 conv=>whnf
 refine LenG.lit ?_
 conv=>whnf
 refine LoopG.mk (fun mm e L => ∃ (i : Nat) (c' : TabD), i ≤ ls.length ∧ mm = ls.length - i ∧ GoodT K c' ∧ c'.cont = applyC c.cont (ls.take i) ∧ c'.vals.length ≤ c.vals.length + i ∧ e = [(0, .pointer (some ⟨t, 0, none⟩)), (25, .slice la ls.length lc), (26, .int .i64 ls.length), (27, .int .i64 i)] ∧ L = c'.pieces 89 124 144 t) ls.length
  [(0, .pointer (some ⟨t, 0, none⟩)), (25, .slice la ls.length lc), (26, .int .i64 ls.length), (27, .int .i64 0)] _ ⟨rfl, rfl, rfl, rfl, trivial⟩ (Ent.refl _) ⟨0, c, by omega, rfl, hg, rfl, Nat.le_refl _, rfl, rfl⟩ ?_
 rintro mm e L ⟨i, c', hi, rfl, hg', hcont, hvl, rfl, rfl⟩
 conv=>whnf
 refine CondG.dec (fun h1 => ?_) (fun h1 => ?_)
 ·have hil : i < ls.length := by omega
  obtain ⟨d, hd⟩ : ∃ d, ls[i]? = some d := ⟨ls[i], List.getElem?_eq_getElem hil⟩
  have hdm := List.mem_of_getElem? hd
  obtain ⟨hm, hrd, hb⟩ := hok d hdm
  obtain ⟨oa, oc, hov⟩ := hol d hdm
  obtain ⟨na, nc, hnv⟩ := hrd.len
  have hml := mayI_len hm
  have hks : 0 < d.key.size ∧ d.key.size ≤ 128 := by
   unfold mayI at hm
   split at hm
   ·cases hm
   ·omega
  conv=>whnf
  refine IdxG.rd hr (by omega) fun cb o hcc => ?_
  conv=>whnf
  refine LoadNG.atF (vs := d.cells) rfl (by rw [Int.toNat_natCast]; exact hcc.part (i := i * 3) (hcells hd)) ?_
  clear hcc
  conv=>whnf
  intro b9
  conv=>whnf
  refine StoreG.at (cs := d.cells) rfl (Upd.whole (by rfl) (by simp [ChD.cells, Value.oneCell', hov, hnv])) ?_
  conv=>whnf
  refine LoadG.at (v := .string d.key) (.here rfl) ?_
  conv=>whnf
  refine LoadG.at (v := d.nv) (.here rfl) ?_
  conv=>whnf
  refine CallG.of (pre := c'.pieces 89 124 144 t) (rest := [cel b9 66 d.cells]) (tlay_spec hk _ (.right hK _) t c' _ hg'.wf (by omega) d.key d.nv d.new (.right hrd _) hml hb hks.1 hks.2) (Ent.perm (List.perm_append_singleton _ _).symm) ?_
  rintro _ _ ⟨c2, hc2, rfl⟩
  conv=>whnf
  refine ArithG.i64' ((i + 1 : Nat) : Int) (by omega) (by omega) ?_
  conv=>whnf
  refine ⟨ls.length - (i + 1), [(0, .pointer (some ⟨t, 0, none⟩)), (25, .slice la ls.length lc), (26, .int .i64 ls.length), (27, .int .i64 (i + 1 : Nat))], _, by omega, ⟨rfl, rfl, rfl, rfl, trivial⟩, Ent.dropL _ _, i + 1, c2, by omega, rfl, hg'.lay hc2, ?_, ?_, rfl, rfl⟩
  ·rw [hc2.cont, hcont, applyC_step hd]
  ·have := hc2.len
   split at this <;> omega
 ·obtain rfl : i = ls.length := by omega
  conv=>whnf
  exact ret_here ⟨rfl, c', hg', by rw [hcont, List.take_of_length_le (Nat.le_refl _)], rfl⟩
end
end Go.Proofs.YtjkldhalmglkpaaDoor
