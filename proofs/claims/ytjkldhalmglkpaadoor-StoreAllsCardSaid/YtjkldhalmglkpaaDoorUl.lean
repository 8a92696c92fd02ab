import Derived.Test.YtjkldhalmglkpaaDoorUk
import Derived.Test.YtjkldhalmglkpaaDoorUh
namespace Go.Proofs.YtjkldhalmglkpaaDoor
open Go Go.Sl Go.Sort
theorem putsC_or (k : ByteArray) : ∀ l : List PairD, (∃ bs, ∀ g, putsC g l k = bs) ∨ (∀ g, putsC g l k = g k)
 | [] => .inr fun g => rfl
 | p :: l => by
  have e : ∀ g, putsC g (p :: l) = putsC (putC g p.key p.bs) l := fun g => rfl
  rcases putsC_or k l with ⟨bs, h⟩ | h
  ·exact .inl ⟨bs, fun g => by rw [e]; exact h _⟩
  ·by_cases hm : mayI p.key p.bs.length = 0
   ·by_cases hk : k = p.key
    ·exact .inl ⟨p.bs, fun g => by rw [e, h, putC, if_pos hm, if_pos hk]⟩
    ·exact .inr fun g => by rw [e, h, putC, if_pos hm, if_neg hk]
   ·exact .inr fun g => by rw [e, h, putC, if_neg hm]
theorem putsC_twice (f : ByteArray → List Nat) (l : List PairD) : putsC (putsC f l) l = putsC f l := by
 funext k
 rcases putsC_or k l with ⟨bs, h⟩ | h
 ·rw [h, h]
 ·rw [h]
section
variable {K : List W32}
theorem tab_dup (t : Nat) (c : TabD) (L : List HP) : Ent (c.pieces 89 124 144 t ++ L) (c.pieces 89 124 144 t ++ (shs c.S ++ L)) := by
 have hB : ∀ p ∈ shs c.S, Twice p := fun p hp => by
  obtain ⟨x, _, rfl⟩ := List.mem_map.1 hp
  exact shC_twice _ _
 obtain ⟨B, hBe⟩ : ∃ B, B = shs c.S := ⟨_, rfl⟩
 simp only [TabD.pieces]
 rw [← hBe] at hB ⊢
 refine (Ent.perm (l := _) (m := B ++ (cel t 89 [.map (some c.vb), .pointer (some ⟨c.q, 0, none⟩), .map (some c.ob)] :: mapS c.vb (kvM c.vals) :: mapP digV digOk c.ob (ofM c.ofs) :: cel c.q 124 [c.top, .int .i64 c.len] :: (rcs 144 c.Bs ++ L))) ?_).trans ((Ent.dups hB _).trans (Ent.perm ?_))
 ·exact (by classical exact List.perm_iff_count.2 fun x => by simp only [List.append_eq, List.count_append, List.count_cons, List.count_nil]; omega)
 ·exact (by classical exact List.perm_iff_count.2 fun x => by simp only [List.append_eq, List.count_append, List.count_cons, List.count_nil]; omega)
theorem shs_val {c : TabD} {l : List PairD} (hg : GoodT K c) (hl : PairsOf c l) (G : List HP) : ∀ p ∈ l, RdS (shs c.S ++ G) p.v p.bs.length (bvs p.bs) ∧ p.bs.length ≤ 4096 := fun p hp => by
 obtain ⟨h1, h2, _, _⟩ := hg.wf.vals _ (getK_mem (hl.get p hp))
 have h := ShG.here (S := c.S) (L := G) p.v (bvs p.bs) h1
 rw [bvs_len] at h
 exact ⟨h, h2⟩
variable (hk : K.length = 64)
include hk
theorem alls_spec (F : List HP) (hK : CelN F 0 0 (wvs K)) (pv mv : Value) (ps ms : List PairD) (ea : Int) (he1 : -9223372036854775808 ≤ ea) (he2 : ea ≤ 9223372036854775807) (hpr : RdS F pv ps.length (pairsC ps)) (hmr : RdS F mv ms.length (pairsC ms)) (hpl : ps.length ≤ 3518437208780) (hml : ms.length ≤ 3518437208780)
 (hpok : ∀ p ∈ ps, RdS F p.v p.bs.length (bvs p.bs) ∧ (∀ b ∈ p.bs, b < 256)) (hmok : ∀ p ∈ ms, RdS F p.v p.bs.length (bvs p.bs) ∧ (∀ b ∈ p.bs, b < 256)) :
 SpecF Tryd.prog 3 [pv, mv, .int .i64 ea] F [] (fun r L => r = .bool true) := by
 obtain ⟨ma, mc, rfl⟩ := hmr.len
 refine fun3.spec rfl ?_
 conv=>whnf
 intro b4
 conv=>whnf
 intro b5
 conv=>whnf
 intro b6
 conv=>whnf
 refine CallG.pure (awake_spec hk _ (.right hK _)) ?_
 rintro _ _ ⟨rfl, rfl⟩
 conv=>whnf
 refine CallG.pure (dlaid_spec _ pv ps (hpr.right _) (by omega) fun p hp => (hpok p hp).1.right _) ?_
 rintro lv _ ⟨ld, os, hd, hAd, hldl, rfl⟩
 obtain ⟨la, lc, rfl⟩ := hd.sl.len
 conv=>whnf
 intro b8
 conv=>whnf
 refine StoreG.at rfl (Upd.whole (vs := [.slice la ld.length lc]) rfl (by simp [Value.oneCell'])) ?_
 conv=>whnf
 refine CallG.pure (table_g hk _ (.right hK _) _ ps (hpr.right _) (by omega) fun p hp => ⟨(hpok p hp).1.right _, (hpok p hp).2⟩) ?_
 rintro _ _ ⟨t, c, rfl, hg, hcc, hcl, rfl⟩
 conv=>whnf
 intro b9
 conv=>whnf
 refine StoreG.at rfl (Upd.whole (vs := [.pointer (some ⟨t, 0, none⟩)]) rfl (by simp [Value.oneCell'])) ?_
 (conv=>whnf);refine .nff ?_;(conv=>whnf)
 refine LoadG.at (v := .pointer (some ⟨t, 0, none⟩)) (.here rfl) ?_
 (conv=>whnf);refine .ff ?_;(conv=>whnf);refine .ff ?_;(conv=>whnf);refine .ff ?_;(conv=>whnf)
 refine LoadG.at (v := .pointer (some ⟨t, 0, none⟩)) (.here rfl) ?_
 conv=>whnf
 obtain ⟨Z0, hZ0⟩ : ∃ Z0, Z0 = cel b8 22 [.slice la ld.length lc] :: (docL (.slice la ld.length lc) ld os ++ [cel b5 3 [.int .i64 ea], cel b4 22 [.slice ma ms.length mc]]) := ⟨_, rfl⟩
 refine CallG.of (pre := c.pieces 89 124 144 t) (rest := cel b9 25 [.pointer (some ⟨t, 0, none⟩)] :: cel b6 4 [.bool false] :: Z0) (tall_spec _ t c hg (by omega)) (by rw [hZ0]; exact Ent.perm (by classical exact List.perm_iff_count.2 fun x => by simp only [List.append_eq, List.count_append, List.count_cons, List.count_nil]; omega)) ?_
 rintro _ _ ⟨g, v, al, rfl, hal, hv, rfl⟩
 obtain ⟨va, vc, rfl⟩ := hv.len
 conv=>whnf
 intro b10
 conv=>whnf
 refine StoreG.at rfl (Upd.whole (vs := [.func (.func 46) #[] #[.pointer (some ⟨g, 0, none⟩)]]) rfl (by simp [Value.oneCell'])) ?_
 conv=>whnf
 intro b11
 conv=>whnf
 intro b12
 conv=>whnf
 refine StoreG.at rfl (Upd.whole (vs := [.int .i64 0]) rfl (by simp [Value.oneCell'])) ?_
 conv=>whnf
 refine LoadG.at (v := .func (.func 46) #[] #[.pointer (some ⟨g, 0, none⟩)]) (.tl (.tl (.here rfl))) ?_
 conv=>whnf
 have e1 : al.map PairD.e = ld.map PairD.e := hal.all.one (by rw [hcc]; exact hAd)
 have el : al.length = ld.length := by
  have := congrArg List.length e1
  rwa [List.length_map, List.length_map] at this
 obtain ⟨D, hD⟩ : ∃ D, D = shs c.S := ⟨_, rfl⟩
 have hval : ∀ G, ∀ p ∈ al, RdS (D ++ G) p.v p.bs.length (bvs p.bs) ∧ p.bs.length ≤ 4096 := fun G => by rw [hD]; exact shs_val hg hal G
 obtain ⟨R, hR⟩ : ∃ R, R = cel b10 28 [.func (.func 46) #[] #[.pointer (some ⟨g, 0, none⟩)]] :: cel g 22 [.slice va al.length vc] :: own 2 (.slice va al.length vc) al.length (pairsC al) :: cel b9 25 [.pointer (some ⟨t, 0, none⟩)] :: (Z0 ++ D) := ⟨_, rfl⟩
 have c10 : Cel R b10 0 (.func (.func 46) #[] #[.pointer (some ⟨g, 0, none⟩)]) := by rw [hR]; exact .here rfl
 have cg : Cel R g 0 (.slice va al.length vc) := by rw [hR]; exact .tl (.here rfl)
 have cl : RdS R (.slice va al.length vc) al.length (pairsC al) := by rw [hR]; exact .tl (.tl (own_rd hv (pairsC_len al)))
 have c9 : Cel R b9 0 (.pointer (some ⟨t, 0, none⟩)) := by rw [hR]; exact .tl (.tl (.tl (.here rfl)))
 have c8 : Cel R b8 0 (.slice la ld.length lc) := by rw [hR, hZ0]; exact .tl (.tl (.tl (.tl (.here rfl))))
 have cd : RdS R (.slice la ld.length lc) ld.length (pairsC ld) ∧ PdRd R ld := by
  rw [hR, hZ0]
  have h := docL_rd hd ([cel b5 3 [.int .i64 ea], cel b4 22 [.slice ma ms.length mc]])
  exact ⟨.tl (.tl (.tl (.tl (.tl (.left h.1 D))))), fun d hd => .tl (.tl (.tl (.tl (.tl (.left (h.2 d hd) D)))))⟩
 have c5 : Cel R b5 0 (.int .i64 ea) := by rw [hR, hZ0]; exact .tl (.tl (.tl (.tl (.left (.tl (.right (.here rfl) _)) D))))
 have c4 : Cel R b4 0 (.slice ma ms.length mc) := by rw [hR, hZ0]; exact .tl (.tl (.tl (.tl (.left (.tl (.right (.tl (.here rfl)) _)) D))))
 have cv : ∀ p ∈ al, RdS R p.v p.bs.length (bvs p.bs) ∧ p.bs.length ≤ 4096 := fun p hp => by
  rw [hR]
  have h := hval [] p hp
  rw [List.append_nil] at h
  exact ⟨.tl (.tl (.tl (.tl (.right h.1 Z0)))), h.2⟩
 have r10 : ∀ G G', Cel (G' ++ (R ++ G)) b10 0 (.func (.func 46) #[] #[.pointer (some ⟨g, 0, none⟩)]) := fun G G' => .right (.left c10 G) G'
 have rg : ∀ G G', Cel (G' ++ (R ++ G)) g 0 (.slice va al.length vc) := fun G G' => .right (.left cg G) G'
 have rl : ∀ G G', RdS (G' ++ (R ++ G)) (.slice va al.length vc) al.length (pairsC al) := fun G G' => .right (.left cl G) G'
 have r9 : ∀ G G', Cel (G' ++ (R ++ G)) b9 0 (.pointer (some ⟨t, 0, none⟩)) := fun G G' => .right (.left c9 G) G'
 have r8 : ∀ G G', Cel (G' ++ (R ++ G)) b8 0 (.slice la ld.length lc) := fun G G' => .right (.left c8 G) G'
 have rd : ∀ G G', RdS (G' ++ (R ++ G)) (.slice la ld.length lc) ld.length (pairsC ld) ∧ PdRd (G' ++ (R ++ G)) ld := fun G G' => ⟨.right (.left cd.1 G) G', fun d hd => .right (.left (cd.2 d hd) G) G'⟩
 have r5 : ∀ G G', Cel (G' ++ (R ++ G)) b5 0 (.int .i64 ea) := fun G G' => .right (.left c5 G) G'
 have r4 : ∀ G G', Cel (G' ++ (R ++ G)) b4 0 (.slice ma ms.length mc) := fun G G' => .right (.left c4 G) G'
 have rm : ∀ G', RdS (G' ++ (R ++ F)) (.slice ma ms.length mc) ms.length (pairsC ms) := fun G' => .right (.right hmr R) G'
 have rv : ∀ G G', ∀ p ∈ al, RdS (G' ++ (R ++ G)) p.v p.bs.length (bvs p.bs) ∧ p.bs.length ≤ 4096 := fun G G' p hp => ⟨.right (.left (cv p hp).1 G) G', (cv p hp).2⟩
 have hk2 : ∀ (n : Nat) (q : PairD), al[n]? = some q → ∃ f : PairD, ld[n]? = some f ∧ f.key = q.key ∧ f.bs = q.bs := fun n q h => by
  have hnl := (List.getElem?_eq_some_iff.1 h).1
  refine ⟨ld[n], List.getElem?_eq_getElem (by omega), ?_⟩
  have h2 := congrArg (fun z => z[n]?) e1
  simp only [List.getElem?_map, h, List.getElem?_eq_getElem (show n < ld.length by omega), Option.map_some, Option.some.injEq, PairD.e, Prod.mk.injEq] at h2
  exact ⟨h2.1.symm, h2.2.symm⟩
 obtain ⟨m3, hm3⟩ : ∃ m3, m3 = ms.take 3 := ⟨_, rfl⟩
 have hm3l : m3.length = min ms.length 3 := by rw [hm3, List.length_take, Nat.min_comm]
 refine ⟨by kernel_rfl, RangeG.mk al.length (rdAllD al) [] (fun i L => ∃ (v1 : Value) (us : List PairD) (c' : TabD), us.length = i ∧ us.map PairD.e = (al.take i).map PairD.e ∧ SlV v1 i ∧ (∀ p ∈ us, SlV p.v p.bs.length) ∧ GoodT K c' ∧
  c'.cont = (if i = 0 then c.cont else putsC c.cont m3) ∧ c'.vals.length ≤ c.vals.length + 3 ∧ L = cel b11 22 [v1] :: cel b12 3 [.int .i64 i] :: own 2 v1 i (pairsC us) :: cel b6 4 [.bool false] :: (pdO us ++ c'.pieces 89 124 144 t))
  (fun _ _ => False) (cel b11 22 [.slice none 0 0] :: cel b12 3 [.int .i64 0] :: own 2 (.slice none 0 0) 0 [] :: cel b6 4 [.bool false] :: c.pieces 89 124 144 t) R
  (fun G => all_seq2 _ g (.slice va al.length vc) al hv (by rw [hal.len]; omega) (rg F G) (rl F G) (rv F G)) (fun i vs A h => by obtain ⟨_, _, _, _, rfl, _⟩ := h; rfl) ?_
  ⟨.slice none 0 0, [], c, rfl, rfl, .inl ⟨rfl, rfl⟩, fun p h => absurd h List.not_mem_nil, hg, rfl, Nat.le_add_right _ _, rfl⟩ ?_ ?_ (fun _ _ _ h => h.elim) (fun _ _ h => h.elim)⟩
 ·rw [hR, hD]
  obtain ⟨Y, hY⟩ : ∃ Y, Y = cel b6 4 [.bool false] :: cel b11 22 [.slice none 0 0] :: cel b12 3 [.int .i64 0] :: cel b10 28 [.func (.func 46) #[] #[.pointer (some ⟨g, 0, none⟩)]] :: cel g 22 [.slice va al.length vc] :: own 2 (.slice va al.length vc) al.length (pairsC al) :: cel b9 25 [.pointer (some ⟨t, 0, none⟩)] :: Z0 := ⟨_, rfl⟩
  refine Ent.trans (Ent.trans (m := c.pieces 89 124 144 t ++ Y) (by rw [hY]; exact Ent.perm (by classical exact List.perm_iff_count.2 fun x => by simp only [List.append_eq, List.count_append, List.count_cons, List.count_nil]; omega)) (tab_dup t c Y)) ?_
  refine Ent.trans (m := own 2 (.slice none 0 0) 0 [] :: (c.pieces 89 124 144 t ++ (shs c.S ++ Y))) (fun w H hs => Sat.own_nil hs) ?_
  rw [hY]
  exact Ent.perm (by classical exact List.perm_iff_count.2 fun x => by simp only [List.append_eq, List.count_append, List.count_cons, List.count_nil]; omega)
 ·rintro i _ _ L1 y G hil ⟨p, x, hp, hx, rfl, rfl⟩ ⟨v1, us, c1, hul, hum, hv1, huo, hg1, hc1, hc1l, rfl⟩ _
  conv=>whnf
  refine ⟨rfl, fun G' _ => ?_⟩
  conv=>whnf
  obtain ⟨B, hB⟩ : ∃ B, B = own 1 x p.bs.length (bvs p.bs) :: cel b11 22 [v1] :: cel b12 3 [.int .i64 i] :: own 2 v1 i (pairsC us) :: cel b6 4 [.bool false] :: pdO us := ⟨_, rfl⟩
  obtain ⟨xa, xc, hxe⟩ := hx.len
  have hB11 : ∀ X, Cel (B ++ X) b11 0 v1 := fun X => by rw [hB]; exact .tl (.here rfl)
  have hB12 : ∀ X, Cel (B ++ X) b12 0 (.int .i64 i) := fun X => by rw [hB]; exact .tl (.tl (.here rfl))
  refine LoopG.mk (fun mm e L => ∃ (j : Nat) (c' : TabD), j ≤ m3.length ∧ mm = m3.length - j ∧ GoodT K c' ∧ c'.cont = putsC c1.cont (m3.take j) ∧ c'.vals.length ≤ c1.vals.length + j ∧
   e = [(4, .pointer (some ⟨b4, 0, none⟩)), (5, .pointer (some ⟨b5, 0, none⟩)), (6, .pointer (some ⟨b6, 0, none⟩)), (8, .pointer (some ⟨b8, 0, none⟩)), (9, .pointer (some ⟨b9, 0, none⟩)), (10, .pointer (some ⟨b10, 0, none⟩)), (11, .pointer (some ⟨b11, 0, none⟩)), (12, .pointer (some ⟨b12, 0, none⟩)), (13, .string p.key), (14, x), (15, .int .i64 j)] ∧ L = B ++ c'.pieces 89 124 144 t) m3.length
   [(4, .pointer (some ⟨b4, 0, none⟩)), (5, .pointer (some ⟨b5, 0, none⟩)), (6, .pointer (some ⟨b6, 0, none⟩)), (8, .pointer (some ⟨b8, 0, none⟩)), (9, .pointer (some ⟨b9, 0, none⟩)), (10, .pointer (some ⟨b10, 0, none⟩)), (11, .pointer (some ⟨b11, 0, none⟩)), (12, .pointer (some ⟨b12, 0, none⟩)), (13, .string p.key), (14, x), (15, .int .i64 0)] (B ++ c1.pieces 89 124 144 t) ⟨rfl, rfl, rfl, rfl, rfl, rfl, rfl, rfl, rfl, rfl, rfl, trivial⟩ (by rw [hB]; exact Ent.refl _)
   ⟨0, c1, by omega, rfl, hg1, rfl, Nat.le_refl _, rfl, rfl⟩ ?_
  rintro mm e L ⟨j, c2, hj, rfl, hg2, hc2, hc2l, rfl, rfl⟩
  conv=>whnf
  refine LoadG.atF (r4 F G') ?_
  conv=>whnf
  refine LenG.lit ?_
  conv=>whnf
  have go : j < m3.length → ∃ q, m3[j]? = some q ∧ ms[j]? = some q := fun h => by
   have h4 : m3[j]? = ms[j]? := by rw [hm3, List.getElem?_take, if_pos (by omega)]
   exact ⟨m3[j], List.getElem?_eq_getElem h, by rw [← h4]; exact List.getElem?_eq_getElem h⟩
  refine CondG.dec (fun h1 => ?_) (fun h1 => ?_)
  ·(conv=>whnf);refine .tt ?_;(conv=>whnf);refine .tt ?_;(conv=>whnf)
   refine CondG.dec (fun h2 => ?_) (fun h2 => ?_)
   ·obtain ⟨q, hq3, hq⟩ := go (by omega)
    obtain ⟨q0, q1⟩ := pairsC_get hq
    obtain ⟨hqr, hqb⟩ := hmok q (List.mem_of_getElem? hq)
    conv=>whnf
    refine DrawG.mk 13 [] (B ++ c2.pieces 89 124 144 t) (by rw [List.append_nil]; exact Ent.refl _) ?_
    conv=>whnf
    refine .take 0 ?_
    conv=>whnf
    refine ⟨rfl, ?_⟩
    conv=>whnf
    refine LoadG.atF (r9 F G') ?_
    conv=>whnf
    refine .take 1 ?_
    conv=>whnf
    refine ⟨rfl, ?_⟩
    conv=>whnf
    refine LoadG.atF (r4 F G') ?_
    conv=>whnf
    refine .take 2 ?_
    conv=>whnf
    refine ⟨rfl, ?_⟩
    conv=>whnf
    refine .take 3 ?_
    conv=>whnf
    refine ⟨rfl, ?_⟩
    conv=>whnf
    refine IdxG.rd (rm G') (by omega) fun cb o hcc => ?_
    conv=>whnf
    refine .take 4 ?_
    conv=>whnf
    refine ⟨rfl, ?_⟩
    conv=>whnf
    refine .take 5 ?_
    conv=>whnf
    refine ⟨rfl, ?_⟩
    conv=>whnf
    refine LoadG.atF (hcc.one (i := ((j : Nat) : Int).toNat * 2) (u := (.string q.key)) (by rw [Int.toNat_natCast]; exact q0)) ?_
    clear hcc
    conv=>whnf
    refine .take 6 ?_
    conv=>whnf
    refine ⟨rfl, ?_⟩
    conv=>whnf
    refine LoadG.atF (r4 F G') ?_
    conv=>whnf
    refine .take 7 ?_
    conv=>whnf
    refine ⟨rfl, ?_⟩
    conv=>whnf
    refine .take 8 ?_
    conv=>whnf
    refine ⟨rfl, ?_⟩
    conv=>whnf
    refine IdxG.rd (rm G') (by omega) fun cb o hcc => ?_
    conv=>whnf
    refine .take 9 ?_
    conv=>whnf
    refine ⟨rfl, ?_⟩
    conv=>whnf
    refine .take 10 ?_
    conv=>whnf
    refine ⟨rfl, ?_⟩
    conv=>whnf
    refine LoadG.atF (hcc.one (i := ((j : Nat) : Int).toNat * 2 + 1) (u := q.v) (by rw [Int.toNat_natCast]; exact q1)) ?_
    clear hcc
    conv=>whnf
    refine .all ?_
    conv=>whnf
    refine ⟨by decide, ?_⟩
    conv=>whnf
    refine CallG.of (pre := c2.pieces 89 124 144 t) (rest := B) (tput_g hk _ (.right (.right (.right hK _) _) _) t c2 hg2 (by omega) q.key q.v q.bs (.right (.right (.right hqr _) _) _) hqb) (Ent.perm (by classical exact List.perm_iff_count.2 fun x => by simp only [List.append_eq, List.count_append, List.count_cons, List.count_nil]; omega)) ?_
    rintro _ _ ⟨rfl, c3, hg3, hc3, hc3l, rfl⟩
    conv=>whnf
    refine .take 12 ?_
    conv=>whnf
    refine ⟨rfl, ?_⟩
    conv=>whnf
    refine ⟨rfl, ?_⟩
    conv=>whnf
    have hqe := hqr.len
    refine DrawG.mk 13 [] (c3.pieces 89 124 144 t ++ B) (by rw [List.append_nil]; exact Ent.refl _) ?_
    conv=>whnf
    refine .take 0 ?_
    conv=>whnf
    refine ⟨rfl, ?_⟩
    conv=>whnf
    refine .take 1 ?_
    conv=>whnf
    refine ⟨rfl, ?_⟩
    conv=>whnf
    refine LoadG.atF (r4 F G') ?_
    conv=>whnf
    refine .take 2 ?_
    conv=>whnf
    refine ⟨rfl, ?_⟩
    conv=>whnf
    refine .take 3 ?_
    conv=>whnf
    refine ⟨rfl, ?_⟩
    conv=>whnf
    refine IdxG.rd (rm G') (by omega) fun cb o hcc => ?_
    conv=>whnf
    refine .take 4 ?_
    conv=>whnf
    refine ⟨rfl, ?_⟩
    conv=>whnf
    refine .take 5 ?_
    conv=>whnf
    refine ⟨rfl, ?_⟩
    conv=>whnf
    refine LoadG.atF (hcc.one (i := ((j : Nat) : Int).toNat * 2) (u := (.string q.key)) (by rw [Int.toNat_natCast]; exact q0)) ?_
    clear hcc
    conv=>whnf
    refine .take 6 ?_
    conv=>whnf
    refine ⟨rfl, ?_⟩
    conv=>whnf
    refine LoadG.atF (r4 F G') ?_
    conv=>whnf
    refine .take 7 ?_
    conv=>whnf
    refine ⟨rfl, ?_⟩
    conv=>whnf
    refine .take 8 ?_
    conv=>whnf
    refine ⟨rfl, ?_⟩
    conv=>whnf
    refine IdxG.rd (rm G') (by omega) fun cb o hcc => ?_
    conv=>whnf
    refine .take 9 ?_
    conv=>whnf
    refine ⟨rfl, ?_⟩
    conv=>whnf
    refine .take 10 ?_
    conv=>whnf
    refine ⟨rfl, ?_⟩
    conv=>whnf
    refine LoadG.atF (hcc.one (i := ((j : Nat) : Int).toNat * 2 + 1) (u := q.v) (by rw [Int.toNat_natCast]; exact q1)) ?_
    clear hcc
    conv=>whnf
    refine .all ?_
    conv=>whnf
    refine ⟨by decide, ?_⟩
    conv=>whnf
    refine CallG.pure (may7_spec _ q.key q.v q.bs.length hqe) ?_
    rintro _ _ ⟨rfl, rfl⟩
    conv=>whnf
    refine .take 12 ?_
    conv=>whnf
    refine ⟨rfl, ?_⟩
    conv=>whnf
    refine ⟨rfl, ?_⟩
    conv=>whnf
    refine CondG.ndec (fun h => absurd rfl h) (fun _ => ?_)
    conv=>whnf
    refine ArithG.i64' ((j + 1 : Nat) : Int) (by omega) (by omega) ?_
    conv=>whnf
    refine ⟨m3.length - (j + 1), [(4, .pointer (some ⟨b4, 0, none⟩)), (5, .pointer (some ⟨b5, 0, none⟩)), (6, .pointer (some ⟨b6, 0, none⟩)), (8, .pointer (some ⟨b8, 0, none⟩)), (9, .pointer (some ⟨b9, 0, none⟩)), (10, .pointer (some ⟨b10, 0, none⟩)), (11, .pointer (some ⟨b11, 0, none⟩)), (12, .pointer (some ⟨b12, 0, none⟩)), (13, .string p.key), (14, x), (15, .int .i64 ((j + 1 : Nat) : Int))], B ++ c3.pieces 89 124 144 t, by omega, ⟨rfl, rfl, rfl, rfl, rfl, rfl, rfl, rfl, rfl, rfl, rfl, trivial⟩, Ent.perm (by classical exact List.perm_iff_count.2 fun x => by simp only [List.append_eq, List.count_append, List.count_cons, List.count_nil]; omega), j + 1, c3, by omega, rfl, hg3, ?_, by split at hc3l <;> omega, rfl, rfl⟩
    rw [hc3, hc2, putsC_step hq3]
   ·obtain rfl : j = m3.length := by omega
    clear go
    rw [List.take_of_length_le (Nat.le_refl _)] at hc2
    obtain ⟨hcf, hlf⟩ : c2.cont = putsC c.cont m3 ∧ c2.vals.length ≤ c.vals.length + 3 := by
     by_cases h0 : i = 0
     ·rw [if_pos h0] at hc1
      have := (hg1.one hg hc1).2
      exact ⟨by rw [hc2, hc1], by omega⟩
     ·rw [if_neg h0] at hc1
      have h3 : c2.cont = c1.cont := by rw [hc2, hc1, putsC_twice]
      have := (hg2.one hg1 h3).2
      exact ⟨by rw [h3, hc1], by omega⟩
    have enB : ∀ X q, Ent (q :: (X ++ (B ++ c2.pieces 89 124 144 t))) (own 2 v1 i (pairsC us) :: q :: own 1 x p.bs.length (bvs p.bs) :: cel b11 22 [v1] :: cel b12 3 [.int .i64 i] :: cel b6 4 [.bool false] :: (pdO us ++ c2.pieces 89 124 144 t)) := fun X q => (Ent.cons q ((Ent.perm (List.perm_append_comm (l₁ := X) (l₂ := B ++ c2.pieces 89 124 144 t))).trans (Ent.dropL _ _))).trans (by rw [hB]; exact Ent.perm (by classical exact List.perm_iff_count.2 fun x => by simp only [List.append_eq, List.count_append, List.count_cons, List.count_nil]; omega))
    have e9 : ∀ k : ByteArray, (!decide (k = k)) = false := fun k => by simp
    have eq9 : pairsC (us ++ [(⟨p.key, x, p.bs⟩ : PairD)]) = pairsC us ++ [.string p.key, x] := by rw [pairsC_app]; rfl
    have eo9 : pdO (us ++ [(⟨p.key, x, p.bs⟩ : PairD)]) = pdO us ++ [own 1 x p.bs.length (bvs p.bs)] := by unfold pdO; rw [List.map_append]; rfl
    conv=>whnf
    refine DrawG.mk 7 (B ++ c2.pieces 89 124 144 t) [] (Ent.refl _) ?_
    conv=>whnf
    refine .take 0 ?_
    conv=>whnf
    refine ⟨rfl, ?_⟩
    conv=>whnf
    refine LoadG.at (v := .int .i64 i) (hB12 _) ?_
    conv=>whnf
    refine .take 1 ?_
    conv=>whnf
    refine ⟨rfl, ?_⟩
    conv=>whnf
    refine LoadG.atF (r5 F G') ?_
    conv=>whnf
    refine .take 2 ?_
    conv=>whnf
    refine ⟨rfl, ?_⟩
    conv=>whnf
    refine LoadG.atF (r8 F G') ?_
    conv=>whnf
    refine .take 3 ?_
    conv=>whnf
    refine ⟨rfl, ?_⟩
    conv=>whnf
    refine LenG.lit ?_
    conv=>whnf
    refine .take 4 ?_
    conv=>whnf
    refine ⟨rfl, ?_⟩
    conv=>whnf
    refine ArithG.i64' ((ld.length + 2 : Nat) : Int) (by omega) (by omega) ?_
    conv=>whnf
    refine .all ?_
    conv=>whnf
    refine ⟨by decide, ?_⟩
    conv=>whnf
    refine CallG.pure (spick_spec _ ea (ld.length + 2) he1 he2 (by omega)) ?_
    rintro _ _ ⟨rfl, rfl⟩
    conv=>whnf
    refine .take 6 ?_
    conv=>whnf
    refine ⟨rfl, ?_⟩
    conv=>whnf
    refine ⟨rfl, ?_⟩
    conv=>whnf
    refine CondG.dec (fun h8 => ?_) (fun h8 => ?_)
    ·conv=>whnf
     intro b17
     conv=>whnf
     refine StoreG.at rfl (Upd.whole (vs := [.int .i64 0]) rfl (by simp [Value.oneCell'])) ?_
     conv=>whnf
     refine LoadG.atF (r10 F G') ?_
     conv=>whnf
     refine ⟨by kernel_rfl, RangeG.mk al.length (rdAllD al) [] (fun n L => L = [cel b17 3 [.int .i64 n]]) (fun id L => id = some 4) [cel b17 3 [.int .i64 0]] (B ++ c2.pieces 89 124 144 t)
      (fun G2 => all_seq2 _ g (.slice va al.length vc) al hv (by rw [hal.len]; omega) (((rg F G').right _).right G2) (((rl F G').right _).right G2) (fun p hp => ⟨(((rv F G' p hp).1).right _).right G2, (rv F G' p hp).2⟩))
      (fun i vs A h => by obtain ⟨_, _, _, _, rfl, _⟩ := h; rfl) (by simp only [List.append_eq, List.append_nil, List.nil_append, List.cons_append]; exact Ent.refl _) rfl ?_ ?_ ?_ (fun _ _ h => by cases h)⟩
     ·rintro n _ _ L3 y2 G2 hnl ⟨p2, x2, hp2, hx2, rfl, rfl⟩ rfl _
      obtain ⟨f2, hf2, hfk, -⟩ := hk2 n p2 hp2
      obtain ⟨f0, -⟩ := pairsC_get hf2
      rw [hfk] at f0
      conv=>whnf
      refine ⟨rfl, fun G3 _ => ?_⟩
      conv=>whnf
      refine LoadG.at (v := .int .i64 n) (.tl (.here rfl)) ?_
      conv=>whnf
      refine LoadG.atF (((r8 F G').right _).right G3) ?_
      conv=>whnf
      refine LenG.lit ?_
      conv=>whnf
      refine CondG.dec (fun h9 => absurd h9 (by omega)) (fun h9 => ?_)
      (conv=>whnf);refine .ff ?_;(conv=>whnf)
      refine LoadG.atF (((r8 F G').right _).right G3) ?_
      (conv=>whnf);refine .ff ?_;(conv=>whnf)
      refine LoadG.at (v := .int .i64 n) (.tl (.here rfl)) ?_
      (conv=>whnf);refine .ff ?_;(conv=>whnf)
      refine IdxG.rd (((rd F G').1.right (B ++ c2.pieces 89 124 144 t)).right G3) (by omega) fun cb o hcc => ?_
      (conv=>whnf);refine .ff ?_;(conv=>whnf);refine .ff ?_;(conv=>whnf)
      refine LoadG.atF (hcc.one (i := ((n : Nat) : Int).toNat * 2) (u := .string p2.key) (by rw [Int.toNat_natCast]; exact f0)) ?_
      clear hcc
      (conv=>whnf);refine .ff ?_;(conv=>whnf);refine .ff ?_;(conv=>whnf)
      rw [e9]
      (conv=>whnf);refine .ff ?_;(conv=>whnf)
      refine LoadG.at (v := .int .i64 n) (.tl (.here rfl)) ?_
      conv=>whnf
      refine ArithG.i64' ((n + 1 : Nat) : Int) (by omega) (by omega) ?_
      conv=>whnf
      refine StoreG.at rfl (Upd.tl (Upd.whole (vs := [.int .i64 ((n + 1 : Nat) : Int)]) rfl (by simp [Value.oneCell']))) ?_
      conv=>whnf
      refine LoadG.at (v := .int .i64 ((n + 1 : Nat) : Int)) (.tl (.here rfl)) ?_
      conv=>whnf
      refine LoadG.atF (((r5 F G').right _).right G3) ?_
      conv=>whnf
      refine SideG.of (by decide) ?_
      conv=>whnf
      refine CondG.dec (fun h10 => ?_) (fun h10 => ?_)
      ·conv=>whnf
       exact ⟨_, Ent.refl _, rfl⟩
      ·conv=>whnf
       exact ⟨[cel b17 3 [.int .i64 ((n + 1 : Nat) : Int)]], Ent.drop _, rfl⟩
     ·rintro D2 _ rfl
      conv=>whnf
      refine LoadG.at (v := v1) (.tl (hB11 _)) ?_
      conv=>whnf
      refine BuildG.of (cs := [.string p.key, x]) (by rw [hxe]; rfl) ?_
      conv=>whnf
      refine BuildG.of (cs := [.string p.key, x]) rfl ?_
      conv=>whnf
      intro b26
      conv=>whnf
      refine DoesG.ent (enB [cel b17 3 [.int .i64 al.length]] _) ?_
      refine app_ownW prsT 22 (m := 1) (ys := [.string p.key, x]) (.mk _ _ _ _ _ (Nat.le_refl _) (.tl (.left .all _))) rfl (by simp [Value.oneCell', hxe]) (by simp only [maxLen]; omega) (.wide (by omega)) fun v2 hv2 _ _ => ?_
      obtain ⟨wa, wc, rfl⟩ := hv2.len
      conv=>whnf
      refine StoreG.at rfl (Upd.tl (Upd.tl (Upd.tl (Upd.whole (vs := [.slice wa (i + 1) wc]) rfl (by simp [Value.oneCell']))))) ?_
      conv=>whnf
      refine LoadG.at (v := .int .i64 i) (.tl (.tl (.tl (.tl (.here rfl))))) ?_
      conv=>whnf
      refine ArithG.i64' ((i + 1 : Nat) : Int) (by omega) (by omega) ?_
      conv=>whnf
      refine StoreG.at rfl (Upd.tl (Upd.tl (Upd.tl (Upd.tl (Upd.whole (vs := [.int .i64 ((i + 1 : Nat) : Int)]) rfl (by simp [Value.oneCell'])))))) ?_
      conv=>whnf
      refine ⟨cel b11 22 [.slice wa (i + 1) wc] :: cel b12 3 [.int .i64 ((i + 1 : Nat) : Int)] :: own 2 (.slice wa (i + 1) wc) (i + 1) (pairsC (us ++ [⟨p.key, x, p.bs⟩])) :: cel b6 4 [.bool false] :: (pdO (us ++ [⟨p.key, x, p.bs⟩]) ++ c2.pieces 89 124 144 t), ?_, .slice wa (i + 1) wc, us ++ [⟨p.key, x, p.bs⟩], c2, by rw [List.length_append, hul]; rfl, ?_, hv2, fun q9 hq9 => ?_, hg2, by rw [if_neg (by omega)]; exact hcf, hlf, rfl⟩
      ·rw [eq9, eo9]
       exact (Ent.cons _ (Ent.drop _)).trans (Ent.perm (by classical exact List.perm_iff_count.2 fun x => by simp only [List.append_eq, List.count_append, List.count_cons, List.count_nil]; omega))
      ·rw [List.take_add_one, hp, List.map_append, List.map_append, hum]
       rfl
      ·rcases List.mem_append.1 hq9 with h9 | h9
       ·exact huo q9 h9
       ·rw [List.mem_singleton.1 h9]
        exact hx
     ·rintro D2 id L3 hid
      cases hid
      conv=>whnf
      refine LoadG.at (v := v1) (.right (hB11 _) L3) ?_
      conv=>whnf
      refine BuildG.of (cs := [.string p.key, x]) (by rw [hxe]; rfl) ?_
      conv=>whnf
      refine BuildG.of (cs := [.string p.key, x]) rfl ?_
      conv=>whnf
      intro b26
      conv=>whnf
      refine DoesG.ent (enB L3 _) ?_
      refine app_ownW prsT 22 (m := 1) (ys := [.string p.key, x]) (.mk _ _ _ _ _ (Nat.le_refl _) (.tl (.left .all _))) rfl (by simp [Value.oneCell', hxe]) (by simp only [maxLen]; omega) (.wide (by omega)) fun v2 hv2 _ _ => ?_
      obtain ⟨wa, wc, rfl⟩ := hv2.len
      conv=>whnf
      refine StoreG.at rfl (Upd.tl (Upd.tl (Upd.tl (Upd.whole (vs := [.slice wa (i + 1) wc]) rfl (by simp [Value.oneCell']))))) ?_
      conv=>whnf
      refine LoadG.at (v := .int .i64 i) (.tl (.tl (.tl (.tl (.here rfl))))) ?_
      conv=>whnf
      refine ArithG.i64' ((i + 1 : Nat) : Int) (by omega) (by omega) ?_
      conv=>whnf
      refine StoreG.at rfl (Upd.tl (Upd.tl (Upd.tl (Upd.tl (Upd.whole (vs := [.int .i64 ((i + 1 : Nat) : Int)]) rfl (by simp [Value.oneCell'])))))) ?_
      conv=>whnf
      refine ⟨cel b11 22 [.slice wa (i + 1) wc] :: cel b12 3 [.int .i64 ((i + 1 : Nat) : Int)] :: own 2 (.slice wa (i + 1) wc) (i + 1) (pairsC (us ++ [⟨p.key, x, p.bs⟩])) :: cel b6 4 [.bool false] :: (pdO (us ++ [⟨p.key, x, p.bs⟩]) ++ c2.pieces 89 124 144 t), ?_, .slice wa (i + 1) wc, us ++ [⟨p.key, x, p.bs⟩], c2, by rw [List.length_append, hul]; rfl, ?_, hv2, fun q9 hq9 => ?_, hg2, by rw [if_neg (by omega)]; exact hcf, hlf, rfl⟩
      ·rw [eq9, eo9]
       exact (Ent.cons _ (Ent.drop _)).trans (Ent.perm (by classical exact List.perm_iff_count.2 fun x => by simp only [List.append_eq, List.count_append, List.count_cons, List.count_nil]; omega))
      ·rw [List.take_add_one, hp, List.map_append, List.map_append, hum]
       rfl
      ·rcases List.mem_append.1 hq9 with h9 | h9
       ·exact huo q9 h9
       ·rw [List.mem_singleton.1 h9]
        exact hx
    conv=>whnf
    refine LoadG.at (v := v1) (hB11 _) ?_
    conv=>whnf
    refine BuildG.of (cs := [.string p.key, x]) (by rw [hxe]; rfl) ?_
    conv=>whnf
    refine BuildG.of (cs := [.string p.key, x]) rfl ?_
    conv=>whnf
    intro b26
    conv=>whnf
    refine DoesG.ent (enB [] _) ?_
    refine app_ownW prsT 22 (m := 1) (ys := [.string p.key, x]) (.mk _ _ _ _ _ (Nat.le_refl _) (.tl (.left .all _))) rfl (by simp [Value.oneCell', hxe]) (by simp only [maxLen]; omega) (.wide (by omega)) fun v2 hv2 _ _ => ?_
    obtain ⟨wa, wc, rfl⟩ := hv2.len
    conv=>whnf
    refine StoreG.at rfl (Upd.tl (Upd.tl (Upd.tl (Upd.whole (vs := [.slice wa (i + 1) wc]) rfl (by simp [Value.oneCell']))))) ?_
    conv=>whnf
    refine LoadG.at (v := .int .i64 i) (.tl (.tl (.tl (.tl (.here rfl))))) ?_
    conv=>whnf
    refine ArithG.i64' ((i + 1 : Nat) : Int) (by omega) (by omega) ?_
    conv=>whnf
    refine StoreG.at rfl (Upd.tl (Upd.tl (Upd.tl (Upd.tl (Upd.whole (vs := [.int .i64 ((i + 1 : Nat) : Int)]) rfl (by simp [Value.oneCell'])))))) ?_
    conv=>whnf
    refine ⟨cel b11 22 [.slice wa (i + 1) wc] :: cel b12 3 [.int .i64 ((i + 1 : Nat) : Int)] :: own 2 (.slice wa (i + 1) wc) (i + 1) (pairsC (us ++ [⟨p.key, x, p.bs⟩])) :: cel b6 4 [.bool false] :: (pdO (us ++ [⟨p.key, x, p.bs⟩]) ++ c2.pieces 89 124 144 t), ?_, .slice wa (i + 1) wc, us ++ [⟨p.key, x, p.bs⟩], c2, by rw [List.length_append, hul]; rfl, ?_, hv2, fun q9 hq9 => ?_, hg2, by rw [if_neg (by omega)]; exact hcf, hlf, rfl⟩
    ·rw [eq9, eo9]
     exact (Ent.cons _ (Ent.drop _)).trans (Ent.perm (by classical exact List.perm_iff_count.2 fun x => by simp only [List.append_eq, List.count_append, List.count_cons, List.count_nil]; omega))
    ·rw [List.take_add_one, hp, List.map_append, List.map_append, hum]
     rfl
    ·rcases List.mem_append.1 hq9 with h9 | h9
     ·exact huo q9 h9
     ·rw [List.mem_singleton.1 h9]
      exact hx
  ·obtain rfl : j = m3.length := by omega
   clear go
   rw [List.take_of_length_le (Nat.le_refl _)] at hc2
   obtain ⟨hcf, hlf⟩ : c2.cont = putsC c.cont m3 ∧ c2.vals.length ≤ c.vals.length + 3 := by
    by_cases h0 : i = 0
    ·rw [if_pos h0] at hc1
     have := (hg1.one hg hc1).2
     exact ⟨by rw [hc2, hc1], by omega⟩
    ·rw [if_neg h0] at hc1
     have h3 : c2.cont = c1.cont := by rw [hc2, hc1, putsC_twice]
     have := (hg2.one hg1 h3).2
     exact ⟨by rw [h3, hc1], by omega⟩
   have enB : ∀ X q, Ent (q :: (X ++ (B ++ c2.pieces 89 124 144 t))) (own 2 v1 i (pairsC us) :: q :: own 1 x p.bs.length (bvs p.bs) :: cel b11 22 [v1] :: cel b12 3 [.int .i64 i] :: cel b6 4 [.bool false] :: (pdO us ++ c2.pieces 89 124 144 t)) := fun X q => (Ent.cons q ((Ent.perm (List.perm_append_comm (l₁ := X) (l₂ := B ++ c2.pieces 89 124 144 t))).trans (Ent.dropL _ _))).trans (by rw [hB]; exact Ent.perm (by classical exact List.perm_iff_count.2 fun x => by simp only [List.append_eq, List.count_append, List.count_cons, List.count_nil]; omega))
   have e9 : ∀ k : ByteArray, (!decide (k = k)) = false := fun k => by simp
   have eq9 : pairsC (us ++ [(⟨p.key, x, p.bs⟩ : PairD)]) = pairsC us ++ [.string p.key, x] := by rw [pairsC_app]; rfl
   have eo9 : pdO (us ++ [(⟨p.key, x, p.bs⟩ : PairD)]) = pdO us ++ [own 1 x p.bs.length (bvs p.bs)] := by unfold pdO; rw [List.map_append]; rfl
   (conv=>whnf);refine .ff ?_;(conv=>whnf);refine .ff ?_;(conv=>whnf);refine .ff ?_;(conv=>whnf)
   refine DrawG.mk 7 (B ++ c2.pieces 89 124 144 t) [] (Ent.refl _) ?_
   conv=>whnf
   refine .take 0 ?_
   conv=>whnf
   refine ⟨rfl, ?_⟩
   conv=>whnf
   refine LoadG.at (v := .int .i64 i) (hB12 _) ?_
   conv=>whnf
   refine .take 1 ?_
   conv=>whnf
   refine ⟨rfl, ?_⟩
   conv=>whnf
   refine LoadG.atF (r5 F G') ?_
   conv=>whnf
   refine .take 2 ?_
   conv=>whnf
   refine ⟨rfl, ?_⟩
   conv=>whnf
   refine LoadG.atF (r8 F G') ?_
   conv=>whnf
   refine .take 3 ?_
   conv=>whnf
   refine ⟨rfl, ?_⟩
   conv=>whnf
   refine LenG.lit ?_
   conv=>whnf
   refine .take 4 ?_
   conv=>whnf
   refine ⟨rfl, ?_⟩
   conv=>whnf
   refine ArithG.i64' ((ld.length + 2 : Nat) : Int) (by omega) (by omega) ?_
   conv=>whnf
   refine .all ?_
   conv=>whnf
   refine ⟨by decide, ?_⟩
   conv=>whnf
   refine CallG.pure (spick_spec _ ea (ld.length + 2) he1 he2 (by omega)) ?_
   rintro _ _ ⟨rfl, rfl⟩
   conv=>whnf
   refine .take 6 ?_
   conv=>whnf
   refine ⟨rfl, ?_⟩
   conv=>whnf
   refine ⟨rfl, ?_⟩
   conv=>whnf
   refine CondG.dec (fun h8 => ?_) (fun h8 => ?_)
   ·conv=>whnf
    intro b17
    conv=>whnf
    refine StoreG.at rfl (Upd.whole (vs := [.int .i64 0]) rfl (by simp [Value.oneCell'])) ?_
    conv=>whnf
    refine LoadG.atF (r10 F G') ?_
    conv=>whnf
    refine ⟨by kernel_rfl, RangeG.mk al.length (rdAllD al) [] (fun n L => L = [cel b17 3 [.int .i64 n]]) (fun id L => id = some 4) [cel b17 3 [.int .i64 0]] (B ++ c2.pieces 89 124 144 t)
     (fun G2 => all_seq2 _ g (.slice va al.length vc) al hv (by rw [hal.len]; omega) (((rg F G').right _).right G2) (((rl F G').right _).right G2) (fun p hp => ⟨(((rv F G' p hp).1).right _).right G2, (rv F G' p hp).2⟩))
     (fun i vs A h => by obtain ⟨_, _, _, _, rfl, _⟩ := h; rfl) (by simp only [List.append_eq, List.append_nil, List.nil_append, List.cons_append]; exact Ent.refl _) rfl ?_ ?_ ?_ (fun _ _ h => by cases h)⟩
    ·rintro n _ _ L3 y2 G2 hnl ⟨p2, x2, hp2, hx2, rfl, rfl⟩ rfl _
     obtain ⟨f2, hf2, hfk, -⟩ := hk2 n p2 hp2
     obtain ⟨f0, -⟩ := pairsC_get hf2
     rw [hfk] at f0
     conv=>whnf
     refine ⟨rfl, fun G3 _ => ?_⟩
     conv=>whnf
     refine LoadG.at (v := .int .i64 n) (.tl (.here rfl)) ?_
     conv=>whnf
     refine LoadG.atF (((r8 F G').right _).right G3) ?_
     conv=>whnf
     refine LenG.lit ?_
     conv=>whnf
     refine CondG.dec (fun h9 => absurd h9 (by omega)) (fun h9 => ?_)
     (conv=>whnf);refine .ff ?_;(conv=>whnf)
     refine LoadG.atF (((r8 F G').right _).right G3) ?_
     (conv=>whnf);refine .ff ?_;(conv=>whnf)
     refine LoadG.at (v := .int .i64 n) (.tl (.here rfl)) ?_
     (conv=>whnf);refine .ff ?_;(conv=>whnf)
     refine IdxG.rd (((rd F G').1.right (B ++ c2.pieces 89 124 144 t)).right G3) (by omega) fun cb o hcc => ?_
     (conv=>whnf);refine .ff ?_;(conv=>whnf);refine .ff ?_;(conv=>whnf)
     refine LoadG.atF (hcc.one (i := ((n : Nat) : Int).toNat * 2) (u := .string p2.key) (by rw [Int.toNat_natCast]; exact f0)) ?_
     clear hcc
     (conv=>whnf);refine .ff ?_;(conv=>whnf);refine .ff ?_;(conv=>whnf)
     rw [e9]
     (conv=>whnf);refine .ff ?_;(conv=>whnf)
     refine LoadG.at (v := .int .i64 n) (.tl (.here rfl)) ?_
     conv=>whnf
     refine ArithG.i64' ((n + 1 : Nat) : Int) (by omega) (by omega) ?_
     conv=>whnf
     refine StoreG.at rfl (Upd.tl (Upd.whole (vs := [.int .i64 ((n + 1 : Nat) : Int)]) rfl (by simp [Value.oneCell']))) ?_
     conv=>whnf
     refine LoadG.at (v := .int .i64 ((n + 1 : Nat) : Int)) (.tl (.here rfl)) ?_
     conv=>whnf
     refine LoadG.atF (((r5 F G').right _).right G3) ?_
     conv=>whnf
     refine SideG.of (by decide) ?_
     conv=>whnf
     refine CondG.dec (fun h10 => ?_) (fun h10 => ?_)
     ·conv=>whnf
      exact ⟨_, Ent.refl _, rfl⟩
     ·conv=>whnf
      exact ⟨[cel b17 3 [.int .i64 ((n + 1 : Nat) : Int)]], Ent.drop _, rfl⟩
    ·rintro D2 _ rfl
     conv=>whnf
     refine LoadG.at (v := v1) (.tl (hB11 _)) ?_
     conv=>whnf
     refine BuildG.of (cs := [.string p.key, x]) (by rw [hxe]; rfl) ?_
     conv=>whnf
     refine BuildG.of (cs := [.string p.key, x]) rfl ?_
     conv=>whnf
     intro b26
     conv=>whnf
     refine DoesG.ent (enB [cel b17 3 [.int .i64 al.length]] _) ?_
     refine app_ownW prsT 22 (m := 1) (ys := [.string p.key, x]) (.mk _ _ _ _ _ (Nat.le_refl _) (.tl (.left .all _))) rfl (by simp [Value.oneCell', hxe]) (by simp only [maxLen]; omega) (.wide (by omega)) fun v2 hv2 _ _ => ?_
     obtain ⟨wa, wc, rfl⟩ := hv2.len
     conv=>whnf
     refine StoreG.at rfl (Upd.tl (Upd.tl (Upd.tl (Upd.whole (vs := [.slice wa (i + 1) wc]) rfl (by simp [Value.oneCell']))))) ?_
     conv=>whnf
     refine LoadG.at (v := .int .i64 i) (.tl (.tl (.tl (.tl (.here rfl))))) ?_
     conv=>whnf
     refine ArithG.i64' ((i + 1 : Nat) : Int) (by omega) (by omega) ?_
     conv=>whnf
     refine StoreG.at rfl (Upd.tl (Upd.tl (Upd.tl (Upd.tl (Upd.whole (vs := [.int .i64 ((i + 1 : Nat) : Int)]) rfl (by simp [Value.oneCell'])))))) ?_
     conv=>whnf
     refine ⟨cel b11 22 [.slice wa (i + 1) wc] :: cel b12 3 [.int .i64 ((i + 1 : Nat) : Int)] :: own 2 (.slice wa (i + 1) wc) (i + 1) (pairsC (us ++ [⟨p.key, x, p.bs⟩])) :: cel b6 4 [.bool false] :: (pdO (us ++ [⟨p.key, x, p.bs⟩]) ++ c2.pieces 89 124 144 t), ?_, .slice wa (i + 1) wc, us ++ [⟨p.key, x, p.bs⟩], c2, by rw [List.length_append, hul]; rfl, ?_, hv2, fun q9 hq9 => ?_, hg2, by rw [if_neg (by omega)]; exact hcf, hlf, rfl⟩
     ·rw [eq9, eo9]
      exact (Ent.cons _ (Ent.drop _)).trans (Ent.perm (by classical exact List.perm_iff_count.2 fun x => by simp only [List.append_eq, List.count_append, List.count_cons, List.count_nil]; omega))
     ·rw [List.take_add_one, hp, List.map_append, List.map_append, hum]
      rfl
     ·rcases List.mem_append.1 hq9 with h9 | h9
      ·exact huo q9 h9
      ·rw [List.mem_singleton.1 h9]
       exact hx
    ·rintro D2 id L3 hid
     cases hid
     conv=>whnf
     refine LoadG.at (v := v1) (.right (hB11 _) L3) ?_
     conv=>whnf
     refine BuildG.of (cs := [.string p.key, x]) (by rw [hxe]; rfl) ?_
     conv=>whnf
     refine BuildG.of (cs := [.string p.key, x]) rfl ?_
     conv=>whnf
     intro b26
     conv=>whnf
     refine DoesG.ent (enB L3 _) ?_
     refine app_ownW prsT 22 (m := 1) (ys := [.string p.key, x]) (.mk _ _ _ _ _ (Nat.le_refl _) (.tl (.left .all _))) rfl (by simp [Value.oneCell', hxe]) (by simp only [maxLen]; omega) (.wide (by omega)) fun v2 hv2 _ _ => ?_
     obtain ⟨wa, wc, rfl⟩ := hv2.len
     conv=>whnf
     refine StoreG.at rfl (Upd.tl (Upd.tl (Upd.tl (Upd.whole (vs := [.slice wa (i + 1) wc]) rfl (by simp [Value.oneCell']))))) ?_
     conv=>whnf
     refine LoadG.at (v := .int .i64 i) (.tl (.tl (.tl (.tl (.here rfl))))) ?_
     conv=>whnf
     refine ArithG.i64' ((i + 1 : Nat) : Int) (by omega) (by omega) ?_
     conv=>whnf
     refine StoreG.at rfl (Upd.tl (Upd.tl (Upd.tl (Upd.tl (Upd.whole (vs := [.int .i64 ((i + 1 : Nat) : Int)]) rfl (by simp [Value.oneCell'])))))) ?_
     conv=>whnf
     refine ⟨cel b11 22 [.slice wa (i + 1) wc] :: cel b12 3 [.int .i64 ((i + 1 : Nat) : Int)] :: own 2 (.slice wa (i + 1) wc) (i + 1) (pairsC (us ++ [⟨p.key, x, p.bs⟩])) :: cel b6 4 [.bool false] :: (pdO (us ++ [⟨p.key, x, p.bs⟩]) ++ c2.pieces 89 124 144 t), ?_, .slice wa (i + 1) wc, us ++ [⟨p.key, x, p.bs⟩], c2, by rw [List.length_append, hul]; rfl, ?_, hv2, fun q9 hq9 => ?_, hg2, by rw [if_neg (by omega)]; exact hcf, hlf, rfl⟩
     ·rw [eq9, eo9]
      exact (Ent.cons _ (Ent.drop _)).trans (Ent.perm (by classical exact List.perm_iff_count.2 fun x => by simp only [List.append_eq, List.count_append, List.count_cons, List.count_nil]; omega))
     ·rw [List.take_add_one, hp, List.map_append, List.map_append, hum]
      rfl
     ·rcases List.mem_append.1 hq9 with h9 | h9
      ·exact huo q9 h9
      ·rw [List.mem_singleton.1 h9]
       exact hx
   conv=>whnf
   refine LoadG.at (v := v1) (hB11 _) ?_
   conv=>whnf
   refine BuildG.of (cs := [.string p.key, x]) (by rw [hxe]; rfl) ?_
   conv=>whnf
   refine BuildG.of (cs := [.string p.key, x]) rfl ?_
   conv=>whnf
   intro b26
   conv=>whnf
   refine DoesG.ent (enB [] _) ?_
   refine app_ownW prsT 22 (m := 1) (ys := [.string p.key, x]) (.mk _ _ _ _ _ (Nat.le_refl _) (.tl (.left .all _))) rfl (by simp [Value.oneCell', hxe]) (by simp only [maxLen]; omega) (.wide (by omega)) fun v2 hv2 _ _ => ?_
   obtain ⟨wa, wc, rfl⟩ := hv2.len
   conv=>whnf
   refine StoreG.at rfl (Upd.tl (Upd.tl (Upd.tl (Upd.whole (vs := [.slice wa (i + 1) wc]) rfl (by simp [Value.oneCell']))))) ?_
   conv=>whnf
   refine LoadG.at (v := .int .i64 i) (.tl (.tl (.tl (.tl (.here rfl))))) ?_
   conv=>whnf
   refine ArithG.i64' ((i + 1 : Nat) : Int) (by omega) (by omega) ?_
   conv=>whnf
   refine StoreG.at rfl (Upd.tl (Upd.tl (Upd.tl (Upd.tl (Upd.whole (vs := [.int .i64 ((i + 1 : Nat) : Int)]) rfl (by simp [Value.oneCell'])))))) ?_
   conv=>whnf
   refine ⟨cel b11 22 [.slice wa (i + 1) wc] :: cel b12 3 [.int .i64 ((i + 1 : Nat) : Int)] :: own 2 (.slice wa (i + 1) wc) (i + 1) (pairsC (us ++ [⟨p.key, x, p.bs⟩])) :: cel b6 4 [.bool false] :: (pdO (us ++ [⟨p.key, x, p.bs⟩]) ++ c2.pieces 89 124 144 t), ?_, .slice wa (i + 1) wc, us ++ [⟨p.key, x, p.bs⟩], c2, by rw [List.length_append, hul]; rfl, ?_, hv2, fun q9 hq9 => ?_, hg2, by rw [if_neg (by omega)]; exact hcf, hlf, rfl⟩
   ·rw [eq9, eo9]
    exact (Ent.cons _ (Ent.drop _)).trans (Ent.perm (by classical exact List.perm_iff_count.2 fun x => by simp only [List.append_eq, List.count_append, List.count_cons, List.count_nil]; omega))
   ·rw [List.take_add_one, hp, List.map_append, List.map_append, hum]
    rfl
   ·rcases List.mem_append.1 hq9 with h9 | h9
    ·exact huo q9 h9
    ·rw [List.mem_singleton.1 h9]
     exact hx
 ·rintro D1 _ ⟨v1, us, c1, hul, hum, hv1, huo, hg1, hc1, hc1l, rfl⟩
  rw [List.take_of_length_le (Nat.le_refl _)] at hum
  have hub : ∀ d ∈ us, d.bs.length ≤ 4096 := fun d hd => by
   have h : d.e ∈ al.map PairD.e := by rw [← hum]; exact List.mem_map_of_mem hd
   obtain ⟨q, hq, he⟩ := List.mem_map.1 h
   have h2 : q.bs = d.bs := congrArg Prod.snd he
   rw [← h2]
   exact (cv q hq).2
  have hud : us.map PairD.e = ld.map PairD.e := hum.trans e1
  obtain ⟨X1, hX1⟩ : ∃ X1, X1 = cel b11 22 [v1] :: cel b12 3 [.int .i64 al.length] :: own 2 v1 al.length (pairsC us) :: cel b6 4 [.bool false] :: (pdO us ++ c1.pieces 89 124 144 t) := ⟨_, rfl⟩
  rw [← hX1]
  conv=>whnf
  refine LoadG.at (v := v1) (by rw [hX1]; exact .tl (.here rfl)) ?_
  conv=>whnf
  refine LoadG.at (v := .slice la ld.length lc) (.tl (.right c8 X1)) ?_
  conv=>whnf
  obtain ⟨C, hC⟩ : ∃ C, C = cel b6 4 [.bool false] :: dfr D1 :: (c1.pieces 89 124 144 t ++ R) := ⟨_, rfl⟩
  have k8 : Cel C b8 0 (.slice la ld.length lc) := by rw [hC]; exact .tl (.tl (.right c8 _))
  have k9 : Cel C b9 0 (.pointer (some ⟨t, 0, none⟩)) := by rw [hC]; exact .tl (.tl (.right c9 _))
  have k10 : Cel C b10 0 (.func (.func 46) #[] #[.pointer (some ⟨g, 0, none⟩)]) := by rw [hC]; exact .tl (.tl (.right c10 _))
  have k4 : Cel C b4 0 (.slice ma ms.length mc) := by rw [hC]; exact .tl (.tl (.right c4 _))
  have kd : RdS C (.slice la ld.length lc) ld.length (pairsC ld) ∧ PdRd C ld := by rw [hC]; exact ⟨.tl (.tl (.right cd.1 _)), fun d hd => .tl (.tl (.right (cd.2 d hd) _))⟩
  have hent : Ent (dfr D1 :: (X1 ++ R)) (cel b11 22 [v1] :: own 2 v1 al.length (pairsC us) :: (pdO us ++ C)) := by
   rw [hX1, hC]
   exact Ent.trans (m := cel b12 3 [.int .i64 al.length] :: cel b11 22 [v1] :: own 2 v1 al.length (pairsC us) :: (pdO us ++ (cel b6 4 [.bool false] :: dfr D1 :: (c1.pieces 89 124 144 t ++ R)))) (Ent.perm (by classical exact List.perm_iff_count.2 fun x => by simp only [List.append_eq, List.count_append, List.count_cons, List.count_nil]; omega)) (Ent.drop _)
  refine CallG.of (pre := []) (rest := cel b11 22 [v1] :: own 2 v1 al.length (pairsC us) :: (pdO us ++ C)) (pairs_same _ v1 (.slice la ld.length lc) us ld (by omega) hud ?_ ?_ ?_ ?_) hent ?_
  ·rw [hul]
   exact .left (.tl (own_rd hv1 (by rw [pairsC_len, hul]))) F
  ·exact .left (.tl (.tl (.right kd.1 _))) F
  ·exact fun d hd => .left (.tl (.tl (pdO_rd hd (huo d hd)))) F
  ·exact fun d hd => .left (.tl (.tl (.right (kd.2 d hd) _))) F
  rintro _ _ ⟨rfl, rfl⟩
  conv=>whnf
  refine LoopG.mk (fun mm e L => ∃ j : Nat, j ≤ us.length ∧ mm = us.length - j ∧ e = [(4, .pointer (some ⟨b4, 0, none⟩)), (6, .pointer (some ⟨b6, 0, none⟩)), (8, .pointer (some ⟨b8, 0, none⟩)), (9, .pointer (some ⟨b9, 0, none⟩)), (10, .pointer (some ⟨b10, 0, none⟩)), (11, .pointer (some ⟨b11, 0, none⟩)), (19, .bool true), (20, .int .i64 j)] ∧ L = cel b11 22 [v1] :: own 2 v1 al.length (pairsC us) :: (pdO (us.drop j) ++ C)) us.length
   [(4, .pointer (some ⟨b4, 0, none⟩)), (6, .pointer (some ⟨b6, 0, none⟩)), (8, .pointer (some ⟨b8, 0, none⟩)), (9, .pointer (some ⟨b9, 0, none⟩)), (10, .pointer (some ⟨b10, 0, none⟩)), (11, .pointer (some ⟨b11, 0, none⟩)), (19, .bool true), (20, .int .i64 0)] (cel b11 22 [v1] :: own 2 v1 al.length (pairsC us) :: (pdO us ++ C)) ⟨rfl, rfl, rfl, rfl, rfl, rfl, rfl, rfl, trivial⟩ (Ent.refl _) ⟨0, by omega, rfl, rfl, rfl⟩ ?_
  rintro mm e L ⟨j, hj, rfl, rfl, rfl⟩
  conv=>whnf
  refine LoadG.at (v := v1) (.here rfl) ?_
  conv=>whnf
  refine LenG.sl hv1 ?_
  conv=>whnf
  refine CondG.dec (fun h1 => ?_) (fun h1 => ?_)
  ·have hjl : j < us.length := by omega
   obtain ⟨d, hd⟩ : ∃ d, us[j]? = some d := ⟨us[j], List.getElem?_eq_getElem hjl⟩
   obtain ⟨-, d1⟩ := pairsC_get hd
   have hdm := List.mem_of_getElem? hd
   have hdrop : pdO (us.drop j) = own 1 d.v d.bs.length (bvs d.bs) :: pdO (us.drop (j + 1)) := by
    obtain ⟨h2, h3⟩ := List.getElem?_eq_some_iff.1 hd
    rw [List.drop_eq_getElem_cons h2, h3]
    rfl
   rw [hdrop]
   conv=>whnf
   refine LoadG.at (v := v1) (.here rfl) ?_
   conv=>whnf
   refine IdxG.rd (L := cel b11 22 [v1] :: own 2 v1 al.length (pairsC us) :: (own 1 d.v d.bs.length (bvs d.bs) :: pdO (us.drop (j + 1)) ++ C)) (.tl (own_rd hv1 (by rw [pairsC_len, hul]))) (by omega) fun cb o hcc => ?_
   conv=>whnf
   refine LoadG.at (v := d.v) (hcc.one (i := ((j : Nat) : Int).toNat * 2 + 1) (by rw [Int.toNat_natCast]; exact d1)) ?_
   clear hcc
   conv=>whnf
   obtain ⟨l2, hl2⟩ : ∃ l2, l2 = d.bs.map Int.ofNat := ⟨_, rfl⟩
   have hl3 : l2.length = d.bs.length := by rw [hl2, List.length_map]
   have eO : own 1 d.v d.bs.length (bvs d.bs) = own 1 d.v l2.length (ivs l2) := by rw [hl3, bvs_ivs, hl2]
   have := hub d hdm
   refine CallG.of (pre := [own 1 d.v l2.length (ivs l2)]) (rest := cel b11 22 [v1] :: own 2 v1 al.length (pairsC us) :: (pdO (us.drop (j + 1)) ++ C)) (spoil_spec _ _ l2 (by omega)) (by rw [← eO]; exact Ent.perm (by classical exact List.perm_iff_count.2 fun x => by simp only [List.append_eq, List.count_append, List.count_cons, List.count_nil]; omega)) ?_
   rintro _ _ ⟨m2, hm2, rfl⟩
   conv=>whnf
   refine ArithG.i64' ((j + 1 : Nat) : Int) (by omega) (by omega) ?_
   conv=>whnf
   exact ⟨us.length - (j + 1), [(4, .pointer (some ⟨b4, 0, none⟩)), (6, .pointer (some ⟨b6, 0, none⟩)), (8, .pointer (some ⟨b8, 0, none⟩)), (9, .pointer (some ⟨b9, 0, none⟩)), (10, .pointer (some ⟨b10, 0, none⟩)), (11, .pointer (some ⟨b11, 0, none⟩)), (19, .bool true), (20, .int .i64 ((j + 1 : Nat) : Int))], _, by omega, ⟨rfl, rfl, rfl, rfl, rfl, rfl, rfl, rfl, trivial⟩, Ent.drop _, j + 1, by omega, rfl, rfl, rfl⟩
  obtain rfl : j = us.length := by omega
  clear h1 hj
  rw [List.drop_length]
  conv=>whnf
  intro b21
  conv=>whnf
  refine LoadG.at (v := .func (.func 46) #[] #[.pointer (some ⟨g, 0, none⟩)]) (.tl (.tl (.tl (.right k10 (pdO []))))) ?_
  conv=>whnf
  refine ⟨by kernel_rfl, RangeG.mk al.length (rdAllD al) [] (fun i L => ∃ (v2 : Value) (ws : List PairD), ws.length = i ∧ ws.map PairD.e = (al.take i).map PairD.e ∧ SlV v2 i ∧ (∀ p ∈ ws, SlV p.v p.bs.length) ∧ L = cel b21 22 [v2] :: own 2 v2 i (pairsC ws) :: pdO ws)
   (fun _ _ => False) [cel b21 22 [.slice none 0 0], own 2 (.slice none 0 0) 0 []] C
   (fun G => all_seq2 _ g (.slice va al.length vc) al hv (by rw [hal.len]; omega) (by rw [hC]; exact .right (.left (.tl (.tl (.right cg _))) F) G) (by rw [hC]; exact .right (.left (.tl (.tl (.right cl _))) F) G) (by rw [hC]; exact fun p hp => ⟨.right (.left (.tl (.tl (.right (cv p hp).1 _))) F) G, (cv p hp).2⟩)) (fun i vs A h => by obtain ⟨_, _, _, _, rfl, _⟩ := h; rfl) ?_
   ⟨.slice none 0 0, [], rfl, rfl, .inl ⟨rfl, rfl⟩, fun p h => absurd h List.not_mem_nil, rfl⟩ ?_ ?_ (fun _ _ _ h => h.elim) (fun _ _ h => h.elim)⟩
  ·refine Ent.trans (m := own 2 (.slice none 0 0) 0 [] :: cel b21 22 [.slice none 0 0] :: C) (Ent.trans (m := cel b21 22 [.slice none 0 0] :: C) (Ent.trans (m := cel b11 22 [v1] :: own 2 v1 al.length (pairsC us) :: cel b21 22 [.slice none 0 0] :: C) (Ent.perm (by rw [show pdO [] = [] from rfl]; exact (by classical exact List.perm_iff_count.2 fun x => by simp only [List.append_eq, List.count_append, List.count_cons, List.count_nil]; omega))) ((Ent.drop _).trans (Ent.drop _))) (fun w H hs => Sat.own_nil hs)) (Ent.perm (by classical exact List.perm_iff_count.2 fun x => by simp only [List.append_eq, List.count_append, List.count_cons, List.count_nil]; omega))
  ·rintro i _ _ L1 y G hil ⟨p, x, hp, hx, rfl, rfl⟩ ⟨v', ls, hls, hmap, hv', hown, rfl⟩ _
   obtain ⟨xa, xc, hxe⟩ := hx.len
   obtain ⟨va2, vc2, hve⟩ := hv'.len
   conv=>whnf
   refine ⟨rfl, fun G' _ => ?_⟩
   conv=>whnf
   refine LoadG.at (v := v') (.tl (.here rfl)) ?_
   conv=>whnf
   refine BuildG.of (cs := [.string p.key, x]) (by rw [hxe]; rfl) ?_
   conv=>whnf
   refine BuildG.of (cs := [.string p.key, x]) rfl ?_
   conv=>whnf
   intro b
   conv=>whnf
   refine DoesG.ent (Ent.front 3 rfl) ?_
   refine app_ownW prsT 22 (m := 1) (ys := [.string p.key, x]) (.mk _ _ _ _ _ (Nat.le_refl _) (.tl (.left .all _))) rfl (by simp [Value.oneCell', hxe]) (by simp only [maxLen]; omega) (.wide (by omega)) fun v2 hv2 _ _ => ?_
   obtain ⟨wa, wc, rfl⟩ := hv2.len
   conv=>whnf
   refine StoreG.at rfl (Upd.tl (Upd.tl (Upd.tl (Upd.here (by simp) rfl)))) ?_
   conv=>whnf
   refine ⟨cel b21 22 [.slice wa (i + 1) wc] :: own 2 (.slice wa (i + 1) wc) (i + 1) (pairsC (ls ++ [⟨p.key, x, p.bs⟩])) :: pdO (ls ++ [⟨p.key, x, p.bs⟩]), ?_, _, ls ++ [⟨p.key, x, p.bs⟩], by rw [List.length_append, hls]; rfl, ?_, hv2, ?_, rfl⟩
   ·rw [pairsC_app]
    unfold pdO
    rw [List.map_append]
    refine (Ent.sel (T := ls.map fun p => own 1 p.v p.bs.length (bvs p.bs)) (A := [_, _, _, _]) [3, 0, 2] rfl).trans ?_
    exact Ent.perm (List.Perm.cons _ (List.Perm.cons _ (List.perm_append_singleton _ _).symm))
   ·rw [List.take_add_one, hp, List.map_append, List.map_append, hmap]
    rfl
   ·intro q hq
    rcases List.mem_append.1 hq with hq | hq
    ·exact hown q hq
    ·obtain rfl := List.mem_singleton.1 hq
     exact hx
  ·rintro D2 _ ⟨v2, ws, hwl, hwm, hv2, hwo, rfl⟩
   rw [List.take_of_length_le (Nat.le_refl _)] at hwm
   conv=>whnf
   refine LoadG.at (v := v2) (.tl (.here rfl)) ?_
   conv=>whnf
   refine LoadG.at (v := .slice la ld.length lc) (.tl (.right k8 (cel b21 22 [v2] :: own 2 v2 al.length (pairsC ws) :: pdO ws))) ?_
   conv=>whnf
   refine CallG.of (pre := []) (rest := own 2 v2 al.length (pairsC ws) :: (pdO ws ++ (dfr D2 :: C))) (pairs_same _ v2 (.slice la ld.length lc) ws ld (by omega) (hwm.trans e1) ?_ ?_ ?_ ?_) (Ent.trans (m := cel b21 22 [v2] :: own 2 v2 al.length (pairsC ws) :: (pdO ws ++ (dfr D2 :: C))) (Ent.perm (l := dfr D2 :: ((cel b21 22 [v2] :: own 2 v2 al.length (pairsC ws) :: pdO ws) ++ C)) (by classical exact List.perm_iff_count.2 fun x => by simp only [List.append_eq, List.count_append, List.count_cons, List.count_nil]; omega)) (Ent.drop _)) ?_
   ·rw [hwl]
    exact .left (own_rd hv2 (by rw [pairsC_len, hwl])) F
   ·exact .left (.tl (.right (.tl kd.1) _)) F
   ·exact fun d hd => .left (.tl (pdO_rd hd (hwo d hd))) F
   ·exact fun d hd => .left (.tl (.right (.tl (kd.2 d hd)) _)) F
   rintro _ _ ⟨rfl, rfl⟩
   conv=>whnf
   obtain ⟨V, hV⟩ : ∃ V, V = dfr D2 :: dfr D1 :: (c1.pieces 89 124 144 t ++ R) := ⟨_, rfl⟩
   have u8 : Cel V b8 0 (.slice la ld.length lc) := by rw [hV]; exact .tl (.tl (.right c8 _))
   have u9 : Cel V b9 0 (.pointer (some ⟨t, 0, none⟩)) := by rw [hV]; exact .tl (.tl (.right c9 _))
   have u4 : Cel V b4 0 (.slice ma ms.length mc) := by rw [hV]; exact .tl (.tl (.right c4 _))
   have ud : RdS V (.slice la ld.length lc) ld.length (pairsC ld) ∧ PdRd V ld := by rw [hV]; exact ⟨.tl (.tl (.right cd.1 _)), fun d hd => .tl (.tl (.right (cd.2 d hd) _))⟩
   refine LoadG.at (v := .func (.func 46) #[] #[.pointer (some ⟨g, 0, none⟩)]) (.tl (.right (.tl k10) (pdO ws))) ?_
   conv=>whnf
   refine ⟨by kernel_rfl, RangeG.mk al.length (rdAllD al) [] (fun i L => i = 0 ∧ L = [cel b6 4 [.bool false]]) (fun id L => id = some 10 ∧ L = [cel b6 4 [.bool false]]) [cel b6 4 [.bool false]] V
    (fun G => all_seq2 _ g (.slice va al.length vc) al hv (by rw [hal.len]; omega) (by rw [hV]; exact .right (.left (.tl (.tl (.right cg _))) F) G) (by rw [hV]; exact .right (.left (.tl (.tl (.right cl _))) F) G) (by rw [hV]; exact fun p hp => ⟨.right (.left (.tl (.tl (.right (cv p hp).1 _))) F) G, (cv p hp).2⟩)) (fun i vs A h => by obtain ⟨_, _, _, _, rfl, _⟩ := h; rfl) ?_
    ⟨rfl, rfl⟩ ?_ ?_ ?_ (fun _ _ h => by cases h.1)⟩
   ·rw [hV, hC]
    exact (Ent.drop _).trans (Ent.trans (m := (cel b6 4 [.bool false] :: dfr D2 :: dfr D1 :: (c1.pieces 89 124 144 t ++ R)) ++ pdO ws) (Ent.perm (by classical exact List.perm_iff_count.2 fun x => by simp only [List.append_eq, List.count_append, List.count_cons, List.count_nil]; omega)) (Ent.dropL _ _))
   ·rintro i _ _ L1 y G hil ⟨p, x, hp, hx, rfl, rfl⟩ ⟨rfl, rfl⟩ _
    obtain ⟨f, hf, hfk, hfb⟩ := hk2 0 p hp
    obtain ⟨f0, f1⟩ := pairsC_get hf
    rw [hfk] at f0
    have hfm := List.mem_of_getElem? hf
    have e9 : (!decide (p.key = p.key)) = false := by simp
    have es : decide (strB p.bs = strB f.bs) = true := by rw [hfb]; simp
    conv=>whnf
    refine ⟨rfl, fun G' _ => ?_⟩
    have w8 : Cel (G' ++ (V ++ F)) b8 0 (.slice la ld.length lc) := .right (.left u8 F) G'
    have wd : RdS (G' ++ (V ++ F)) (.slice la ld.length lc) ld.length (pairsC ld) ∧ PdRd (G' ++ (V ++ F)) ld := ⟨.right (.left ud.1 F) G', fun d hd => .right (.left (ud.2 d hd) F) G'⟩
    conv=>whnf
    refine LoadG.atF w8 ?_
    conv=>whnf
    refine LenG.lit ?_
    conv=>whnf
    refine CondG.dec (fun h9 => absurd h9 (by omega)) (fun h9 => ?_)
    (conv=>whnf);refine .ff ?_;(conv=>whnf)
    refine LoadG.atF w8 ?_
    (conv=>whnf);refine .ff ?_;(conv=>whnf)
    refine IdxG.rd wd.1 (by omega) fun cb o hcc => ?_
    (conv=>whnf);refine .ff ?_;(conv=>whnf);refine .ff ?_;(conv=>whnf)
    refine LoadG.atF (hcc.one (i := ((0 : Nat) : Int).toNat * 2) (u := .string p.key) f0) ?_
    clear hcc
    (conv=>whnf);refine .ff ?_;(conv=>whnf);refine .ff ?_;(conv=>whnf)
    rw [e9]
    (conv=>whnf);refine .ff ?_;(conv=>whnf);refine .ff ?_;(conv=>whnf)
    refine LoadG.atF w8 ?_
    (conv=>whnf);refine .ff ?_;(conv=>whnf)
    refine IdxG.rd wd.1 (by omega) fun cb o hcc => ?_
    (conv=>whnf);refine .ff ?_;(conv=>whnf);refine .ff ?_;(conv=>whnf)
    refine LoadG.atF (hcc.one (i := ((0 : Nat) : Int).toNat * 2 + 1) (u := f.v) f1) ?_
    clear hcc
    (conv=>whnf);refine .ff ?_;(conv=>whnf)
    refine CallG.pure (bytes_same7 _ x f.v p.bs f.bs (.left (own_rd hx (by rw [bvs_len, Nat.mul_one])) _) (.right (wd.2 f hfm) _)) ?_
    rintro _ _ ⟨rfl, rfl⟩
    rw [es]
    (conv=>whnf);repeat((with_reducible first|refine .ff ?_|refine .nff ?_);conv=>whnf)
    exact ⟨[cel b6 4 [.bool false]], Ent.drop _, rfl, rfl⟩
   ·rintro D3 L3 ⟨hz, rfl⟩
    conv=>whnf
    refine LoadG.at (v := .slice la ld.length lc) (.tl (.tl u8)) ?_
    conv=>whnf
    refine LoadG.at (v := .slice la ld.length lc) (.tl (.tl u8)) ?_
    conv=>whnf
    refine LenG.lit ?_
    conv=>whnf
    obtain ⟨RD, hRD⟩ : ∃ RD, RD = R ++ [dfr D3, dfr D2, dfr D1] := ⟨_, rfl⟩
    have d4 : Cel RD b4 0 (.slice ma ms.length mc) := by rw [hRD]; exact .left c4 _
    have d9 : Cel RD b9 0 (.pointer (some ⟨t, 0, none⟩)) := by rw [hRD]; exact .left c9 _
    have dd : RdS RD (.slice la ld.length lc) ld.length (pairsC ld) ∧ PdRd RD ld := by rw [hRD]; exact ⟨.left cd.1 _, fun d hd => .left (cd.2 d hd) _⟩
    have h0A : AllD c.cont (ld.map PairD.e) := by rw [hcc]; exact hAd
    refine CondG.dec (fun h9 => ?_) (fun h9 => ?_)
    ·rw [if_neg (by omega)] at hc1
     conv=>whnf
     refine LoopG.mk (fun mm e L => ∃ (j : Nat) (nv : Value) (now : List PairD) (E : List HP), j ≤ m3.length ∧ mm = m3.length - j ∧ SlV nv now.length ∧ (∀ p ∈ now, SlV p.v p.bs.length) ∧ RdS (E ++ RD) nv now.length (pairsC now) ∧ PdRd (E ++ RD) now ∧ AllD (putsC c.cont (m3.take j)) (now.map PairD.e) ∧ now.length ≤ ld.length + j ∧
      e = [(4, .pointer (some ⟨b4, 0, none⟩)), (6, .pointer (some ⟨b6, 0, none⟩)), (9, .pointer (some ⟨b9, 0, none⟩)), (19, .bool true), (24, .bool true), (27, nv), (28, .int .i64 j)] ∧ L = cel b6 4 [.bool false] :: (c1.pieces 89 124 144 t ++ (E ++ RD))) m3.length
      [(4, .pointer (some ⟨b4, 0, none⟩)), (6, .pointer (some ⟨b6, 0, none⟩)), (9, .pointer (some ⟨b9, 0, none⟩)), (19, .bool true), (24, .bool true), (27, .slice la ld.length lc), (28, .int .i64 0)] (cel b6 4 [.bool false] :: (c1.pieces 89 124 144 t ++ RD)) ⟨rfl, rfl, rfl, rfl, rfl, rfl, rfl, trivial⟩ (by rw [hV, hRD]; exact Ent.perm (l := dfr D3 :: cel b6 4 [.bool false] :: dfr D2 :: dfr D1 :: (c1.pieces 89 124 144 t ++ R)) (by classical exact List.perm_iff_count.2 fun x => by simp only [List.append_eq, List.count_append, List.count_cons, List.count_nil]; omega))
      ⟨0, .slice la ld.length lc, ld, [], by omega, rfl, hd.sl, fun p hp => hd.own p (hd.sub p hp), by rw [hRD]; exact .left cd.1 _, by rw [hRD]; exact fun d hd => .left (cd.2 d hd) _, h0A, Nat.le_refl _, rfl, rfl⟩ ?_
     rintro mm e L ⟨j, nv, now, E, hj, rfl, hnv, hno, hnr, hnd, hnA, hnl, rfl, rfl⟩
     have go : j < m3.length → ∃ q, m3[j]? = some q ∧ ms[j]? = some q := fun h => by
      have h4 : m3[j]? = ms[j]? := by rw [hm3, List.getElem?_take, if_pos (by omega)]
      exact ⟨m3[j], List.getElem?_eq_getElem h, by rw [← h4]; exact List.getElem?_eq_getElem h⟩
     have f4 : Cel (cel b6 4 [.bool false] :: (c1.pieces 89 124 144 t ++ (E ++ RD))) b4 0 (.slice ma ms.length mc) := .tl (.right (.right d4 E) _)
     conv=>whnf
     refine LoadG.at (v := .slice ma ms.length mc) f4 ?_
     conv=>whnf
     refine LenG.lit ?_
     conv=>whnf
     refine CondG.dec (fun h1 => ?_) (fun h1 => ?_)
     ·(conv=>whnf);refine .tt ?_;(conv=>whnf);refine .tt ?_;(conv=>whnf)
      refine CondG.dec (fun h2 => ?_) (fun h2 => ?_)
      ·obtain ⟨q, hq3, hq⟩ := go (by omega)
       obtain ⟨q0, q1⟩ := pairsC_get hq
       obtain ⟨hqr, hqb⟩ := hmok q (List.mem_of_getElem? hq)
       conv=>whnf
       refine DrawG.mk 17 (cel b6 4 [.bool false] :: (c1.pieces 89 124 144 t ++ (E ++ RD))) [] (Ent.refl _) ?_
       conv=>whnf
       refine .take 0 ?_
       conv=>whnf
       refine ⟨rfl, ?_⟩
       conv=>whnf
       refine .take 1 ?_
       conv=>whnf
       refine ⟨rfl, ?_⟩
       conv=>whnf
       refine LoadG.at (v := .slice ma ms.length mc) f4 ?_
       conv=>whnf
       refine .take 2 ?_
       conv=>whnf
       refine ⟨rfl, ?_⟩
       conv=>whnf
       refine .take 3 ?_
       conv=>whnf
       refine ⟨rfl, ?_⟩
       conv=>whnf
       refine IdxG.rd hmr (by omega) fun cb o hcc => ?_
       conv=>whnf
       refine .take 4 ?_
       conv=>whnf
       refine ⟨rfl, ?_⟩
       conv=>whnf
       refine .take 5 ?_
       conv=>whnf
       refine ⟨rfl, ?_⟩
       conv=>whnf
       refine LoadG.atF (hcc.one (i := ((j : Nat) : Int).toNat * 2) (u := (.string q.key)) (by rw [Int.toNat_natCast]; exact q0)) ?_
       clear hcc
       conv=>whnf
       refine .take 6 ?_
       conv=>whnf
       refine ⟨rfl, ?_⟩
       conv=>whnf
       refine LoadG.at (v := .slice ma ms.length mc) f4 ?_
       conv=>whnf
       refine .take 7 ?_
       conv=>whnf
       refine ⟨rfl, ?_⟩
       conv=>whnf
       refine .take 8 ?_
       conv=>whnf
       refine ⟨rfl, ?_⟩
       conv=>whnf
       refine IdxG.rd hmr (by omega) fun cb o hcc => ?_
       conv=>whnf
       refine .take 9 ?_
       conv=>whnf
       refine ⟨rfl, ?_⟩
       conv=>whnf
       refine .take 10 ?_
       conv=>whnf
       refine ⟨rfl, ?_⟩
       conv=>whnf
       refine LoadG.atF (hcc.one (i := ((j : Nat) : Int).toNat * 2 + 1) (u := q.v) (by rw [Int.toNat_natCast]; exact q1)) ?_
       clear hcc
       conv=>whnf
       refine .all ?_
       conv=>whnf
       refine ⟨by decide, ?_⟩
       conv=>whnf
       refine CallG.pure (put7_spec _ nv now (.right (.left (.tl (.right hnr _)) F) _) q.key q.v q.bs (.right (.right hqr _) _) (by omega) hno) ?_
       rintro _ _ (⟨hm, rfl, rfl⟩ | ⟨hm, x, ov, out, hx, hov, ho, rfl, rfl⟩)
       ·conv=>whnf
        refine .take 12 ?_
        conv=>whnf
        refine ⟨rfl, ?_⟩
        conv=>whnf
        refine .take 13 ?_
        conv=>whnf
        refine ⟨rfl, ?_⟩
        conv=>whnf
        refine .take 14 ?_
        conv=>whnf
        refine ⟨rfl, ?_⟩
        conv=>whnf
        refine .take 15 ?_
        conv=>whnf
        refine ⟨rfl, ?_⟩
        conv=>whnf
        refine .take 16 ?_
        conv=>whnf
        refine ⟨rfl, ?_⟩
        conv=>whnf
        refine ⟨rfl, ?_⟩
        conv=>whnf
        refine ArithG.i64' ((j + 1 : Nat) : Int) (by omega) (by omega) ?_
        conv=>whnf
        refine ⟨m3.length - (j + 1), [(4, .pointer (some ⟨b4, 0, none⟩)), (6, .pointer (some ⟨b6, 0, none⟩)), (9, .pointer (some ⟨b9, 0, none⟩)), (19, .bool true), (24, .bool true), (27, nv), (28, .int .i64 ((j + 1 : Nat) : Int))], cel b6 4 [.bool false] :: (c1.pieces 89 124 144 t ++ (E ++ RD)), by omega, ⟨rfl, rfl, rfl, rfl, rfl, rfl, rfl, trivial⟩, Ent.refl _, j + 1, nv, now, E, by omega, rfl, hnv, hno, hnr, hnd, ?_, by omega, rfl, rfl⟩
        rw [putsC_step hq3, putC, if_neg hm]
        exact hnA
       ·have he9 : out.map PairD.e = putP q.key q.bs (now.map PairD.e) := by rw [ho]; exact putP_map q.key x q.bs now
        have hol : out.length ≤ now.length + 1 := by
         have h1 := putP_len q.key q.bs (now.map PairD.e)
         rw [← he9, List.length_map, List.length_map] at h1
         exact h1
        have hmem : ∀ p ∈ out, p = ⟨q.key, x, q.bs⟩ ∨ p ∈ now := fun p hp => by
         rw [ho] at hp
         rcases withL_mem PairD.key (List.mem_filter.1 hp).1 with h3 | ⟨h3, _⟩
         ·exact .inl h3
         ·exact .inr h3
        conv=>whnf
        refine .take 12 ?_
        conv=>whnf
        refine ⟨rfl, ?_⟩
        conv=>whnf
        refine .take 13 ?_
        conv=>whnf
        refine ⟨rfl, ?_⟩
        conv=>whnf
        refine .take 14 ?_
        conv=>whnf
        refine ⟨rfl, ?_⟩
        conv=>whnf
        refine .take 15 ?_
        conv=>whnf
        refine ⟨rfl, ?_⟩
        conv=>whnf
        refine .take 16 ?_
        conv=>whnf
        refine ⟨rfl, ?_⟩
        conv=>whnf
        refine ⟨rfl, ?_⟩
        conv=>whnf
        refine ArithG.i64' ((j + 1 : Nat) : Int) (by omega) (by omega) ?_
        conv=>whnf
        refine ⟨m3.length - (j + 1), [(4, .pointer (some ⟨b4, 0, none⟩)), (6, .pointer (some ⟨b6, 0, none⟩)), (9, .pointer (some ⟨b9, 0, none⟩)), (19, .bool true), (24, .bool true), (27, ov), (28, .int .i64 ((j + 1 : Nat) : Int))], cel b6 4 [.bool false] :: (c1.pieces 89 124 144 t ++ ((own 2 ov out.length (pairsC out) :: own 1 x q.bs.length (bvs q.bs) :: E) ++ RD)), by omega, ⟨rfl, rfl, rfl, rfl, rfl, rfl, rfl, trivial⟩, Ent.perm (by classical exact List.perm_iff_count.2 fun x => by simp only [List.append_eq, List.count_append, List.count_cons, List.count_nil]; omega), j + 1, ov, out, own 2 ov out.length (pairsC out) :: own 1 x q.bs.length (bvs q.bs) :: E, by omega, rfl, hov, fun p hp => ?_, own_rd hov (pairsC_len out), fun p hp => ?_, ?_, by omega, rfl, rfl⟩
        ·rcases hmem p hp with rfl | h3
         ·exact hx
         ·exact hno p h3
        ·rcases hmem p hp with rfl | h3
         ·exact .tl (own_rd hx (by rw [bvs_len, Nat.mul_one]))
         ·exact .tl (.tl (hnd p h3))
        ·rw [putsC_step hq3, he9]
         exact hnA.put hm
      ·obtain rfl : j = m3.length := by omega
       rw [List.take_of_length_le (Nat.le_refl _)] at hnA
       (conv=>whnf);refine .tt ?_;(conv=>whnf);refine .tt ?_;(conv=>whnf);refine .tt ?_;(conv=>whnf)
       refine LoadG.at (v := .pointer (some ⟨t, 0, none⟩)) (.tl (.right (.right d9 E) _)) ?_
       (conv=>whnf);refine .tt ?_;(conv=>whnf);refine .tt ?_;(conv=>whnf)
       refine CallG.of (pre := c1.pieces 89 124 144 t) (rest := cel b6 4 [.bool false] :: (E ++ RD)) ((is_spec _ t c1 hg1 (by omega) nv now (.left (.tl hnr) F) (fun d hd => .left (.tl (hnd d hd)) F) (by rw [hc1]; exact hnA)).turn (R' := fun r L => r = .bool true ∧ L = []) fun r L h => ⟨[], ⟨h.1, rfl⟩, Ent.nil _⟩) (Ent.perm (by classical exact List.perm_iff_count.2 fun x => by simp only [List.append_eq, List.count_append, List.count_cons, List.count_nil]; omega)) ?_
       rintro _ _ ⟨rfl, rfl⟩
       (conv=>whnf);refine .tt ?_;(conv=>whnf)
       refine StoreG.at rfl (Upd.whole (vs := [.bool true]) rfl (by simp [Value.oneCell'])) ?_
       conv=>whnf
       refine ⟨cel b6 4 [.bool true] :: (E ++ R), Ent.perm (m := [dfr D3, dfr D2, dfr D1] ++ (cel b6 4 [.bool true] :: (E ++ R))) (by rw [hRD]; exact (by classical exact List.perm_iff_count.2 fun x => by simp only [List.append_eq, List.count_append, List.count_cons, List.count_nil]; omega)), ?_⟩
       conv=>whnf
       refine LoadG.at (v := .bool true) (.here rfl) ?_
       conv=>whnf
       exact ⟨[], Ent.nil _, rfl⟩
     ·obtain rfl : j = m3.length := by omega
      rw [List.take_of_length_le (Nat.le_refl _)] at hnA
      (conv=>whnf);repeat((with_reducible first|refine .tt ?_|refine .ff ?_);conv=>whnf)
      refine LoadG.at (v := .pointer (some ⟨t, 0, none⟩)) (.tl (.right (.right d9 E) _)) ?_
      (conv=>whnf);refine .tt ?_;(conv=>whnf);refine .tt ?_;(conv=>whnf)
      refine CallG.of (pre := c1.pieces 89 124 144 t) (rest := cel b6 4 [.bool false] :: (E ++ RD)) ((is_spec _ t c1 hg1 (by omega) nv now (.left (.tl hnr) F) (fun d hd => .left (.tl (hnd d hd)) F) (by rw [hc1]; exact hnA)).turn (R' := fun r L => r = .bool true ∧ L = []) fun r L h => ⟨[], ⟨h.1, rfl⟩, Ent.nil _⟩) (Ent.perm (by classical exact List.perm_iff_count.2 fun x => by simp only [List.append_eq, List.count_append, List.count_cons, List.count_nil]; omega)) ?_
      rintro _ _ ⟨rfl, rfl⟩
      (conv=>whnf);refine .tt ?_;(conv=>whnf)
      refine StoreG.at rfl (Upd.whole (vs := [.bool true]) rfl (by simp [Value.oneCell'])) ?_
      conv=>whnf
      refine ⟨cel b6 4 [.bool true] :: (E ++ R), Ent.perm (m := [dfr D3, dfr D2, dfr D1] ++ (cel b6 4 [.bool true] :: (E ++ R))) (by rw [hRD]; exact (by classical exact List.perm_iff_count.2 fun x => by simp only [List.append_eq, List.count_append, List.count_cons, List.count_nil]; omega)), ?_⟩
      conv=>whnf
      refine LoadG.at (v := .bool true) (.here rfl) ?_
      conv=>whnf
      exact ⟨[], Ent.nil _, rfl⟩
    ·rw [if_pos (by omega)] at hc1
     (conv=>whnf);refine .tt ?_;(conv=>whnf);refine .tt ?_;(conv=>whnf);refine .tt ?_;(conv=>whnf)
     refine LoadG.at (v := .pointer (some ⟨t, 0, none⟩)) (.tl (.tl u9)) ?_
     (conv=>whnf);refine .tt ?_;(conv=>whnf);refine .tt ?_;(conv=>whnf)
     refine CallG.of (pre := c1.pieces 89 124 144 t) (rest := cel b6 4 [.bool false] :: ([] ++ RD)) ((is_spec _ t c1 hg1 (by omega) (.slice la ld.length lc) ld (.left (.tl dd.1) F) (fun d hd => .left (.tl (dd.2 d hd)) F) (by rw [hc1]; exact h0A)).turn (R' := fun r L => r = .bool true ∧ L = []) fun r L h => ⟨[], ⟨h.1, rfl⟩, Ent.nil _⟩) (by rw [hV, hRD]; exact Ent.perm (l := dfr D3 :: cel b6 4 [.bool false] :: dfr D2 :: dfr D1 :: (c1.pieces 89 124 144 t ++ R)) (by classical exact List.perm_iff_count.2 fun x => by simp only [List.append_eq, List.count_append, List.count_cons, List.count_nil]; omega)) ?_
     rintro _ _ ⟨rfl, rfl⟩
     (conv=>whnf);refine .tt ?_;(conv=>whnf)
     refine StoreG.at rfl (Upd.whole (vs := [.bool true]) rfl (by simp [Value.oneCell'])) ?_
     conv=>whnf
     refine ⟨cel b6 4 [.bool true] :: ([] ++ R), Ent.perm (m := [dfr D3, dfr D2, dfr D1] ++ (cel b6 4 [.bool true] :: ([] ++ R))) (by rw [hRD]; exact (by classical exact List.perm_iff_count.2 fun x => by simp only [List.append_eq, List.count_append, List.count_cons, List.count_nil]; omega)), ?_⟩
     conv=>whnf
     refine LoadG.at (v := .bool true) (.here rfl) ?_
     conv=>whnf
     exact ⟨[], Ent.nil _, rfl⟩
   ·rintro D3 id L3 ⟨hid, rfl⟩
    cases hid
    conv=>whnf
    refine LoadG.at (v := .slice la ld.length lc) (.tl (.tl u8)) ?_
    conv=>whnf
    refine LoadG.at (v := .slice la ld.length lc) (.tl (.tl u8)) ?_
    conv=>whnf
    refine LenG.lit ?_
    conv=>whnf
    obtain ⟨RD, hRD⟩ : ∃ RD, RD = R ++ [dfr D3, dfr D2, dfr D1] := ⟨_, rfl⟩
    have d4 : Cel RD b4 0 (.slice ma ms.length mc) := by rw [hRD]; exact .left c4 _
    have d9 : Cel RD b9 0 (.pointer (some ⟨t, 0, none⟩)) := by rw [hRD]; exact .left c9 _
    have dd : RdS RD (.slice la ld.length lc) ld.length (pairsC ld) ∧ PdRd RD ld := by rw [hRD]; exact ⟨.left cd.1 _, fun d hd => .left (cd.2 d hd) _⟩
    have h0A : AllD c.cont (ld.map PairD.e) := by rw [hcc]; exact hAd
    refine CondG.dec (fun h9 => ?_) (fun h9 => ?_)
    ·rw [if_neg (by omega)] at hc1
     conv=>whnf
     refine LoopG.mk (fun mm e L => ∃ (j : Nat) (nv : Value) (now : List PairD) (E : List HP), j ≤ m3.length ∧ mm = m3.length - j ∧ SlV nv now.length ∧ (∀ p ∈ now, SlV p.v p.bs.length) ∧ RdS (E ++ RD) nv now.length (pairsC now) ∧ PdRd (E ++ RD) now ∧ AllD (putsC c.cont (m3.take j)) (now.map PairD.e) ∧ now.length ≤ ld.length + j ∧
      e = [(4, .pointer (some ⟨b4, 0, none⟩)), (6, .pointer (some ⟨b6, 0, none⟩)), (9, .pointer (some ⟨b9, 0, none⟩)), (19, .bool true), (24, .bool true), (27, nv), (28, .int .i64 j)] ∧ L = cel b6 4 [.bool false] :: (c1.pieces 89 124 144 t ++ (E ++ RD))) m3.length
      [(4, .pointer (some ⟨b4, 0, none⟩)), (6, .pointer (some ⟨b6, 0, none⟩)), (9, .pointer (some ⟨b9, 0, none⟩)), (19, .bool true), (24, .bool true), (27, .slice la ld.length lc), (28, .int .i64 0)] (cel b6 4 [.bool false] :: (c1.pieces 89 124 144 t ++ RD)) ⟨rfl, rfl, rfl, rfl, rfl, rfl, rfl, trivial⟩ (by rw [hV, hRD]; exact Ent.perm (l := dfr D3 :: cel b6 4 [.bool false] :: dfr D2 :: dfr D1 :: (c1.pieces 89 124 144 t ++ R)) (by classical exact List.perm_iff_count.2 fun x => by simp only [List.append_eq, List.count_append, List.count_cons, List.count_nil]; omega))
      ⟨0, .slice la ld.length lc, ld, [], by omega, rfl, hd.sl, fun p hp => hd.own p (hd.sub p hp), by rw [hRD]; exact .left cd.1 _, by rw [hRD]; exact fun d hd => .left (cd.2 d hd) _, h0A, Nat.le_refl _, rfl, rfl⟩ ?_
     rintro mm e L ⟨j, nv, now, E, hj, rfl, hnv, hno, hnr, hnd, hnA, hnl, rfl, rfl⟩
     have go : j < m3.length → ∃ q, m3[j]? = some q ∧ ms[j]? = some q := fun h => by
      have h4 : m3[j]? = ms[j]? := by rw [hm3, List.getElem?_take, if_pos (by omega)]
      exact ⟨m3[j], List.getElem?_eq_getElem h, by rw [← h4]; exact List.getElem?_eq_getElem h⟩
     have f4 : Cel (cel b6 4 [.bool false] :: (c1.pieces 89 124 144 t ++ (E ++ RD))) b4 0 (.slice ma ms.length mc) := .tl (.right (.right d4 E) _)
     conv=>whnf
     refine LoadG.at (v := .slice ma ms.length mc) f4 ?_
     conv=>whnf
     refine LenG.lit ?_
     conv=>whnf
     refine CondG.dec (fun h1 => ?_) (fun h1 => ?_)
     ·(conv=>whnf);refine .tt ?_;(conv=>whnf);refine .tt ?_;(conv=>whnf)
      refine CondG.dec (fun h2 => ?_) (fun h2 => ?_)
      ·obtain ⟨q, hq3, hq⟩ := go (by omega)
       obtain ⟨q0, q1⟩ := pairsC_get hq
       obtain ⟨hqr, hqb⟩ := hmok q (List.mem_of_getElem? hq)
       conv=>whnf
       refine DrawG.mk 17 (cel b6 4 [.bool false] :: (c1.pieces 89 124 144 t ++ (E ++ RD))) [] (Ent.refl _) ?_
       conv=>whnf
       refine .take 0 ?_
       conv=>whnf
       refine ⟨rfl, ?_⟩
       conv=>whnf
       refine .take 1 ?_
       conv=>whnf
       refine ⟨rfl, ?_⟩
       conv=>whnf
       refine LoadG.at (v := .slice ma ms.length mc) f4 ?_
       conv=>whnf
       refine .take 2 ?_
       conv=>whnf
       refine ⟨rfl, ?_⟩
       conv=>whnf
       refine .take 3 ?_
       conv=>whnf
       refine ⟨rfl, ?_⟩
       conv=>whnf
       refine IdxG.rd hmr (by omega) fun cb o hcc => ?_
       conv=>whnf
       refine .take 4 ?_
       conv=>whnf
       refine ⟨rfl, ?_⟩
       conv=>whnf
       refine .take 5 ?_
       conv=>whnf
       refine ⟨rfl, ?_⟩
       conv=>whnf
       refine LoadG.atF (hcc.one (i := ((j : Nat) : Int).toNat * 2) (u := (.string q.key)) (by rw [Int.toNat_natCast]; exact q0)) ?_
       clear hcc
       conv=>whnf
       refine .take 6 ?_
       conv=>whnf
       refine ⟨rfl, ?_⟩
       conv=>whnf
       refine LoadG.at (v := .slice ma ms.length mc) f4 ?_
       conv=>whnf
       refine .take 7 ?_
       conv=>whnf
       refine ⟨rfl, ?_⟩
       conv=>whnf
       refine .take 8 ?_
       conv=>whnf
       refine ⟨rfl, ?_⟩
       conv=>whnf
       refine IdxG.rd hmr (by omega) fun cb o hcc => ?_
       conv=>whnf
       refine .take 9 ?_
       conv=>whnf
       refine ⟨rfl, ?_⟩
       conv=>whnf
       refine .take 10 ?_
       conv=>whnf
       refine ⟨rfl, ?_⟩
       conv=>whnf
       refine LoadG.atF (hcc.one (i := ((j : Nat) : Int).toNat * 2 + 1) (u := q.v) (by rw [Int.toNat_natCast]; exact q1)) ?_
       clear hcc
       conv=>whnf
       refine .all ?_
       conv=>whnf
       refine ⟨by decide, ?_⟩
       conv=>whnf
       refine CallG.pure (put7_spec _ nv now (.right (.left (.tl (.right hnr _)) F) _) q.key q.v q.bs (.right (.right hqr _) _) (by omega) hno) ?_
       rintro _ _ (⟨hm, rfl, rfl⟩ | ⟨hm, x, ov, out, hx, hov, ho, rfl, rfl⟩)
       ·conv=>whnf
        refine .take 12 ?_
        conv=>whnf
        refine ⟨rfl, ?_⟩
        conv=>whnf
        refine .take 13 ?_
        conv=>whnf
        refine ⟨rfl, ?_⟩
        conv=>whnf
        refine .take 14 ?_
        conv=>whnf
        refine ⟨rfl, ?_⟩
        conv=>whnf
        refine .take 15 ?_
        conv=>whnf
        refine ⟨rfl, ?_⟩
        conv=>whnf
        refine .take 16 ?_
        conv=>whnf
        refine ⟨rfl, ?_⟩
        conv=>whnf
        refine ⟨rfl, ?_⟩
        conv=>whnf
        refine ArithG.i64' ((j + 1 : Nat) : Int) (by omega) (by omega) ?_
        conv=>whnf
        refine ⟨m3.length - (j + 1), [(4, .pointer (some ⟨b4, 0, none⟩)), (6, .pointer (some ⟨b6, 0, none⟩)), (9, .pointer (some ⟨b9, 0, none⟩)), (19, .bool true), (24, .bool true), (27, nv), (28, .int .i64 ((j + 1 : Nat) : Int))], cel b6 4 [.bool false] :: (c1.pieces 89 124 144 t ++ (E ++ RD)), by omega, ⟨rfl, rfl, rfl, rfl, rfl, rfl, rfl, trivial⟩, Ent.refl _, j + 1, nv, now, E, by omega, rfl, hnv, hno, hnr, hnd, ?_, by omega, rfl, rfl⟩
        rw [putsC_step hq3, putC, if_neg hm]
        exact hnA
       ·have he9 : out.map PairD.e = putP q.key q.bs (now.map PairD.e) := by rw [ho]; exact putP_map q.key x q.bs now
        have hol : out.length ≤ now.length + 1 := by
         have h1 := putP_len q.key q.bs (now.map PairD.e)
         rw [← he9, List.length_map, List.length_map] at h1
         exact h1
        have hmem : ∀ p ∈ out, p = ⟨q.key, x, q.bs⟩ ∨ p ∈ now := fun p hp => by
         rw [ho] at hp
         rcases withL_mem PairD.key (List.mem_filter.1 hp).1 with h3 | ⟨h3, _⟩
         ·exact .inl h3
         ·exact .inr h3
        conv=>whnf
        refine .take 12 ?_
        conv=>whnf
        refine ⟨rfl, ?_⟩
        conv=>whnf
        refine .take 13 ?_
        conv=>whnf
        refine ⟨rfl, ?_⟩
        conv=>whnf
        refine .take 14 ?_
        conv=>whnf
        refine ⟨rfl, ?_⟩
        conv=>whnf
        refine .take 15 ?_
        conv=>whnf
        refine ⟨rfl, ?_⟩
        conv=>whnf
        refine .take 16 ?_
        conv=>whnf
        refine ⟨rfl, ?_⟩
        conv=>whnf
        refine ⟨rfl, ?_⟩
        conv=>whnf
        refine ArithG.i64' ((j + 1 : Nat) : Int) (by omega) (by omega) ?_
        conv=>whnf
        refine ⟨m3.length - (j + 1), [(4, .pointer (some ⟨b4, 0, none⟩)), (6, .pointer (some ⟨b6, 0, none⟩)), (9, .pointer (some ⟨b9, 0, none⟩)), (19, .bool true), (24, .bool true), (27, ov), (28, .int .i64 ((j + 1 : Nat) : Int))], cel b6 4 [.bool false] :: (c1.pieces 89 124 144 t ++ ((own 2 ov out.length (pairsC out) :: own 1 x q.bs.length (bvs q.bs) :: E) ++ RD)), by omega, ⟨rfl, rfl, rfl, rfl, rfl, rfl, rfl, trivial⟩, Ent.perm (by classical exact List.perm_iff_count.2 fun x => by simp only [List.append_eq, List.count_append, List.count_cons, List.count_nil]; omega), j + 1, ov, out, own 2 ov out.length (pairsC out) :: own 1 x q.bs.length (bvs q.bs) :: E, by omega, rfl, hov, fun p hp => ?_, own_rd hov (pairsC_len out), fun p hp => ?_, ?_, by omega, rfl, rfl⟩
        ·rcases hmem p hp with rfl | h3
         ·exact hx
         ·exact hno p h3
        ·rcases hmem p hp with rfl | h3
         ·exact .tl (own_rd hx (by rw [bvs_len, Nat.mul_one]))
         ·exact .tl (.tl (hnd p h3))
        ·rw [putsC_step hq3, he9]
         exact hnA.put hm
      ·obtain rfl : j = m3.length := by omega
       rw [List.take_of_length_le (Nat.le_refl _)] at hnA
       (conv=>whnf);refine .tt ?_;(conv=>whnf);refine .tt ?_;(conv=>whnf);refine .tt ?_;(conv=>whnf)
       refine LoadG.at (v := .pointer (some ⟨t, 0, none⟩)) (.tl (.right (.right d9 E) _)) ?_
       (conv=>whnf);refine .tt ?_;(conv=>whnf);refine .tt ?_;(conv=>whnf)
       refine CallG.of (pre := c1.pieces 89 124 144 t) (rest := cel b6 4 [.bool false] :: (E ++ RD)) ((is_spec _ t c1 hg1 (by omega) nv now (.left (.tl hnr) F) (fun d hd => .left (.tl (hnd d hd)) F) (by rw [hc1]; exact hnA)).turn (R' := fun r L => r = .bool true ∧ L = []) fun r L h => ⟨[], ⟨h.1, rfl⟩, Ent.nil _⟩) (Ent.perm (by classical exact List.perm_iff_count.2 fun x => by simp only [List.append_eq, List.count_append, List.count_cons, List.count_nil]; omega)) ?_
       rintro _ _ ⟨rfl, rfl⟩
       (conv=>whnf);refine .tt ?_;(conv=>whnf)
       refine StoreG.at rfl (Upd.whole (vs := [.bool true]) rfl (by simp [Value.oneCell'])) ?_
       conv=>whnf
       refine ⟨cel b6 4 [.bool true] :: (E ++ R), Ent.perm (m := [dfr D3, dfr D2, dfr D1] ++ (cel b6 4 [.bool true] :: (E ++ R))) (by rw [hRD]; exact (by classical exact List.perm_iff_count.2 fun x => by simp only [List.append_eq, List.count_append, List.count_cons, List.count_nil]; omega)), ?_⟩
       conv=>whnf
       refine LoadG.at (v := .bool true) (.here rfl) ?_
       conv=>whnf
       exact ⟨[], Ent.nil _, rfl⟩
     ·obtain rfl : j = m3.length := by omega
      rw [List.take_of_length_le (Nat.le_refl _)] at hnA
      (conv=>whnf);repeat((with_reducible first|refine .tt ?_|refine .ff ?_);conv=>whnf)
      refine LoadG.at (v := .pointer (some ⟨t, 0, none⟩)) (.tl (.right (.right d9 E) _)) ?_
      (conv=>whnf);refine .tt ?_;(conv=>whnf);refine .tt ?_;(conv=>whnf)
      refine CallG.of (pre := c1.pieces 89 124 144 t) (rest := cel b6 4 [.bool false] :: (E ++ RD)) ((is_spec _ t c1 hg1 (by omega) nv now (.left (.tl hnr) F) (fun d hd => .left (.tl (hnd d hd)) F) (by rw [hc1]; exact hnA)).turn (R' := fun r L => r = .bool true ∧ L = []) fun r L h => ⟨[], ⟨h.1, rfl⟩, Ent.nil _⟩) (Ent.perm (by classical exact List.perm_iff_count.2 fun x => by simp only [List.append_eq, List.count_append, List.count_cons, List.count_nil]; omega)) ?_
      rintro _ _ ⟨rfl, rfl⟩
      (conv=>whnf);refine .tt ?_;(conv=>whnf)
      refine StoreG.at rfl (Upd.whole (vs := [.bool true]) rfl (by simp [Value.oneCell'])) ?_
      conv=>whnf
      refine ⟨cel b6 4 [.bool true] :: (E ++ R), Ent.perm (m := [dfr D3, dfr D2, dfr D1] ++ (cel b6 4 [.bool true] :: (E ++ R))) (by rw [hRD]; exact (by classical exact List.perm_iff_count.2 fun x => by simp only [List.append_eq, List.count_append, List.count_cons, List.count_nil]; omega)), ?_⟩
      conv=>whnf
      refine LoadG.at (v := .bool true) (.here rfl) ?_
      conv=>whnf
      exact ⟨[], Ent.nil _, rfl⟩
    ·rw [if_pos (by omega)] at hc1
     (conv=>whnf);refine .tt ?_;(conv=>whnf);refine .tt ?_;(conv=>whnf);refine .tt ?_;(conv=>whnf)
     refine LoadG.at (v := .pointer (some ⟨t, 0, none⟩)) (.tl (.tl u9)) ?_
     (conv=>whnf);refine .tt ?_;(conv=>whnf);refine .tt ?_;(conv=>whnf)
     refine CallG.of (pre := c1.pieces 89 124 144 t) (rest := cel b6 4 [.bool false] :: ([] ++ RD)) ((is_spec _ t c1 hg1 (by omega) (.slice la ld.length lc) ld (.left (.tl dd.1) F) (fun d hd => .left (.tl (dd.2 d hd)) F) (by rw [hc1]; exact h0A)).turn (R' := fun r L => r = .bool true ∧ L = []) fun r L h => ⟨[], ⟨h.1, rfl⟩, Ent.nil _⟩) (by rw [hV, hRD]; exact Ent.perm (l := dfr D3 :: cel b6 4 [.bool false] :: dfr D2 :: dfr D1 :: (c1.pieces 89 124 144 t ++ R)) (by classical exact List.perm_iff_count.2 fun x => by simp only [List.append_eq, List.count_append, List.count_cons, List.count_nil]; omega)) ?_
     rintro _ _ ⟨rfl, rfl⟩
     (conv=>whnf);refine .tt ?_;(conv=>whnf)
     refine StoreG.at rfl (Upd.whole (vs := [.bool true]) rfl (by simp [Value.oneCell'])) ?_
     conv=>whnf
     refine ⟨cel b6 4 [.bool true] :: ([] ++ R), Ent.perm (m := [dfr D3, dfr D2, dfr D1] ++ (cel b6 4 [.bool true] :: ([] ++ R))) (by rw [hRD]; exact (by classical exact List.perm_iff_count.2 fun x => by simp only [List.append_eq, List.count_append, List.count_cons, List.count_nil]; omega)), ?_⟩
     conv=>whnf
     refine LoadG.at (v := .bool true) (.here rfl) ?_
     conv=>whnf
     exact ⟨[], Ent.nil _, rfl⟩
end
end Go.Proofs.YtjkldhalmglkpaaDoor
