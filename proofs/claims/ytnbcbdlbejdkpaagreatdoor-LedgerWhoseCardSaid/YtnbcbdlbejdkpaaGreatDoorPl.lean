import Derived.Test.YtnbcbdlbejdkpaaGreatDoorGp
import Derived.Test.YtnbcbdlbejdkpaaGreatDoorSx
import Derived.Test.YtnbcbdlbejdkpaaGreatDoorZTt
import Derived.Test.YtnbcbdlbejdkpaaGreatDoorZPa
import Derived.Test.YtnbcbdlbejdkpaaGreatDoorZMk
import Derived.Test.YtnbcbdlbejdkpaaGreatDoorZSu
namespace Go.Proofs.YtnbcbdlbejdkpaaGreatDoor
open Go Go.Sl
theorem digT : KeyT Tryz.prog 178 digV digOk := KeyT.arr (len := 32) (e := 5) bvs (fun _ => rfl) (fun _ h => wt_bvs h) (fun _ _ _ _ h => bvs_inj.1 h) (by kernel_rfl) (by kernel_rfl) (by kernel_rfl) (by kernel_rfl)
theorem ofT : (Tryz.prog).underlying 149 = some (.map 178 61) := by kernel_rfl
theorem zeroS : ∀ w, (zeroValue 61).run Tryz.prog w = .ok (.slice none 0 0) w := run_zeroV (by kernel_rfl)
section
variable {K : List W32} (hk : K.length = 64)
include hk
theorem tlay_spec (F : List HP) (hK : CelN F 0 0 (wvs K)) (t : Nat) (c : TabD) (n : Nat) (hw : c.wf K n) (hn : n ≤ 8796093022206) (key : ByteArray) (v : Value) (bs : List Nat) (hv : RdS F v bs.length (bvs bs)) (hl : bs.length ≤ 4096) (hb : ∀ b ∈ bs, b < 256) (h1 : 0 < key.size) (h2 : key.size ≤ 128) :
    SpecF Tryz.prog 101 [.pointer (some ⟨t, 0, none⟩), .string key, v] F (c.pieces 151 176 212 t) (fun _ L => ∃ c', LayOk K n c key bs c' ∧ L = c'.pieces 151 176 212 t) := by
  have hd := IsD.dig K (strN key)
  have ld := hd.len
  refine fun101.spec rfl ?_
  conv=>whnf
  refine DoesG.toBytes (e := 5) (by kernel_rfl) (by kernel_rfl) (by kernel_rfl) fun kb p1 hkb _ => ?_
  conv=>whnf
  refine CallG.pure (dsum_spec _ K (.right hK _) hk kb (strN key) (RdS.left (RdS.left hkb _) F) (by rw [strN_len]; omega) (strN_byte key)) ?_
  rintro _ _ ⟨rfl, rfl⟩
  conv=>whnf
  intro b6
  conv=>whnf
  refine StoreG.at (by rw [bvs_len, ld]) (Upd.whole (vs := bvs (dig K (strN key))) (by rw [bvs_len, ld]; rfl) (bvs_one _)) ?_
  conv=>whnf
  refine DrawG.mk 7 (cel b6 178 (bvs (dig K (strN key))) :: c.pieces 151 176 212 t) [] ((Ent.front 1 rfl).trans (Ent.drop _)) ?_
  conv=>whnf
  refine .take 0 ?_
  conv=>whnf
  refine ⟨rfl, ?_⟩
  conv=>whnf
  refine .take 1 ?_
  conv=>whnf
  refine ⟨rfl, ?_⟩
  conv=>whnf
  refine .take 2 ?_
  conv=>whnf
  refine ⟨rfl, ?_⟩
  conv=>whnf
  refine .take 3 ?_
  conv=>whnf
  refine ⟨rfl, ?_⟩
  conv=>whnf
  refine LoadG.at (.tl (.here rfl)) ?_
  conv=>whnf
  refine .take 4 ?_
  conv=>whnf
  refine ⟨rfl, ?_⟩
  conv=>whnf
  refine LoadNG.at (vs := bvs (dig K (strN key))) (by rw [bvs_len, ld]) .all ?_
  conv=>whnf
  refine .all ?_
  conv=>whnf
  refine ⟨by decide, ?_⟩
  conv=>whnf
  refine DoesG.look digT ofT zeroS ld (MapG.right (MapG.left (.tl (.tl (.tl .here))) F) _) false ?_
  obtain ⟨hk1, hk2, hk3, hk4⟩ := hw.at (dig K (strN key))
  have hthere := hw.there key
  have hat : ((getM (ofM c.ofs) (dig K (strN key))).getD (.slice none 0 0)) = (c.at (dig K (strN key))).1 := by
    rw [getM_of]
    unfold TabD.at
    cases getO c.ofs (dig K (strN key)) <;> rfl
  rw [if_neg (by decide), hat]
  obtain ⟨kv, hkv⟩ : ∃ x, x = (c.at (dig K (strN key))).1 := ⟨_, rfl⟩
  obtain ⟨ks, hks⟩ : ∃ x, x = (c.at (dig K (strN key))).2 := ⟨_, rfl⟩
  rw [← hkv] at hk1 ⊢
  rw [← hks] at hk1 hk2 hk3 hk4 hthere
  conv=>whnf
  refine .take 6 ?_
  conv=>whnf
  refine ⟨rfl, ?_⟩
  conv=>whnf
  refine ⟨rfl, ?_⟩
  conv=>whnf
  have hkr : ∀ M, RdS (c.pieces 151 176 212 t ++ M) kv ks.length (svs ks) := fun M => by
    have h := TabD.shG (TT := 151) (ST := 176) (NT := 212) (t := t) kv (svs ks) hk1
    rw [svs_len] at h
    exact h.left M
  have hrd : ∀ v' cs, ShIn c.S v' (svs cs) → RdS (rcs 212 c.Bs ++ shs c.S) v' cs.length (svs cs) := fun v' cs h => by
    have h2 := ((ShG.here (S := c.S) (L := [])).right (rcs 212 c.Bs)) v' (svs cs) h
    rw [List.append_nil, svs_len] at h2
    exact h2
  have hkiff : ∀ k, k ∈ ks ↔ dig K (strN k) = dig K (strN key) ∧ (getK c.vals k).isSome = true := fun k => by
    constructor
    · exact hk4 k
    · rintro ⟨e1, e2⟩
      rw [hks, ← e1]
      exact (hw.there k).2 e2
  refine CallG.pure (bs_spec _ kv ks key (RdS.tl (hkr F)) (by omega) hk2) ?_
  rintro _ _ ⟨i, b, hbs, rfl, rfl⟩
  conv=>whnf
  refine LenG.rd hv ?_
  conv=>whnf
  have hi := hbs.le
  refine CondG.dec (fun hpos => ?_) (fun hpos => ?_)
  · have hbne : bs ≠ [] := fun h => by rw [h] at hpos; simp at hpos
    conv=>whnf
    refine DrawG.mk 7 (cel b6 178 (bvs (dig K (strN key))) :: c.pieces 151 176 212 t) [] (Ent.refl _) ?_
    conv=>whnf
    refine .take 0 ?_
    conv=>whnf
    refine ⟨rfl, ?_⟩
    conv=>whnf
    refine .take 1 ?_
    conv=>whnf
    refine ⟨rfl, ?_⟩
    conv=>whnf
    refine .take 2 ?_
    conv=>whnf
    refine ⟨rfl, ?_⟩
    conv=>whnf
    refine .take 3 ?_
    conv=>whnf
    refine ⟨rfl, ?_⟩
    conv=>whnf
    refine LoadG.at (.tl (.here rfl)) ?_
    conv=>whnf
    refine .take 4 ?_
    conv=>whnf
    refine ⟨rfl, ?_⟩
    conv=>whnf
    refine .take 5 ?_
    conv=>whnf
    refine ⟨rfl, ?_⟩
    conv=>whnf
    refine .all ?_
    conv=>whnf
    refine ⟨by decide, ?_⟩
    conv=>whnf
    refine CallG.pure (clone_spec _ v bs (by omega) (.right (.right hv _) _)) ?_
    rintro x _ ⟨hx, rfl, _⟩
    conv=>whnf
    refine .all ?_
    conv=>whnf
    refine ⟨by decide, ?_⟩
    conv=>whnf
    refine ⟨rfl, ?_⟩
    conv=>whnf
    refine DoesG.ent (Ent.front 3 rfl) ?_
    refine DoesG.upd strT mapT trivial ?_
    rw [putM_kv c.vals key x bs]
    conv=>whnf
    refine ⟨rfl, ?_⟩
    conv=>whnf
    refine CondG.split (fun hnb => ?_) (fun hnb => ?_)
    · have hb' : b = false := by simpa using hnb
      subst hb'
      have hnin : key ∉ ks := fun h => by have := (hbs.mem hk2).2 h; cases this
      have hks2 : Sorted (ks.take i ++ key :: ks.drop i) := hbs.insert hk2
      conv=>whnf
      refine CallG.pure (cloneS_spec _ kv ks (by omega) (.tl (.tl (.tl (.tl (.tl (.tl ((hrd kv ks hk1).left F)))))))) ?_
      rintro r2 _ ⟨hr2, rfl⟩
      conv=>whnf
      refine BuildG.of rfl ?_
      conv=>whnf
      intro b41
      conv=>whnf
      refine CallG.of (pre := [own 1 r2 ks.length (svs ks), cel b41 _ [.string key]]) (insertS_spec _ r2 ks i key b41 _ hi (by omega)) (Ent.perm (List.Perm.swap _ _ _)) ?_
      rintro kv' _ ⟨hkv', rfl⟩
      obtain ⟨ks2, eks2⟩ : ∃ z, z = ks.take i ++ key :: ks.drop i := ⟨_, rfl⟩
      have hl2 : ks2.length = ks.length + 1 := by rw [eks2, List.length_append, List.length_cons, List.length_take, List.length_drop]; omega
      rw [← hl2] at hkv' ⊢
      rw [← eks2] at hks2 ⊢
      have hmem : ∀ k, k ∈ ks2 ↔ dig K (strN k) = dig K (strN key) ∧ (getK (putK c.vals key x bs) k).isSome = true := fun k => by
        rw [eks2, mem_ins, getK_put]
        by_cases e : k = key
        · subst e; simp
        · simp only [e, false_or, or_false, if_false]
          exact hkiff k
      have hne2 : ks2 ≠ [] := fun h => by rw [h] at hl2; cases hl2
      conv=>whnf
      refine LenG.sl hkv' ?_
      conv=>whnf
      refine CondG.decF (by omega) ?_
      conv=>whnf
      obtain ⟨V', hV'⟩ : ∃ z, z = putK c.vals key x bs := ⟨_, rfl⟩
      obtain ⟨S', hS'⟩ : ∃ z, z = (kv', svs ks2) :: (x, bvs bs) :: c.S := ⟨_, rfl⟩
      have hS : ∀ p ∈ c.S, p ∈ S' := fun p hp => by rw [hS']; exact List.mem_cons_of_mem _ (List.mem_cons_of_mem _ hp)
      have hsh : ShIn S' kv' (svs ks2) := ⟨by rw [svs_len]; exact hkv', .inl (by rw [hS']; exact List.mem_cons_self)⟩
      have hV : ∀ p ∈ V', ShIn S' p.2.1 (bvs p.2.2) ∧ p.2.2.length ≤ 4096 ∧ p.2.2 ≠ [] ∧ ∀ b ∈ p.2.2, b < 256 := fun p hp => by
        rw [hV'] at hp
        rcases putK_mem hp with rfl | hp
        · exact ⟨⟨by rw [bvs_len]; exact hx, .inl (by rw [hS']; exact List.mem_cons_of_mem _ List.mem_cons_self)⟩, hl, hbne, hb⟩
        · obtain ⟨g1, g2, g3, g4⟩ := hw.vals p hp
          exact ⟨g1.mono hS, g2, g3, g4⟩
      have hVk : ∀ p ∈ V', 0 < p.1.size ∧ p.1.size ≤ 128 := fun p hp => by
        rw [hV'] at hp
        rcases putK_mem hp with rfl | hp
        · exact ⟨h1, h2⟩
        · exact hw.keys p hp
      have hsame : ∀ k, k ≠ key → getK V' k = getK c.vals k := fun k hne => by rw [hV', getK_put, if_neg hne]
      have hput : bs ≠ [] → ∃ x, V' = putK c.vals key x bs := fun _ => ⟨x, hV'⟩
      have hdel : bs = [] → V' = delK c.vals key := fun h => absurd h hbne
      have hlen2 : ks2.length ≤ n + 1 := by omega
      have hsort2 := hks2
      rw [← hV'] at hmem ⊢
      refine DrawG.mk 6 (cel b6 178 (bvs (dig K (strN key))) :: TabD.pieces 151 176 212 t { c with vals := V', S := S' }) [] ?_ ?_
      · rw [hS']
        refine (shC_of_own (by rw [svs_len])).trans ((Ent.front 2 rfl).trans ((shC_of_own (by rw [bvs_len])).trans ?_))
        exact (Ent.perm (List.Perm.swap _ _ _)).trans ((Ent.sel (T := rcs 212 c.Bs ++ shs c.S) (A := [_, _, _, _, _, _, _]) [0, 1, 3, 4, 2, 5, 6] rfl).trans (down2 (A := [_, _, _, _, _])))
      conv=>whnf
      refine .take 0 ?_
      conv=>whnf
      refine ⟨rfl, ?_⟩
      conv=>whnf
      refine .take 1 ?_
      conv=>whnf
      refine ⟨rfl, ?_⟩
      conv=>whnf
      refine .take 2 ?_
      conv=>whnf
      refine ⟨rfl, ?_⟩
      conv=>whnf
      refine .take 3 ?_
      conv=>whnf
      refine ⟨rfl, ?_⟩
      conv=>whnf
      refine LoadG.at (.tl (.here rfl)) ?_
      conv=>whnf
      refine .take 4 ?_
      conv=>whnf
      refine ⟨rfl, ?_⟩
      conv=>whnf
      refine LoadNG.at (vs := bvs (dig K (strN key))) (by rw [bvs_len, ld]) .all ?_
      conv=>whnf
      refine .take 5 ?_
      conv=>whnf
      refine ⟨rfl, ?_⟩
      conv=>whnf
      refine .all ?_
      conv=>whnf
      refine ⟨by decide, ?_⟩
      conv=>whnf
      refine ⟨rfl, ?_⟩
      conv=>whnf
      refine DoesG.ent (Ent.front 3 rfl) ?_
      refine DoesG.upd digT ofT ld ?_
      rw [putM_of c.ofs (dig K (strN key)) kv' ks2]
      conv=>whnf
      refine ⟨rfl, ?_⟩
      conv=>whnf
      have hlp : 0 < ks2.length := List.length_pos_iff.2 hne2
      obtain ⟨lst, hlst⟩ : ∃ l, ks2.getLast? = some l := ⟨ks2.getLast hne2, List.getLast?_eq_some_getLast hne2⟩
      have hlast : ks2[ks2.length - 1]? = some lst := by rw [← List.getLast?_eq_getElem?]; exact hlst
      obtain ⟨yv, ybs, hy⟩ : ∃ yv ybs, getK V' lst = some (yv, ybs) := by
        have h := ((hmem lst).1 (List.mem_of_getElem? hlast)).2
        cases hg : getK V' lst with
        | none => rw [hg] at h; cases h
        | some y => exact ⟨y.1, y.2, rfl⟩
      obtain ⟨hy1, hy2, hy3, hy4⟩ := hV _ (getK_mem hy)
      have hdy := IsD.dig K ybs
      have hy2' : ybs.length ≤ 4096 := hy2
      refine DrawG.mk 18 (mapP digV digOk c.ob (ofM (putO c.ofs (dig K (strN key)) kv' ks2)) :: cel b6 178 (bvs (dig K (strN key))) :: cel t 151 [.map (some c.vb), .pointer (some ⟨c.q, 0, none⟩), .map (some c.ob)] :: mapS c.vb (kvM V') :: (rcs 212 c.Bs ++ shs S')) [cel c.q 176 [c.top, .int .i64 c.len]] (Ent.front 4 rfl) ?_
      have hsI : ShG (mapP digV digOk c.ob (ofM (putO c.ofs (dig K (strN key)) kv' ks2)) :: cel b6 178 (bvs (dig K (strN key))) :: cel t 151 [.map (some c.vb), .pointer (some ⟨c.q, 0, none⟩), .map (some c.ob)] :: mapS c.vb (kvM V') :: (rcs 212 c.Bs ++ shs S')) S' := fun v cs h => by
        have h2 := (ShG.here (S := S') (L := [])) v cs h
        rw [List.append_nil] at h2
        exact .tl (.tl (.tl (.tl (h2.right _))))
      have hbI : BsG (mapP digV digOk c.ob (ofM (putO c.ofs (dig K (strN key)) kv' ks2)) :: cel b6 178 (bvs (dig K (strN key))) :: cel t 151 [.map (some c.vb), .pointer (some ⟨c.q, 0, none⟩), .map (some c.ob)] :: mapS c.vb (kvM V') :: (rcs 212 c.Bs ++ shs S')) c.Bs := ((((BsG.here (T := 212) (L := shs S')).tl).tl).tl).tl
      have hkI := hsI kv' (svs ks2) hsh
      rw [svs_len] at hkI
      conv=>whnf
      refine .take 0 ?_
      conv=>whnf
      refine ⟨rfl, ?_⟩
      conv=>whnf
      refine .take 1 ?_
      conv=>whnf
      refine ⟨rfl, ?_⟩
      conv=>whnf
      refine .take 2 ?_
      conv=>whnf
      refine ⟨rfl, ?_⟩
      conv=>whnf
      refine .take 3 ?_
      conv=>whnf
      refine ⟨rfl, ?_⟩
      conv=>whnf
      refine LoadG.at (.tl (.tl (.here rfl))) ?_
      conv=>whnf
      refine .take 4 ?_
      conv=>whnf
      refine ⟨rfl, ?_⟩
      conv=>whnf
      refine LoadNG.at (vs := bvs (dig K (strN key))) (by rw [bvs_len, ld]) (.tl .all) ?_
      conv=>whnf
      refine .take 5 ?_
      conv=>whnf
      refine ⟨rfl, ?_⟩
      conv=>whnf
      refine .take 6 ?_
      conv=>whnf
      refine ⟨rfl, ?_⟩
      conv=>whnf
      refine .take 7 ?_
      conv=>whnf
      refine ⟨rfl, ?_⟩
      conv=>whnf
      refine .take 8 ?_
      conv=>whnf
      refine ⟨rfl, ?_⟩
      conv=>whnf
      refine LoadG.at (.tl (.tl (.here rfl))) ?_
      conv=>whnf
      refine .take 9 ?_
      conv=>whnf
      refine ⟨rfl, ?_⟩
      conv=>whnf
      refine .take 10 ?_
      conv=>whnf
      refine ⟨rfl, ?_⟩
      conv=>whnf
      refine .take 11 ?_
      conv=>whnf
      refine ⟨rfl, ?_⟩
      conv=>whnf
      refine LenG.rd hkI ?_
      conv=>whnf
      refine .take 12 ?_
      conv=>whnf
      refine ⟨rfl, ?_⟩
      conv=>whnf
      refine ArithG.i64' ((ks2.length - 1 : Nat) : Int) (by omega) (by omega) ?_
      conv=>whnf
      refine .take 13 ?_
      conv=>whnf
      refine ⟨rfl, ?_⟩
      conv=>whnf
      refine IdxG.rd hkI (by omega) fun b' o' hc => ?_
      conv=>whnf
      refine .take 14 ?_
      conv=>whnf
      refine ⟨rfl, ?_⟩
      conv=>whnf
      refine LoadG.at (hc.one (u := .string lst) (by rw [Int.toNat_natCast, Nat.mul_one]; exact svs_get hlast)) ?_
      conv=>whnf
      refine .all ?_
      conv=>whnf
      refine ⟨by decide, ?_⟩
      conv=>whnf
      refine DoesG.look strT mapT zeroB trivial (MapG.right (MapG.left (.tl (.tl (.tl .here))) F) _) false ?_
      rw [if_neg (by decide), getM_kv, hy]
      conv=>whnf
      refine .all ?_
      conv=>whnf
      refine ⟨by decide, ?_⟩
      conv=>whnf
      have hyr := hsI yv (bvs ybs) hy1
      rw [bvs_len] at hyr
      refine CallG.pure (dsum_spec _ K (.right (.right hK _) _) hk yv ybs (.right (.left hyr F) _) (by omega) hy4) ?_
      rintro _ _ ⟨rfl, rfl⟩
      conv=>whnf
      refine .all ?_
      conv=>whnf
      refine ⟨by decide, ?_⟩
      conv=>whnf
      refine CallG.of (pre := [cel c.q 176 [c.top, .int .i64 c.len]]) (rest := []) (mput_spec hk _ (.right (.right hK _) _) ((hbI.left F).right _) c.q c.top c.len c.tree hw.node hw.tree (dig K (strN key)) (dig K ybs) hd hdy) (Ent.refl _) ?_
      rintro _ _ ⟨Ns, top', len', rfl, hN⟩
      conv=>whnf
      refine ⟨rfl, ?_⟩
      conv=>whnf
      obtain ⟨c', hc'⟩ : ∃ z, z = c.next (dig K (strN key)) V' S' kv' ks2 (putT (dig K (strN key)) (dig K ybs) 256 c.tree) top' len' Ns := ⟨_, rfl⟩
      have hT := (putT_wf hd hdy 256 0 c.tree rfl hw.tree (along_zero _ _)).1
      have hwf : c'.wf K (n + 1) := by
        rw [hc']
        exact next_wf hw hS hsh hsort2 hlen2 hV hVk hsame hmem hN hT
      refine ⟨c'.pieces 151 176 212 t, ?_, c', ⟨fun h => by rw [hc']; exact hput h, fun h => by rw [hc']; exact hdel h, hwf, ?_⟩, rfl⟩
      · have eo : c'.ofs = putO c.ofs (dig K (strN key)) kv' ks2 := by rw [hc']; simp [TabD.next, hne2]
        have ev : c'.vals = V' := by rw [hc']; rfl
        have eq' : c'.q = c.q ∧ c'.vb = c.vb ∧ c'.ob = c.ob ∧ c'.Bs = Ns ++ c.Bs ∧ c'.S = S' ∧ c'.top = top' ∧ c'.len = len' := by rw [hc']; exact ⟨rfl, rfl, rfl, rfl, rfl, rfl, rfl⟩
        obtain ⟨q1, q2, q3, q4, q5, q6, q7⟩ := eq'
        unfold TabD.pieces
        rw [eo, ev, q1, q2, q3, q4, q5, q6, q7, rcs_app]
        rw [List.append_nil]
        exact lay_fin
      · have e : (c'.at (dig K (strN key))).2 = ks2 := by rw [hc']; exact next_at
        have e2 : c'.vals = V' := by rw [hc']; rfl
        have e3 : c'.lastD K (dig K (strN key)) = dig K ybs := by
          unfold TabD.lastD
          rw [e, hlst, e2]
          show dig K (((getK V' lst).map (·.2)).getD []) = _
          rw [hy]
          rfl
        rw [e3, hc']
        rfl
    · have hb' : b = true := by simpa using hnb
      subst hb'
      have hin : key ∈ ks := (hbs.mem hk2).1 rfl
      obtain ⟨ks2, eks2⟩ : ∃ z, z = ks := ⟨_, rfl⟩
      obtain ⟨kv', ekv'⟩ : ∃ z, z = kv := ⟨_, rfl⟩
      have hmem : ∀ k, k ∈ ks2 ↔ dig K (strN k) = dig K (strN key) ∧ (getK (putK c.vals key x bs) k).isSome = true := fun k => by
        rw [eks2, getK_put]
        by_cases e : k = key
        · subst e; simp [hin]
        · simp only [e, if_false]
          exact hkiff k
      have hne2 : ks2 ≠ [] := fun h => by rw [← eks2, h] at hin; cases hin
      have hkv' : SlV kv' ks2.length := by rw [ekv', eks2]; have h := hk1.sl; rw [svs_len] at h; exact h
      have hl2 := List.length_pos_iff.2 hne2
      conv=>whnf
      rw [← ekv']
      refine LenG.sl hkv' ?_
      conv=>whnf
      refine CondG.decF (by omega) ?_
      obtain ⟨V', hV'⟩ : ∃ z, z = putK c.vals key x bs := ⟨_, rfl⟩
      obtain ⟨S', hS'⟩ : ∃ z, z = (x, bvs bs) :: c.S := ⟨_, rfl⟩
      have hS : ∀ p ∈ c.S, p ∈ S' := fun p hp => by rw [hS']; exact List.mem_cons_of_mem _ hp
      have hsh : ShIn S' kv' (svs ks2) := by rw [ekv', eks2]; exact hk1.mono hS
      have hV : ∀ p ∈ V', ShIn S' p.2.1 (bvs p.2.2) ∧ p.2.2.length ≤ 4096 ∧ p.2.2 ≠ [] ∧ ∀ b ∈ p.2.2, b < 256 := fun p hp => by
        rw [hV'] at hp
        rcases putK_mem hp with rfl | hp
        · exact ⟨⟨by rw [bvs_len]; exact hx, .inl (by rw [hS']; exact List.mem_cons_self)⟩, hl, hbne, hb⟩
        · obtain ⟨g1, g2, g3, g4⟩ := hw.vals p hp
          exact ⟨g1.mono hS, g2, g3, g4⟩
      have hVk : ∀ p ∈ V', 0 < p.1.size ∧ p.1.size ≤ 128 := fun p hp => by
        rw [hV'] at hp
        rcases putK_mem hp with rfl | hp
        · exact ⟨h1, h2⟩
        · exact hw.keys p hp
      have hsame : ∀ k, k ≠ key → getK V' k = getK c.vals k := fun k hne => by rw [hV', getK_put, if_neg hne]
      have hput : bs ≠ [] → ∃ x, V' = putK c.vals key x bs := fun _ => ⟨x, hV'⟩
      have hdel : bs = [] → V' = delK c.vals key := fun h => absurd h hbne
      have hlen2 : ks2.length ≤ n + 1 := by rw [eks2]; omega
      have hsort2 : Sorted ks2 := by rw [eks2]; exact hk2
      rw [← hV'] at hmem ⊢
      refine DrawG.mk 6 (cel b6 178 (bvs (dig K (strN key))) :: TabD.pieces 151 176 212 t { c with vals := V', S := S' }) [] ?_ ?_
      · rw [hS']
        refine (Ent.front 1 rfl).trans ((shC_of_own (by rw [bvs_len])).trans ?_)
        exact (Ent.sel (T := rcs 212 c.Bs ++ shs c.S) (A := [_, _, _, _, _, _]) [0, 2, 3, 1, 4, 5] rfl).trans (down1 (A := [_, _, _, _, _]))
      conv=>whnf
      refine .take 0 ?_
      conv=>whnf
      refine ⟨rfl, ?_⟩
      conv=>whnf
      refine .take 1 ?_
      conv=>whnf
      refine ⟨rfl, ?_⟩
      conv=>whnf
      refine .take 2 ?_
      conv=>whnf
      refine ⟨rfl, ?_⟩
      conv=>whnf
      refine .take 3 ?_
      conv=>whnf
      refine ⟨rfl, ?_⟩
      conv=>whnf
      refine LoadG.at (.tl (.here rfl)) ?_
      conv=>whnf
      refine .take 4 ?_
      conv=>whnf
      refine ⟨rfl, ?_⟩
      conv=>whnf
      refine LoadNG.at (vs := bvs (dig K (strN key))) (by rw [bvs_len, ld]) .all ?_
      conv=>whnf
      refine .take 5 ?_
      conv=>whnf
      refine ⟨rfl, ?_⟩
      conv=>whnf
      refine .all ?_
      conv=>whnf
      refine ⟨by decide, ?_⟩
      conv=>whnf
      refine ⟨rfl, ?_⟩
      conv=>whnf
      refine DoesG.ent (Ent.front 3 rfl) ?_
      refine DoesG.upd digT ofT ld ?_
      rw [putM_of c.ofs (dig K (strN key)) kv' ks2]
      conv=>whnf
      refine ⟨rfl, ?_⟩
      conv=>whnf
      have hlp : 0 < ks2.length := List.length_pos_iff.2 hne2
      obtain ⟨lst, hlst⟩ : ∃ l, ks2.getLast? = some l := ⟨ks2.getLast hne2, List.getLast?_eq_some_getLast hne2⟩
      have hlast : ks2[ks2.length - 1]? = some lst := by rw [← List.getLast?_eq_getElem?]; exact hlst
      obtain ⟨yv, ybs, hy⟩ : ∃ yv ybs, getK V' lst = some (yv, ybs) := by
        have h := ((hmem lst).1 (List.mem_of_getElem? hlast)).2
        cases hg : getK V' lst with
        | none => rw [hg] at h; cases h
        | some y => exact ⟨y.1, y.2, rfl⟩
      obtain ⟨hy1, hy2, hy3, hy4⟩ := hV _ (getK_mem hy)
      have hdy := IsD.dig K ybs
      have hy2' : ybs.length ≤ 4096 := hy2
      refine DrawG.mk 18 (mapP digV digOk c.ob (ofM (putO c.ofs (dig K (strN key)) kv' ks2)) :: cel b6 178 (bvs (dig K (strN key))) :: cel t 151 [.map (some c.vb), .pointer (some ⟨c.q, 0, none⟩), .map (some c.ob)] :: mapS c.vb (kvM V') :: (rcs 212 c.Bs ++ shs S')) [cel c.q 176 [c.top, .int .i64 c.len]] (Ent.front 4 rfl) ?_
      have hsI : ShG (mapP digV digOk c.ob (ofM (putO c.ofs (dig K (strN key)) kv' ks2)) :: cel b6 178 (bvs (dig K (strN key))) :: cel t 151 [.map (some c.vb), .pointer (some ⟨c.q, 0, none⟩), .map (some c.ob)] :: mapS c.vb (kvM V') :: (rcs 212 c.Bs ++ shs S')) S' := fun v cs h => by
        have h2 := (ShG.here (S := S') (L := [])) v cs h
        rw [List.append_nil] at h2
        exact .tl (.tl (.tl (.tl (h2.right _))))
      have hbI : BsG (mapP digV digOk c.ob (ofM (putO c.ofs (dig K (strN key)) kv' ks2)) :: cel b6 178 (bvs (dig K (strN key))) :: cel t 151 [.map (some c.vb), .pointer (some ⟨c.q, 0, none⟩), .map (some c.ob)] :: mapS c.vb (kvM V') :: (rcs 212 c.Bs ++ shs S')) c.Bs := ((((BsG.here (T := 212) (L := shs S')).tl).tl).tl).tl
      have hkI := hsI kv' (svs ks2) hsh
      rw [svs_len] at hkI
      conv=>whnf
      refine .take 0 ?_
      conv=>whnf
      refine ⟨rfl, ?_⟩
      conv=>whnf
      refine .take 1 ?_
      conv=>whnf
      refine ⟨rfl, ?_⟩
      conv=>whnf
      refine .take 2 ?_
      conv=>whnf
      refine ⟨rfl, ?_⟩
      conv=>whnf
      refine .take 3 ?_
      conv=>whnf
      refine ⟨rfl, ?_⟩
      conv=>whnf
      refine LoadG.at (.tl (.tl (.here rfl))) ?_
      conv=>whnf
      refine .take 4 ?_
      conv=>whnf
      refine ⟨rfl, ?_⟩
      conv=>whnf
      refine LoadNG.at (vs := bvs (dig K (strN key))) (by rw [bvs_len, ld]) (.tl .all) ?_
      conv=>whnf
      refine .take 5 ?_
      conv=>whnf
      refine ⟨rfl, ?_⟩
      conv=>whnf
      refine .take 6 ?_
      conv=>whnf
      refine ⟨rfl, ?_⟩
      conv=>whnf
      refine .take 7 ?_
      conv=>whnf
      refine ⟨rfl, ?_⟩
      conv=>whnf
      refine .take 8 ?_
      conv=>whnf
      refine ⟨rfl, ?_⟩
      conv=>whnf
      refine LoadG.at (.tl (.tl (.here rfl))) ?_
      conv=>whnf
      refine .take 9 ?_
      conv=>whnf
      refine ⟨rfl, ?_⟩
      conv=>whnf
      refine .take 10 ?_
      conv=>whnf
      refine ⟨rfl, ?_⟩
      conv=>whnf
      refine .take 11 ?_
      conv=>whnf
      refine ⟨rfl, ?_⟩
      conv=>whnf
      refine LenG.rd hkI ?_
      conv=>whnf
      refine .take 12 ?_
      conv=>whnf
      refine ⟨rfl, ?_⟩
      conv=>whnf
      refine ArithG.i64' ((ks2.length - 1 : Nat) : Int) (by omega) (by omega) ?_
      conv=>whnf
      refine .take 13 ?_
      conv=>whnf
      refine ⟨rfl, ?_⟩
      conv=>whnf
      refine IdxG.rd hkI (by omega) fun b' o' hc => ?_
      conv=>whnf
      refine .take 14 ?_
      conv=>whnf
      refine ⟨rfl, ?_⟩
      conv=>whnf
      refine LoadG.at (hc.one (u := .string lst) (by rw [Int.toNat_natCast, Nat.mul_one]; exact svs_get hlast)) ?_
      conv=>whnf
      refine .all ?_
      conv=>whnf
      refine ⟨by decide, ?_⟩
      conv=>whnf
      refine DoesG.look strT mapT zeroB trivial (MapG.right (MapG.left (.tl (.tl (.tl .here))) F) _) false ?_
      rw [if_neg (by decide), getM_kv, hy]
      conv=>whnf
      refine .all ?_
      conv=>whnf
      refine ⟨by decide, ?_⟩
      conv=>whnf
      have hyr := hsI yv (bvs ybs) hy1
      rw [bvs_len] at hyr
      refine CallG.pure (dsum_spec _ K (.right (.right hK _) _) hk yv ybs (.right (.left hyr F) _) (by omega) hy4) ?_
      rintro _ _ ⟨rfl, rfl⟩
      conv=>whnf
      refine .all ?_
      conv=>whnf
      refine ⟨by decide, ?_⟩
      conv=>whnf
      refine CallG.of (pre := [cel c.q 176 [c.top, .int .i64 c.len]]) (rest := []) (mput_spec hk _ (.right (.right hK _) _) ((hbI.left F).right _) c.q c.top c.len c.tree hw.node hw.tree (dig K (strN key)) (dig K ybs) hd hdy) (Ent.refl _) ?_
      rintro _ _ ⟨Ns, top', len', rfl, hN⟩
      conv=>whnf
      refine ⟨rfl, ?_⟩
      conv=>whnf
      obtain ⟨c', hc'⟩ : ∃ z, z = c.next (dig K (strN key)) V' S' kv' ks2 (putT (dig K (strN key)) (dig K ybs) 256 c.tree) top' len' Ns := ⟨_, rfl⟩
      have hT := (putT_wf hd hdy 256 0 c.tree rfl hw.tree (along_zero _ _)).1
      have hwf : c'.wf K (n + 1) := by
        rw [hc']
        exact next_wf hw hS hsh hsort2 hlen2 hV hVk hsame hmem hN hT
      refine ⟨c'.pieces 151 176 212 t, ?_, c', ⟨fun h => by rw [hc']; exact hput h, fun h => by rw [hc']; exact hdel h, hwf, ?_⟩, rfl⟩
      · have eo : c'.ofs = putO c.ofs (dig K (strN key)) kv' ks2 := by rw [hc']; simp [TabD.next, hne2]
        have ev : c'.vals = V' := by rw [hc']; rfl
        have eq' : c'.q = c.q ∧ c'.vb = c.vb ∧ c'.ob = c.ob ∧ c'.Bs = Ns ++ c.Bs ∧ c'.S = S' ∧ c'.top = top' ∧ c'.len = len' := by rw [hc']; exact ⟨rfl, rfl, rfl, rfl, rfl, rfl, rfl⟩
        obtain ⟨q1, q2, q3, q4, q5, q6, q7⟩ := eq'
        unfold TabD.pieces
        rw [eo, ev, q1, q2, q3, q4, q5, q6, q7, rcs_app]
        rw [List.append_nil]
        exact lay_fin
      · have e : (c'.at (dig K (strN key))).2 = ks2 := by rw [hc']; exact next_at
        have e2 : c'.vals = V' := by rw [hc']; rfl
        have e3 : c'.lastD K (dig K (strN key)) = dig K ybs := by
          unfold TabD.lastD
          rw [e, hlst, e2]
          show dig K (((getK V' lst).map (·.2)).getD []) = _
          rw [hy]
          rfl
        rw [e3, hc']
        rfl
  · have hbe : bs = [] := List.eq_nil_of_length_eq_zero (by omega)
    subst hbe
    refine CondG.split (fun hnb => ?_) (fun hnb => ?_)
    · have hb' : b = true := hnb
      subst hb'
      have hin : key ∈ ks := (hbs.mem hk2).1 rfl
      have hat2 : ks[i]? = some key := by have := hbs.is; simpa using this.symm
      have hi2 : i < ks.length := (List.getElem?_eq_some_iff.1 hat2).1
      obtain ⟨hks2, hmk⟩ := hbs.delete hk2
      conv=>whnf
      refine LoadG.at (.tl (.here rfl)) ?_
      conv=>whnf
      refine DoesG.ent (Ent.front 2 rfl) ?_
      refine DoesG.delM strT mapT trivial ?_
      rw [delM_kv c.vals key]
      conv=>whnf
      refine CallG.pure (cloneS_spec _ kv ks (by omega) (.tl (.tl (.tl (.tl (.tl ((hrd kv ks hk1).left F))))))) ?_
      rintro r2 _ ⟨hr2, rfl⟩
      conv=>whnf
      refine ArithG.i64' ((i + 1 : Nat) : Int) (by omega) (by omega) ?_
      conv=>whnf
      refine CallG.of (pre := [own 1 r2 ks.length (svs ks)]) (deleteS_spec _ r2 ks i hi2 (by omega)) (Ent.refl _) ?_
      rintro kv' _ ⟨hkv', rfl⟩
      obtain ⟨ks2, eks2⟩ : ∃ z, z = ks.take i ++ ks.drop (i + 1) := ⟨_, rfl⟩
      have hl2 : ks2.length = ks.length - 1 := by rw [eks2, List.length_append, List.length_take, List.length_drop]; omega
      rw [← hl2] at hkv' ⊢
      rw [← eks2] at hks2 ⊢
      have hmem : ∀ k, k ∈ ks2 ↔ dig K (strN k) = dig K (strN key) ∧ (getK (delK c.vals key) k).isSome = true := fun k => by
        rw [eks2, hmk, getK_del]
        by_cases e : k = key
        · subst e; simp
        · simp only [e, if_false, ne_eq, not_false_eq_true, and_true]
          exact hkiff k
      conv=>whnf
      refine LenG.sl hkv' ?_
      conv=>whnf
      obtain ⟨V', hV'⟩ : ∃ z, z = delK c.vals key := ⟨_, rfl⟩
      obtain ⟨S', hS'⟩ : ∃ z, z = (kv', svs ks2) :: c.S := ⟨_, rfl⟩
      have hS : ∀ p ∈ c.S, p ∈ S' := fun p hp => by rw [hS']; exact List.mem_cons_of_mem _ hp
      have hsh : ShIn S' kv' (svs ks2) := ⟨by rw [svs_len]; exact hkv', .inl (by rw [hS']; exact List.mem_cons_self)⟩
      have hV : ∀ p ∈ V', ShIn S' p.2.1 (bvs p.2.2) ∧ p.2.2.length ≤ 4096 ∧ p.2.2 ≠ [] ∧ ∀ b ∈ p.2.2, b < 256 := fun p hp => by
        rw [hV'] at hp
        obtain ⟨g1, g2, g3, g4⟩ := hw.vals p (List.mem_filter.1 hp).1
        exact ⟨g1.mono hS, g2, g3, g4⟩
      have hVk : ∀ p ∈ V', 0 < p.1.size ∧ p.1.size ≤ 128 := fun p hp => by
        rw [hV'] at hp
        exact hw.keys p (List.mem_filter.1 hp).1
      have hsame : ∀ k, k ≠ key → getK V' k = getK c.vals k := fun k hne => by rw [hV', getK_del, if_neg hne]
      have hput : ([] : List Nat) ≠ [] → ∃ x, V' = putK c.vals key x [] := fun h => absurd rfl h
      have hdel : ([] : List Nat) = [] → V' = delK c.vals key := fun _ => hV'
      have hlen2 : ks2.length ≤ n + 1 := by omega
      have hsort2 := hks2
      rw [← hV'] at hmem ⊢
      refine CondG.dec (fun hz => ?_) (fun hz => ?_)
      · have hz2 : ks2 = [] := List.eq_nil_of_length_eq_zero (by omega)
        refine DrawG.mk 6 (cel b6 178 (bvs (dig K (strN key))) :: cel t 151 [.map (some c.vb), .pointer (some ⟨c.q, 0, none⟩), .map (some c.ob)] :: mapS c.vb (kvM V') :: cel c.q 176 [c.top, .int .i64 c.len] :: (rcs 212 c.Bs ++ shs S')) [mapP digV digOk c.ob (ofM c.ofs)] ?_ ?_
        · rw [hS']
          refine (shC_of_own (by rw [svs_len])).trans ?_
          exact (Ent.sel (T := rcs 212 c.Bs ++ shs c.S) (A := [_, _, _, _, _, _]) [0, 4, 2, 3, 1, 5] rfl).trans (down1 (A := [_, _, _, _, _]))
        conv=>whnf
        refine .take 0 ?_
        conv=>whnf
        refine ⟨rfl, ?_⟩
        conv=>whnf
        refine .take 1 ?_
        conv=>whnf
        refine ⟨rfl, ?_⟩
        conv=>whnf
        refine .take 2 ?_
        conv=>whnf
        refine ⟨rfl, ?_⟩
        conv=>whnf
        refine .take 3 ?_
        conv=>whnf
        refine ⟨rfl, ?_⟩
        conv=>whnf
        refine LoadG.at (.tl (.here rfl)) ?_
        conv=>whnf
        refine .take 4 ?_
        conv=>whnf
        refine ⟨rfl, ?_⟩
        conv=>whnf
        refine LoadNG.at (vs := bvs (dig K (strN key))) (by rw [bvs_len, ld]) .all ?_
        conv=>whnf
        refine .all ?_
        conv=>whnf
        refine ⟨by decide, ?_⟩
        conv=>whnf
        refine DoesG.delM digT ofT ld ?_
        rw [delM_of c.ofs (dig K (strN key))]
        conv=>whnf
        refine ⟨rfl, ?_⟩
        conv=>whnf
        refine DrawG.mk 7 (mapP digV digOk c.ob (ofM (delO c.ofs (dig K (strN key)))) :: cel b6 178 (bvs (dig K (strN key))) :: cel t 151 [.map (some c.vb), .pointer (some ⟨c.q, 0, none⟩), .map (some c.ob)] :: mapS c.vb (kvM V') :: (rcs 212 c.Bs ++ shs S')) [cel c.q 176 [c.top, .int .i64 c.len]] (Ent.front 4 rfl) ?_
        have hbI : BsG (mapP digV digOk c.ob (ofM (delO c.ofs (dig K (strN key)))) :: cel b6 178 (bvs (dig K (strN key))) :: cel t 151 [.map (some c.vb), .pointer (some ⟨c.q, 0, none⟩), .map (some c.ob)] :: mapS c.vb (kvM V') :: (rcs 212 c.Bs ++ shs S')) c.Bs := ((((BsG.here (T := 212) (L := shs S')).tl).tl).tl).tl
        conv=>whnf
        refine .take 0 ?_
        conv=>whnf
        refine ⟨rfl, ?_⟩
        conv=>whnf
        refine .take 1 ?_
        conv=>whnf
        refine ⟨rfl, ?_⟩
        conv=>whnf
        refine .take 2 ?_
        conv=>whnf
        refine ⟨rfl, ?_⟩
        conv=>whnf
        refine .take 3 ?_
        conv=>whnf
        refine ⟨rfl, ?_⟩
        conv=>whnf
        refine LoadG.at (.tl (.tl (.here rfl))) ?_
        conv=>whnf
        refine .take 4 ?_
        conv=>whnf
        refine ⟨rfl, ?_⟩
        conv=>whnf
        refine LoadNG.at (vs := bvs (dig K (strN key))) (by rw [bvs_len, ld]) (.tl .all) ?_
        conv=>whnf
        refine .take 5 ?_
        conv=>whnf
        refine ⟨rfl, ?_⟩
        conv=>whnf
        refine BuildG.of (cs := bvs zd) rfl ?_
        conv=>whnf
        refine .all ?_
        conv=>whnf
        refine ⟨by decide, ?_⟩
        conv=>whnf
        refine CallG.of (pre := [cel c.q 176 [c.top, .int .i64 c.len]]) (rest := []) (mput_spec hk _ (.right (.right hK _) _) ((hbI.left F).right _) c.q c.top c.len c.tree hw.node hw.tree (dig K (strN key)) zd hd IsD.zd) (Ent.refl _) ?_
        rintro _ _ ⟨Ns, top', len', rfl, hN⟩
        conv=>whnf
        refine ⟨rfl, ?_⟩
        conv=>whnf
        obtain ⟨c', hc'⟩ : ∃ z, z = c.next (dig K (strN key)) V' S' kv' ks2 (putT (dig K (strN key)) zd 256 c.tree) top' len' Ns := ⟨_, rfl⟩
        have hT := (putT_wf hd IsD.zd 256 0 c.tree rfl hw.tree (along_zero _ _)).1
        have hwf : c'.wf K (n + 1) := by
          rw [hc']
          exact next_wf hw hS hsh hsort2 hlen2 hV hVk hsame hmem hN hT
        refine ⟨c'.pieces 151 176 212 t, ?_, c', ⟨fun h => by rw [hc']; exact hput h, fun h => by rw [hc']; exact hdel h, hwf, ?_⟩, rfl⟩
        · have eo : c'.ofs = delO c.ofs (dig K (strN key)) := by rw [hc']; simp [TabD.next, hz2]
          have ev : c'.vals = V' := by rw [hc']; rfl
          have eq' : c'.q = c.q ∧ c'.vb = c.vb ∧ c'.ob = c.ob ∧ c'.Bs = Ns ++ c.Bs ∧ c'.S = S' ∧ c'.top = top' ∧ c'.len = len' := by rw [hc']; exact ⟨rfl, rfl, rfl, rfl, rfl, rfl, rfl⟩
          obtain ⟨q1, q2, q3, q4, q5, q6, q7⟩ := eq'
          unfold TabD.pieces
          rw [eo, ev, q1, q2, q3, q4, q5, q6, q7, rcs_app]
          rw [List.append_nil]
          exact lay_fin
        · have e : (c'.at (dig K (strN key))).2 = ks2 := by rw [hc']; exact next_at
          have e3 : c'.lastD K (dig K (strN key)) = zd := by
            unfold TabD.lastD
            rw [e, hz2]
            rfl
          rw [e3, hc']
          rfl
      · have hne2 : ks2 ≠ [] := fun h => hz (by rw [h]; rfl)
        refine DrawG.mk 6 (cel b6 178 (bvs (dig K (strN key))) :: TabD.pieces 151 176 212 t { c with vals := V', S := S' }) [] ?_ ?_
        · rw [hS']
          refine (shC_of_own (by rw [svs_len])).trans ?_
          exact (Ent.sel (T := rcs 212 c.Bs ++ shs c.S) (A := [_, _, _, _, _, _]) [0, 2, 3, 1, 4, 5] rfl).trans (down1 (A := [_, _, _, _, _]))
        conv=>whnf
        refine .take 0 ?_
        conv=>whnf
        refine ⟨rfl, ?_⟩
        conv=>whnf
        refine .take 1 ?_
        conv=>whnf
        refine ⟨rfl, ?_⟩
        conv=>whnf
        refine .take 2 ?_
        conv=>whnf
        refine ⟨rfl, ?_⟩
        conv=>whnf
        refine .take 3 ?_
        conv=>whnf
        refine ⟨rfl, ?_⟩
        conv=>whnf
        refine LoadG.at (.tl (.here rfl)) ?_
        conv=>whnf
        refine .take 4 ?_
        conv=>whnf
        refine ⟨rfl, ?_⟩
        conv=>whnf
        refine LoadNG.at (vs := bvs (dig K (strN key))) (by rw [bvs_len, ld]) .all ?_
        conv=>whnf
        refine .take 5 ?_
        conv=>whnf
        refine ⟨rfl, ?_⟩
        conv=>whnf
        refine .all ?_
        conv=>whnf
        refine ⟨by decide, ?_⟩
        conv=>whnf
        refine ⟨rfl, ?_⟩
        conv=>whnf
        refine DoesG.ent (Ent.front 3 rfl) ?_
        refine DoesG.upd digT ofT ld ?_
        rw [putM_of c.ofs (dig K (strN key)) kv' ks2]
        conv=>whnf
        refine ⟨rfl, ?_⟩
        conv=>whnf
        have hlp : 0 < ks2.length := List.length_pos_iff.2 hne2
        obtain ⟨lst, hlst⟩ : ∃ l, ks2.getLast? = some l := ⟨ks2.getLast hne2, List.getLast?_eq_some_getLast hne2⟩
        have hlast : ks2[ks2.length - 1]? = some lst := by rw [← List.getLast?_eq_getElem?]; exact hlst
        obtain ⟨yv, ybs, hy⟩ : ∃ yv ybs, getK V' lst = some (yv, ybs) := by
          have h := ((hmem lst).1 (List.mem_of_getElem? hlast)).2
          cases hg : getK V' lst with
          | none => rw [hg] at h; cases h
          | some y => exact ⟨y.1, y.2, rfl⟩
        obtain ⟨hy1, hy2, hy3, hy4⟩ := hV _ (getK_mem hy)
        have hdy := IsD.dig K ybs
        have hy2' : ybs.length ≤ 4096 := hy2
        refine DrawG.mk 18 (mapP digV digOk c.ob (ofM (putO c.ofs (dig K (strN key)) kv' ks2)) :: cel b6 178 (bvs (dig K (strN key))) :: cel t 151 [.map (some c.vb), .pointer (some ⟨c.q, 0, none⟩), .map (some c.ob)] :: mapS c.vb (kvM V') :: (rcs 212 c.Bs ++ shs S')) [cel c.q 176 [c.top, .int .i64 c.len]] (Ent.front 4 rfl) ?_
        have hsI : ShG (mapP digV digOk c.ob (ofM (putO c.ofs (dig K (strN key)) kv' ks2)) :: cel b6 178 (bvs (dig K (strN key))) :: cel t 151 [.map (some c.vb), .pointer (some ⟨c.q, 0, none⟩), .map (some c.ob)] :: mapS c.vb (kvM V') :: (rcs 212 c.Bs ++ shs S')) S' := fun v cs h => by
          have h2 := (ShG.here (S := S') (L := [])) v cs h
          rw [List.append_nil] at h2
          exact .tl (.tl (.tl (.tl (h2.right _))))
        have hbI : BsG (mapP digV digOk c.ob (ofM (putO c.ofs (dig K (strN key)) kv' ks2)) :: cel b6 178 (bvs (dig K (strN key))) :: cel t 151 [.map (some c.vb), .pointer (some ⟨c.q, 0, none⟩), .map (some c.ob)] :: mapS c.vb (kvM V') :: (rcs 212 c.Bs ++ shs S')) c.Bs := ((((BsG.here (T := 212) (L := shs S')).tl).tl).tl).tl
        have hkI := hsI kv' (svs ks2) hsh
        rw [svs_len] at hkI
        conv=>whnf
        refine .take 0 ?_
        conv=>whnf
        refine ⟨rfl, ?_⟩
        conv=>whnf
        refine .take 1 ?_
        conv=>whnf
        refine ⟨rfl, ?_⟩
        conv=>whnf
        refine .take 2 ?_
        conv=>whnf
        refine ⟨rfl, ?_⟩
        conv=>whnf
        refine .take 3 ?_
        conv=>whnf
        refine ⟨rfl, ?_⟩
        conv=>whnf
        refine LoadG.at (.tl (.tl (.here rfl))) ?_
        conv=>whnf
        refine .take 4 ?_
        conv=>whnf
        refine ⟨rfl, ?_⟩
        conv=>whnf
        refine LoadNG.at (vs := bvs (dig K (strN key))) (by rw [bvs_len, ld]) (.tl .all) ?_
        conv=>whnf
        refine .take 5 ?_
        conv=>whnf
        refine ⟨rfl, ?_⟩
        conv=>whnf
        refine .take 6 ?_
        conv=>whnf
        refine ⟨rfl, ?_⟩
        conv=>whnf
        refine .take 7 ?_
        conv=>whnf
        refine ⟨rfl, ?_⟩
        conv=>whnf
        refine .take 8 ?_
        conv=>whnf
        refine ⟨rfl, ?_⟩
        conv=>whnf
        refine LoadG.at (.tl (.tl (.here rfl))) ?_
        conv=>whnf
        refine .take 9 ?_
        conv=>whnf
        refine ⟨rfl, ?_⟩
        conv=>whnf
        refine .take 10 ?_
        conv=>whnf
        refine ⟨rfl, ?_⟩
        conv=>whnf
        refine .take 11 ?_
        conv=>whnf
        refine ⟨rfl, ?_⟩
        conv=>whnf
        refine LenG.rd hkI ?_
        conv=>whnf
        refine .take 12 ?_
        conv=>whnf
        refine ⟨rfl, ?_⟩
        conv=>whnf
        refine ArithG.i64' ((ks2.length - 1 : Nat) : Int) (by omega) (by omega) ?_
        conv=>whnf
        refine .take 13 ?_
        conv=>whnf
        refine ⟨rfl, ?_⟩
        conv=>whnf
        refine IdxG.rd hkI (by omega) fun b' o' hc => ?_
        conv=>whnf
        refine .take 14 ?_
        conv=>whnf
        refine ⟨rfl, ?_⟩
        conv=>whnf
        refine LoadG.at (hc.one (u := .string lst) (by rw [Int.toNat_natCast, Nat.mul_one]; exact svs_get hlast)) ?_
        conv=>whnf
        refine .all ?_
        conv=>whnf
        refine ⟨by decide, ?_⟩
        conv=>whnf
        refine DoesG.look strT mapT zeroB trivial (MapG.right (MapG.left (.tl (.tl (.tl .here))) F) _) false ?_
        rw [if_neg (by decide), getM_kv, hy]
        conv=>whnf
        refine .all ?_
        conv=>whnf
        refine ⟨by decide, ?_⟩
        conv=>whnf
        have hyr := hsI yv (bvs ybs) hy1
        rw [bvs_len] at hyr
        refine CallG.pure (dsum_spec _ K (.right (.right hK _) _) hk yv ybs (.right (.left hyr F) _) (by omega) hy4) ?_
        rintro _ _ ⟨rfl, rfl⟩
        conv=>whnf
        refine .all ?_
        conv=>whnf
        refine ⟨by decide, ?_⟩
        conv=>whnf
        refine CallG.of (pre := [cel c.q 176 [c.top, .int .i64 c.len]]) (rest := []) (mput_spec hk _ (.right (.right hK _) _) ((hbI.left F).right _) c.q c.top c.len c.tree hw.node hw.tree (dig K (strN key)) (dig K ybs) hd hdy) (Ent.refl _) ?_
        rintro _ _ ⟨Ns, top', len', rfl, hN⟩
        conv=>whnf
        refine ⟨rfl, ?_⟩
        conv=>whnf
        obtain ⟨c', hc'⟩ : ∃ z, z = c.next (dig K (strN key)) V' S' kv' ks2 (putT (dig K (strN key)) (dig K ybs) 256 c.tree) top' len' Ns := ⟨_, rfl⟩
        have hT := (putT_wf hd hdy 256 0 c.tree rfl hw.tree (along_zero _ _)).1
        have hwf : c'.wf K (n + 1) := by
          rw [hc']
          exact next_wf hw hS hsh hsort2 hlen2 hV hVk hsame hmem hN hT
        refine ⟨c'.pieces 151 176 212 t, ?_, c', ⟨fun h => by rw [hc']; exact hput h, fun h => by rw [hc']; exact hdel h, hwf, ?_⟩, rfl⟩
        · have eo : c'.ofs = putO c.ofs (dig K (strN key)) kv' ks2 := by rw [hc']; simp [TabD.next, hne2]
          have ev : c'.vals = V' := by rw [hc']; rfl
          have eq' : c'.q = c.q ∧ c'.vb = c.vb ∧ c'.ob = c.ob ∧ c'.Bs = Ns ++ c.Bs ∧ c'.S = S' ∧ c'.top = top' ∧ c'.len = len' := by rw [hc']; exact ⟨rfl, rfl, rfl, rfl, rfl, rfl, rfl⟩
          obtain ⟨q1, q2, q3, q4, q5, q6, q7⟩ := eq'
          unfold TabD.pieces
          rw [eo, ev, q1, q2, q3, q4, q5, q6, q7, rcs_app]
          rw [List.append_nil]
          exact lay_fin
        · have e : (c'.at (dig K (strN key))).2 = ks2 := by rw [hc']; exact next_at
          have e2 : c'.vals = V' := by rw [hc']; rfl
          have e3 : c'.lastD K (dig K (strN key)) = dig K ybs := by
            unfold TabD.lastD
            rw [e, hlst, e2]
            show dig K (((getK V' lst).map (·.2)).getD []) = _
            rw [hy]
            rfl
          rw [e3, hc']
          rfl
    · have hb' : b = false := hnb
      subst hb'
      have hnin : key ∉ ks := fun h => by have := (hbs.mem hk2).2 h; cases this
      have hno : getK c.vals key = none := by
        cases h : getK c.vals key with
        | none => rfl
        | some y => exact absurd (hthere.2 (by rw [h]; rfl)) hnin
      obtain ⟨ks2, eks2⟩ : ∃ z, z = ks := ⟨_, rfl⟩
      obtain ⟨kv', ekv'⟩ : ∃ z, z = kv := ⟨_, rfl⟩
      obtain ⟨V', hV'⟩ : ∃ z, z = c.vals := ⟨_, rfl⟩
      obtain ⟨S', hS'⟩ : ∃ z, z = c.S := ⟨_, rfl⟩
      have hmem : ∀ k, k ∈ ks2 ↔ dig K (strN k) = dig K (strN key) ∧ (getK V' k).isSome = true := fun k => by rw [eks2, hV']; exact hkiff k
      have hkv' : SlV kv' ks2.length := by rw [ekv', eks2]; have h := hk1.sl; rw [svs_len] at h; exact h
      have hS : ∀ p ∈ c.S, p ∈ S' := fun p hp => by rw [hS']; exact hp
      have hsh : ShIn S' kv' (svs ks2) := by rw [ekv', eks2]; exact hk1.mono hS
      have hV : ∀ p ∈ V', ShIn S' p.2.1 (bvs p.2.2) ∧ p.2.2.length ≤ 4096 ∧ p.2.2 ≠ [] ∧ ∀ b ∈ p.2.2, b < 256 := fun p hp => by
        rw [hV'] at hp
        obtain ⟨g1, g2, g3, g4⟩ := hw.vals p hp
        exact ⟨g1.mono hS, g2, g3, g4⟩
      have hVk : ∀ p ∈ V', 0 < p.1.size ∧ p.1.size ≤ 128 := fun p hp => by
        rw [hV'] at hp
        exact hw.keys p hp
      have hsame : ∀ k, k ≠ key → getK V' k = getK c.vals k := fun k hne => by rw [hV']
      have hput : ([] : List Nat) ≠ [] → ∃ x, V' = putK c.vals key x [] := fun h => absurd rfl h
      have hdel : ([] : List Nat) = [] → V' = delK c.vals key := fun _ => by rw [hV', delK_none hno]
      have hlen2 : ks2.length ≤ n + 1 := by rw [eks2]; omega
      have hsort2 : Sorted ks2 := by rw [eks2]; exact hk2
      conv=>whnf
      rw [← ekv']
      refine LenG.sl hkv' ?_
      conv=>whnf
      refine CondG.dec (fun hz => ?_) (fun hz => ?_)
      · have hz2 : ks2 = [] := List.eq_nil_of_length_eq_zero (by omega)
        refine DrawG.mk 6 (cel b6 178 (bvs (dig K (strN key))) :: cel t 151 [.map (some c.vb), .pointer (some ⟨c.q, 0, none⟩), .map (some c.ob)] :: mapS c.vb (kvM V') :: cel c.q 176 [c.top, .int .i64 c.len] :: (rcs 212 c.Bs ++ shs S')) [mapP digV digOk c.ob (ofM c.ofs)] ?_ ?_
        · rw [hS', hV']
          exact Ent.front 3 rfl
        conv=>whnf
        refine .take 0 ?_
        conv=>whnf
        refine ⟨rfl, ?_⟩
        conv=>whnf
        refine .take 1 ?_
        conv=>whnf
        refine ⟨rfl, ?_⟩
        conv=>whnf
        refine .take 2 ?_
        conv=>whnf
        refine ⟨rfl, ?_⟩
        conv=>whnf
        refine .take 3 ?_
        conv=>whnf
        refine ⟨rfl, ?_⟩
        conv=>whnf
        refine LoadG.at (.tl (.here rfl)) ?_
        conv=>whnf
        refine .take 4 ?_
        conv=>whnf
        refine ⟨rfl, ?_⟩
        conv=>whnf
        refine LoadNG.at (vs := bvs (dig K (strN key))) (by rw [bvs_len, ld]) .all ?_
        conv=>whnf
        refine .all ?_
        conv=>whnf
        refine ⟨by decide, ?_⟩
        conv=>whnf
        refine DoesG.delM digT ofT ld ?_
        rw [delM_of c.ofs (dig K (strN key))]
        conv=>whnf
        refine ⟨rfl, ?_⟩
        conv=>whnf
        refine DrawG.mk 7 (mapP digV digOk c.ob (ofM (delO c.ofs (dig K (strN key)))) :: cel b6 178 (bvs (dig K (strN key))) :: cel t 151 [.map (some c.vb), .pointer (some ⟨c.q, 0, none⟩), .map (some c.ob)] :: mapS c.vb (kvM V') :: (rcs 212 c.Bs ++ shs S')) [cel c.q 176 [c.top, .int .i64 c.len]] (Ent.front 4 rfl) ?_
        have hbI : BsG (mapP digV digOk c.ob (ofM (delO c.ofs (dig K (strN key)))) :: cel b6 178 (bvs (dig K (strN key))) :: cel t 151 [.map (some c.vb), .pointer (some ⟨c.q, 0, none⟩), .map (some c.ob)] :: mapS c.vb (kvM V') :: (rcs 212 c.Bs ++ shs S')) c.Bs := ((((BsG.here (T := 212) (L := shs S')).tl).tl).tl).tl
        conv=>whnf
        refine .take 0 ?_
        conv=>whnf
        refine ⟨rfl, ?_⟩
        conv=>whnf
        refine .take 1 ?_
        conv=>whnf
        refine ⟨rfl, ?_⟩
        conv=>whnf
        refine .take 2 ?_
        conv=>whnf
        refine ⟨rfl, ?_⟩
        conv=>whnf
        refine .take 3 ?_
        conv=>whnf
        refine ⟨rfl, ?_⟩
        conv=>whnf
        refine LoadG.at (.tl (.tl (.here rfl))) ?_
        conv=>whnf
        refine .take 4 ?_
        conv=>whnf
        refine ⟨rfl, ?_⟩
        conv=>whnf
        refine LoadNG.at (vs := bvs (dig K (strN key))) (by rw [bvs_len, ld]) (.tl .all) ?_
        conv=>whnf
        refine .take 5 ?_
        conv=>whnf
        refine ⟨rfl, ?_⟩
        conv=>whnf
        refine BuildG.of (cs := bvs zd) rfl ?_
        conv=>whnf
        refine .all ?_
        conv=>whnf
        refine ⟨by decide, ?_⟩
        conv=>whnf
        refine CallG.of (pre := [cel c.q 176 [c.top, .int .i64 c.len]]) (rest := []) (mput_spec hk _ (.right (.right hK _) _) ((hbI.left F).right _) c.q c.top c.len c.tree hw.node hw.tree (dig K (strN key)) zd hd IsD.zd) (Ent.refl _) ?_
        rintro _ _ ⟨Ns, top', len', rfl, hN⟩
        conv=>whnf
        refine ⟨rfl, ?_⟩
        conv=>whnf
        obtain ⟨c', hc'⟩ : ∃ z, z = c.next (dig K (strN key)) V' S' kv' ks2 (putT (dig K (strN key)) zd 256 c.tree) top' len' Ns := ⟨_, rfl⟩
        have hT := (putT_wf hd IsD.zd 256 0 c.tree rfl hw.tree (along_zero _ _)).1
        have hwf : c'.wf K (n + 1) := by
          rw [hc']
          exact next_wf hw hS hsh hsort2 hlen2 hV hVk hsame hmem hN hT
        refine ⟨c'.pieces 151 176 212 t, ?_, c', ⟨fun h => by rw [hc']; exact hput h, fun h => by rw [hc']; exact hdel h, hwf, ?_⟩, rfl⟩
        · have eo : c'.ofs = delO c.ofs (dig K (strN key)) := by rw [hc']; simp [TabD.next, hz2]
          have ev : c'.vals = V' := by rw [hc']; rfl
          have eq' : c'.q = c.q ∧ c'.vb = c.vb ∧ c'.ob = c.ob ∧ c'.Bs = Ns ++ c.Bs ∧ c'.S = S' ∧ c'.top = top' ∧ c'.len = len' := by rw [hc']; exact ⟨rfl, rfl, rfl, rfl, rfl, rfl, rfl⟩
          obtain ⟨q1, q2, q3, q4, q5, q6, q7⟩ := eq'
          unfold TabD.pieces
          rw [eo, ev, q1, q2, q3, q4, q5, q6, q7, rcs_app]
          rw [List.append_nil]
          exact lay_fin
        · have e : (c'.at (dig K (strN key))).2 = ks2 := by rw [hc']; exact next_at
          have e3 : c'.lastD K (dig K (strN key)) = zd := by
            unfold TabD.lastD
            rw [e, hz2]
            rfl
          rw [e3, hc']
          rfl
      · have hne2 : ks2 ≠ [] := fun h => hz (by rw [h]; rfl)
        refine DrawG.mk 6 (cel b6 178 (bvs (dig K (strN key))) :: TabD.pieces 151 176 212 t { c with vals := V', S := S' }) [] ?_ ?_
        · rw [hS', hV']
          exact Ent.refl _
        conv=>whnf
        refine .take 0 ?_
        conv=>whnf
        refine ⟨rfl, ?_⟩
        conv=>whnf
        refine .take 1 ?_
        conv=>whnf
        refine ⟨rfl, ?_⟩
        conv=>whnf
        refine .take 2 ?_
        conv=>whnf
        refine ⟨rfl, ?_⟩
        conv=>whnf
        refine .take 3 ?_
        conv=>whnf
        refine ⟨rfl, ?_⟩
        conv=>whnf
        refine LoadG.at (.tl (.here rfl)) ?_
        conv=>whnf
        refine .take 4 ?_
        conv=>whnf
        refine ⟨rfl, ?_⟩
        conv=>whnf
        refine LoadNG.at (vs := bvs (dig K (strN key))) (by rw [bvs_len, ld]) .all ?_
        conv=>whnf
        refine .take 5 ?_
        conv=>whnf
        refine ⟨rfl, ?_⟩
        conv=>whnf
        refine .all ?_
        conv=>whnf
        refine ⟨by decide, ?_⟩
        conv=>whnf
        refine ⟨rfl, ?_⟩
        conv=>whnf
        refine DoesG.ent (Ent.front 3 rfl) ?_
        refine DoesG.upd digT ofT ld ?_
        rw [putM_of c.ofs (dig K (strN key)) kv' ks2]
        conv=>whnf
        refine ⟨rfl, ?_⟩
        conv=>whnf
        have hlp : 0 < ks2.length := List.length_pos_iff.2 hne2
        obtain ⟨lst, hlst⟩ : ∃ l, ks2.getLast? = some l := ⟨ks2.getLast hne2, List.getLast?_eq_some_getLast hne2⟩
        have hlast : ks2[ks2.length - 1]? = some lst := by rw [← List.getLast?_eq_getElem?]; exact hlst
        obtain ⟨yv, ybs, hy⟩ : ∃ yv ybs, getK V' lst = some (yv, ybs) := by
          have h := ((hmem lst).1 (List.mem_of_getElem? hlast)).2
          cases hg : getK V' lst with
          | none => rw [hg] at h; cases h
          | some y => exact ⟨y.1, y.2, rfl⟩
        obtain ⟨hy1, hy2, hy3, hy4⟩ := hV _ (getK_mem hy)
        have hdy := IsD.dig K ybs
        have hy2' : ybs.length ≤ 4096 := hy2
        refine DrawG.mk 18 (mapP digV digOk c.ob (ofM (putO c.ofs (dig K (strN key)) kv' ks2)) :: cel b6 178 (bvs (dig K (strN key))) :: cel t 151 [.map (some c.vb), .pointer (some ⟨c.q, 0, none⟩), .map (some c.ob)] :: mapS c.vb (kvM V') :: (rcs 212 c.Bs ++ shs S')) [cel c.q 176 [c.top, .int .i64 c.len]] (Ent.front 4 rfl) ?_
        have hsI : ShG (mapP digV digOk c.ob (ofM (putO c.ofs (dig K (strN key)) kv' ks2)) :: cel b6 178 (bvs (dig K (strN key))) :: cel t 151 [.map (some c.vb), .pointer (some ⟨c.q, 0, none⟩), .map (some c.ob)] :: mapS c.vb (kvM V') :: (rcs 212 c.Bs ++ shs S')) S' := fun v cs h => by
          have h2 := (ShG.here (S := S') (L := [])) v cs h
          rw [List.append_nil] at h2
          exact .tl (.tl (.tl (.tl (h2.right _))))
        have hbI : BsG (mapP digV digOk c.ob (ofM (putO c.ofs (dig K (strN key)) kv' ks2)) :: cel b6 178 (bvs (dig K (strN key))) :: cel t 151 [.map (some c.vb), .pointer (some ⟨c.q, 0, none⟩), .map (some c.ob)] :: mapS c.vb (kvM V') :: (rcs 212 c.Bs ++ shs S')) c.Bs := ((((BsG.here (T := 212) (L := shs S')).tl).tl).tl).tl
        have hkI := hsI kv' (svs ks2) hsh
        rw [svs_len] at hkI
        conv=>whnf
        refine .take 0 ?_
        conv=>whnf
        refine ⟨rfl, ?_⟩
        conv=>whnf
        refine .take 1 ?_
        conv=>whnf
        refine ⟨rfl, ?_⟩
        conv=>whnf
        refine .take 2 ?_
        conv=>whnf
        refine ⟨rfl, ?_⟩
        conv=>whnf
        refine .take 3 ?_
        conv=>whnf
        refine ⟨rfl, ?_⟩
        conv=>whnf
        refine LoadG.at (.tl (.tl (.here rfl))) ?_
        conv=>whnf
        refine .take 4 ?_
        conv=>whnf
        refine ⟨rfl, ?_⟩
        conv=>whnf
        refine LoadNG.at (vs := bvs (dig K (strN key))) (by rw [bvs_len, ld]) (.tl .all) ?_
        conv=>whnf
        refine .take 5 ?_
        conv=>whnf
        refine ⟨rfl, ?_⟩
        conv=>whnf
        refine .take 6 ?_
        conv=>whnf
        refine ⟨rfl, ?_⟩
        conv=>whnf
        refine .take 7 ?_
        conv=>whnf
        refine ⟨rfl, ?_⟩
        conv=>whnf
        refine .take 8 ?_
        conv=>whnf
        refine ⟨rfl, ?_⟩
        conv=>whnf
        refine LoadG.at (.tl (.tl (.here rfl))) ?_
        conv=>whnf
        refine .take 9 ?_
        conv=>whnf
        refine ⟨rfl, ?_⟩
        conv=>whnf
        refine .take 10 ?_
        conv=>whnf
        refine ⟨rfl, ?_⟩
        conv=>whnf
        refine .take 11 ?_
        conv=>whnf
        refine ⟨rfl, ?_⟩
        conv=>whnf
        refine LenG.rd hkI ?_
        conv=>whnf
        refine .take 12 ?_
        conv=>whnf
        refine ⟨rfl, ?_⟩
        conv=>whnf
        refine ArithG.i64' ((ks2.length - 1 : Nat) : Int) (by omega) (by omega) ?_
        conv=>whnf
        refine .take 13 ?_
        conv=>whnf
        refine ⟨rfl, ?_⟩
        conv=>whnf
        refine IdxG.rd hkI (by omega) fun b' o' hc => ?_
        conv=>whnf
        refine .take 14 ?_
        conv=>whnf
        refine ⟨rfl, ?_⟩
        conv=>whnf
        refine LoadG.at (hc.one (u := .string lst) (by rw [Int.toNat_natCast, Nat.mul_one]; exact svs_get hlast)) ?_
        conv=>whnf
        refine .all ?_
        conv=>whnf
        refine ⟨by decide, ?_⟩
        conv=>whnf
        refine DoesG.look strT mapT zeroB trivial (MapG.right (MapG.left (.tl (.tl (.tl .here))) F) _) false ?_
        rw [if_neg (by decide), getM_kv, hy]
        conv=>whnf
        refine .all ?_
        conv=>whnf
        refine ⟨by decide, ?_⟩
        conv=>whnf
        have hyr := hsI yv (bvs ybs) hy1
        rw [bvs_len] at hyr
        refine CallG.pure (dsum_spec _ K (.right (.right hK _) _) hk yv ybs (.right (.left hyr F) _) (by omega) hy4) ?_
        rintro _ _ ⟨rfl, rfl⟩
        conv=>whnf
        refine .all ?_
        conv=>whnf
        refine ⟨by decide, ?_⟩
        conv=>whnf
        refine CallG.of (pre := [cel c.q 176 [c.top, .int .i64 c.len]]) (rest := []) (mput_spec hk _ (.right (.right hK _) _) ((hbI.left F).right _) c.q c.top c.len c.tree hw.node hw.tree (dig K (strN key)) (dig K ybs) hd hdy) (Ent.refl _) ?_
        rintro _ _ ⟨Ns, top', len', rfl, hN⟩
        conv=>whnf
        refine ⟨rfl, ?_⟩
        conv=>whnf
        obtain ⟨c', hc'⟩ : ∃ z, z = c.next (dig K (strN key)) V' S' kv' ks2 (putT (dig K (strN key)) (dig K ybs) 256 c.tree) top' len' Ns := ⟨_, rfl⟩
        have hT := (putT_wf hd hdy 256 0 c.tree rfl hw.tree (along_zero _ _)).1
        have hwf : c'.wf K (n + 1) := by
          rw [hc']
          exact next_wf hw hS hsh hsort2 hlen2 hV hVk hsame hmem hN hT
        refine ⟨c'.pieces 151 176 212 t, ?_, c', ⟨fun h => by rw [hc']; exact hput h, fun h => by rw [hc']; exact hdel h, hwf, ?_⟩, rfl⟩
        · have eo : c'.ofs = putO c.ofs (dig K (strN key)) kv' ks2 := by rw [hc']; simp [TabD.next, hne2]
          have ev : c'.vals = V' := by rw [hc']; rfl
          have eq' : c'.q = c.q ∧ c'.vb = c.vb ∧ c'.ob = c.ob ∧ c'.Bs = Ns ++ c.Bs ∧ c'.S = S' ∧ c'.top = top' ∧ c'.len = len' := by rw [hc']; exact ⟨rfl, rfl, rfl, rfl, rfl, rfl, rfl⟩
          obtain ⟨q1, q2, q3, q4, q5, q6, q7⟩ := eq'
          unfold TabD.pieces
          rw [eo, ev, q1, q2, q3, q4, q5, q6, q7, rcs_app]
          rw [List.append_nil]
          exact lay_fin
        · have e : (c'.at (dig K (strN key))).2 = ks2 := by rw [hc']; exact next_at
          have e2 : c'.vals = V' := by rw [hc']; rfl
          have e3 : c'.lastD K (dig K (strN key)) = dig K ybs := by
            unfold TabD.lastD
            rw [e, hlst, e2]
            show dig K (((getK V' lst).map (·.2)).getD []) = _
            rw [hy]
            rfl
          rw [e3, hc']
          rfl
theorem tput_spec (F : List HP) (hK : CelN F 0 0 (wvs K)) (t : Nat) (c : TabD) (n : Nat) (hw : c.wf K n) (hn : n ≤ 8796093022206) (key : ByteArray) (v : Value) (bs : List Nat) (hv : RdS F v bs.length (bvs bs)) (hb : ∀ b ∈ bs, b < 256) :
    SpecF Tryz.prog 42 [.pointer (some ⟨t, 0, none⟩), .string key, v] F (c.pieces 151 176 212 t) (fun r L => r = .int .i64 (mayI key bs.length) ∧ ((mayI key bs.length ≠ 0 ∧ L = c.pieces 151 176 212 t) ∨ (mayI key bs.length = 0 ∧ ∃ c', LayOk K n c key bs c' ∧ L = c'.pieces 151 176 212 t))) := by
  refine fun42.spec rfl ?_
  conv=>whnf
  refine CallG.pure (smay_spec_r _ key v bs.length hv.len) ?_
  rintro _ _ ⟨rfl, rfl⟩
  conv=>whnf
  refine CondG.ndec (fun hne => ?_) (fun heq => ?_)
  · conv=>whnf
    exact ret_here ⟨rfl, .inl ⟨hne, rfl⟩⟩
  conv=>whnf
  have hl := mayI_len heq
  have hks : 0 < key.size ∧ key.size ≤ 128 := by
    unfold mayI at heq
    split at heq
    · cases heq
    · omega
  refine CallG.of (rest := []) (tlay_spec hk _ hK t c n hw hn key v bs hv hl hb hks.1 hks.2) (by rw [List.append_nil]; exact Ent.refl _) ?_
  rintro _ _ ⟨c', hc', rfl⟩
  conv=>whnf
  exact ⟨_, by rw [List.append_nil]; exact Ent.refl _, by rw [heq]; rfl, .inr ⟨heq, c', hc', rfl⟩⟩
omit hk in
end
def tab0 (vb q ob : Nat) : TabD := ⟨vb, q, ob, [], [], .nil, .pointer none, 0, [], []⟩
theorem tab0_wf (K : List W32) (vb q ob n : Nat) : (tab0 vb q ob).wf K n :=
  { vals := fun p h => absurd h (List.not_mem_nil)
    ofs := fun p h => absurd h (List.not_mem_nil)
    back := fun k h => by cases h
    node := .nil
    tree := trivial
    keys := fun p h => absurd h (List.not_mem_nil) }
theorem tab_srcD {K : List W32} {n : Nat} (F : List HP) (t : Nat) (c : TabD) (hw : c.wf K n) : SrcG Tryz.prog (c.pieces 151 176 212 t ++ F) (.iface 99 (.pointer (some ⟨t, 0, none⟩))) (tabFind c.vals) :=
  tab_src _ t c.vb c.vals (.left (.here rfl) F) (MapG.left (.tl .here) F) fun p hp => by
    obtain ⟨h1, h2, _, _⟩ := hw.vals p hp
    refine ⟨by have h := h1.sl; rw [bvs_len] at h; exact h, h2, ?_⟩
    have h := (TabD.shG (TT := 151) (ST := 176) (NT := 212) (t := t) p.2.1 (bvs p.2.2) h1).left F
    rw [bvs_len] at h
    exact h
theorem tab_srcOk {K : List W32} {n : Nat} {c : TabD} (hw : c.wf K n) : SrcOk (tabFind c.vals) := by
  refine ⟨fun k hk => ?_, tabFind_len fun p hp => (hw.vals p hp).2.1⟩
  unfold tabFind
  rw [if_neg (by rw [hk]; decide)]
end Go.Proofs.YtnbcbdlbejdkpaaGreatDoor
namespace Go.Proofs.YtnbcbdlbejdkpaaGreatDoor
open Go Go.Sl
theorem pairsT : ElT Tryz.prog 22 103 2 40 := .of (by kernel_rfl)
theorem may7_spec (F : List HP) (key : ByteArray) (v : Value) (n : Nat) (hv : ∃ a c, v = .slice a n c) : SpecF Tryz.prog 69 [.string key, v] F [] (fun r L => r = .int .i64 (mayI key n) ∧ L = []) := by
  obtain ⟨va, vc, rfl⟩ := hv
  refine fun69.spec rfl ?_
  conv=>whnf
  refine CondG.dec (fun h1 => ?_) (fun h1 => ?_)
  · (conv=>whnf);refine .tt ?_;(conv=>whnf);refine .tt ?_;(conv=>whnf);refine .tt ?_;(conv=>whnf);refine .tt ?_;(conv=>whnf)
    refine ret_here ⟨congrArg (Value.int .i64) ?_, rfl⟩
    unfold mayI
    rw [if_pos (.inl (by omega))]
  (conv=>whnf);refine .ff ?_;(conv=>whnf);refine .ff ?_;(conv=>whnf);refine .ff ?_;(conv=>whnf)
  refine CondG.dec (fun h2 => ?_) (fun h2 => ?_)
  · conv=>whnf
    refine ret_here ⟨congrArg (Value.int .i64) ?_, rfl⟩
    unfold mayI
    rw [if_pos (.inr (by omega))]
  conv=>whnf
  refine LenG.lit ?_
  conv=>whnf
  refine CondG.dec (fun h3 => ?_) (fun h3 => ?_)
  · conv=>whnf
    refine ret_here ⟨congrArg (Value.int .i64) ?_, rfl⟩
    unfold mayI
    rw [if_neg (by omega), if_pos (by omega)]
  conv=>whnf
  refine ret_here ⟨congrArg (Value.int .i64) ?_, rfl⟩
  unfold mayI
  rw [if_neg (by omega), if_neg (by omega)]
theorem twin_spec (F : List HP) (v : Value) (bs : List Nat) (hv : RdS F v bs.length (bvs bs)) (hl : bs.length ≤ 1099511627776) : SpecF Tryz.prog 86 [v] F [] (fun r L => SlV r bs.length ∧ L = [own 1 r bs.length (bvs bs)]) := by
  obtain ⟨va, vc, rfl⟩ := hv.len
  refine fun86.spec rfl ?_
  conv=>whnf
  refine LenG.lit ?_
  conv=>whnf
  refine DoesG.makeG bytesT .i64 .i64 (by omega) (by simp only [maxLen]; omega) fun b zs hz => ?_
  conv=>whnf
  refine DoesG.copyS (o := 0) (cs := bvs bs) bytesT.und (by kernel_rfl) (.tl (.right hv _)) (bvs_len bs) (Nat.le_refl _) (by omega) (bvs_one _) (cur' := bvs bs) (by
    rw [List.take_zero, List.nil_append, List.drop_eq_nil_of_le (by omega), List.append_nil]) ?_
  conv=>whnf
  refine ⟨_, own_of_cel (n := bs.length) (sz := 1) (by rw [bvs_len, Nat.mul_one]) (by simp only [maxLen]; omega), .inr ⟨b, bs.length, rfl, Nat.le_refl _⟩, rfl⟩
theorem with_spec (F : List HP) (lv : Value) (ls : List PairD) (hr : RdS F lv ls.length (pairsC ls)) (key : ByteArray) (v : Value) (bs : List Nat) (hv : RdS F v bs.length (bvs bs)) (hb : bs.length ≤ 4096) (hl : ls.length ≤ 3518437208882) (hok : ∀ p ∈ ls, p.v.oneCell' = true) :
    SpecF Tryz.prog 115 [lv, .string key, v] F [] (fun r L => ∃ x, SlV x bs.length ∧ SlV r (withL PairD.key key ⟨key, x, bs⟩ false ls).length ∧
      L = [own 2 r (withL PairD.key key ⟨key, x, bs⟩ false ls).length (pairsC (withL PairD.key key ⟨key, x, bs⟩ false ls)), own 1 x bs.length (bvs bs)]) := by
  obtain ⟨la, lc, rfl⟩ := hr.len
  refine fun115.spec rfl ?_
  conv=>whnf
  refine LoopG.mk (fun m ev L => ∃ (i : Nat) (d : Bool) (out : List PairD) (ov x : Value), i ≤ ls.length ∧ m = ls.length - i ∧ SlV ov out.length ∧ out.length ≤ i + (if d then 1 else 0) ∧ (d = true → SlV x bs.length) ∧
      (∀ new : PairD, (d = true → new = ⟨key, x, bs⟩) → out ++ withL PairD.key key new d (ls.drop i) = withL PairD.key key new false ls) ∧
      ev = [(0, .slice la ls.length lc), (1, .string key), (2, v), (6, .slice none 0 0), (7, ov), (8, .bool d), (9, .int .i64 i)] ∧ L = own 2 ov out.length (pairsC out) :: (if d then [own 1 x bs.length (bvs bs)] else [])) ls.length
    [(0, .slice la ls.length lc), (1, .string key), (2, v), (6, .slice none 0 0), (7, .slice none 0 0), (8, .bool false), (9, .int .i64 0)] [own 2 (.slice none 0 0) 0 (pairsC [])] ⟨rfl, rfl, rfl, rfl, rfl, rfl, rfl, trivial⟩ (fun w G hs => Sat.own_nil hs)
    ⟨0, false, [], .slice none 0 0, .slice none 0 0, Nat.zero_le _, rfl, .inl ⟨rfl, rfl⟩, Nat.le_refl _, fun h => absurd h (by decide), fun _ _ => rfl, rfl, rfl⟩ ?_
  rintro m ev L ⟨i, d, out, ov, x, hi, rfl, hov, hol, hx, hw, rfl, rfl⟩
  conv=>whnf
  refine LenG.lit ?_
  conv=>whnf
  refine CondG.dec (fun hlt => ?_) (fun hlt => ?_)
  · have hi' : i < ls.length := by omega
    obtain ⟨p, hp⟩ : ∃ p, ls[i]? = some p := ⟨ls[i], List.getElem?_eq_getElem hi'⟩
    obtain ⟨hp1, hp2⟩ := pairsC_get hp
    have hpo := hok p (List.mem_of_getElem? hp)
    have hpc : ∀ u ∈ p.cells, u.oneCell' = true := by
      intro u hu
      simp only [PairD.cells, List.mem_cons, List.not_mem_nil, or_false] at hu
      rcases hu with rfl | rfl
      · rfl
      · exact hpo
    cases d with
    | true =>
      have hx' := hx rfl
      have hws := fun new h => (hw new h).symm.trans (by rw [withL_step PairD.key key new true hp])
      simp only [Bool.not_true, Bool.false_and, Bool.true_or, Bool.false_eq_true, if_false, List.nil_append] at hws
      have hol1 : out.length ≤ i + 1 := hol
      (conv=>whnf);repeat((with_reducible first|refine .ff ?_|refine .nff ?_);conv=>whnf)
      refine IdxG.rd hr (by omega) fun b9 o9 hc9 => ?_
      conv=>whnf
      refine LoadG.atF (hc9.one (i := i * 2) (u := .string p.key) hp1) ?_
      conv=>whnf
      refine CondG.ndec (fun hne => ?_) (fun heq => ?_)
      · conv=>whnf
        refine IdxG.rd hr (by omega) fun b8 o8 hc8 => ?_
        conv=>whnf
        refine LoadNG.atF (vs := p.cells) rfl (hc8.part (i := i * 2) (pairsC_at hp)) ?_
        conv=>whnf
        refine BuildG.of (cs := p.cells) rfl ?_
        conv=>whnf
        intro b6
        conv=>whnf
        refine DoesG.ent (Ent.front 1 rfl) ?_
        refine app_own pairsT 22 (m := 1) (ys := p.cells) (.mk _ _ _ _ _ (Nat.le_refl _) (.tl (.left .all _))) rfl hpc (by simp only [maxLen]; omega) (by omega) fun ov2 hov2 hl2 _ => ?_
        conv=>whnf
        refine ArithG.i64' ((i + 1 : Nat) : Int) (by omega) (by omega) ?_
        conv=>whnf
        have eo : pairsC out ++ p.cells = pairsC (out ++ [p]) := by rw [pairsC_app]; simp [pairsC]
        have el : (out ++ [p]).length = (out).length + 1 := by rw [List.length_append]; rfl
        rw [eo]
        refine ⟨ls.length - (i + 1), [(0, .slice la ls.length lc), (1, .string key), (2, v), (6, .slice none 0 0), (7, ov2), (8, .bool true), (9, .int .i64 (i + 1 : Nat))], _, by omega, ⟨rfl, rfl, rfl, rfl, rfl, rfl, rfl, trivial⟩, ?_, i + 1, true, out ++ [p], ov2, x, by omega, rfl, by rw [el]; exact hov2, by rw [el]; simp; omega, (fun _ => hx'), fun new hn => ?_, rfl, rfl⟩
        · rw [el]
          exact Ent.sel (T := []) (A := [_, _, _]) [0, 2] rfl
        · rw [hws new (by first | exact hn | exact fun h => h.elim | exact fun _ => hn rfl), if_neg hne]
          simp
      · conv=>whnf
        refine ArithG.i64' ((i + 1 : Nat) : Int) (by omega) (by omega) ?_
        conv=>whnf
        refine ⟨ls.length - (i + 1), [(0, .slice la ls.length lc), (1, .string key), (2, v), (6, .slice none 0 0), (7, ov), (8, .bool true), (9, .int .i64 (i + 1 : Nat))], _, by omega, ⟨rfl, rfl, rfl, rfl, rfl, rfl, rfl, trivial⟩, ?_, i + 1, true, out, ov, x, by omega, rfl, hov, by simp; omega, (fun _ => hx'), fun new hn => ?_, rfl, rfl⟩
        · exact Ent.sel (T := []) (A := [_, _]) [0, 1] rfl
        · rw [hws new (by first | exact hn | exact fun h => h.elim | exact fun _ => hn rfl), if_pos heq]
          simp
    | false =>
      have hws := fun new h => (hw new h).symm.trans (by rw [withL_step PairD.key key new false hp])
      simp only [Bool.not_false, Bool.true_and, Bool.false_or] at hws
      have hol0 : out.length ≤ i := hol
      (conv=>whnf);repeat((with_reducible first|refine .tt ?_|refine .ntt ?_);conv=>whnf)
      refine IdxG.rd hr (by omega) fun b7 o7 hc7 => ?_
      (conv=>whnf);refine .tt ?_;(conv=>whnf);refine .tt ?_;(conv=>whnf)
      refine LoadG.atF (hc7.one (i := i * 2) (u := .string p.key) hp1) ?_
      (conv=>whnf);refine .tt ?_;(conv=>whnf);refine .tt ?_;(conv=>whnf)
      refine DoesG.geq ?_
      (conv=>whnf);refine .tt ?_;(conv=>whnf)
      refine CondG.split (fun hge => ?_) (fun hge => ?_)
      · simp only [hge, if_true] at hws
        conv=>whnf
        refine CallG.pure (twin_spec _ v bs (.right hv _) (by omega)) ?_
        rintro x _ ⟨hx', rfl⟩
        obtain ⟨xa, xc, hxe⟩ := hx'.len
        conv=>whnf
        refine BuildG.of (cs := [.string key, x]) (by rw [hxe]; rfl) ?_
        conv=>whnf
        refine BuildG.of (cs := [.string key, x]) (by rw [hxe]; rfl) ?_
        conv=>whnf
        intro b5
        conv=>whnf
        refine DoesG.ent (Ent.front 2 rfl) ?_
        refine app_own pairsT 22 (m := 1) (ys := [.string key, x]) (.mk _ _ _ _ _ (Nat.le_refl _) (.tl (.left .all _))) rfl (by simp [Value.oneCell', hxe]) (by simp only [maxLen]; omega) (by omega) fun ov1 hov1 hl1 _ => ?_
        conv=>whnf
        have eo1 : pairsC out ++ [.string key, x] = pairsC (out ++ [⟨key, x, bs⟩]) := by rw [pairsC_app]; rfl
        have el1 : (out ++ [(⟨key, x, bs⟩ : PairD)]).length = out.length + 1 := by simp
        have hol1 : (out ++ [(⟨key, x, bs⟩ : PairD)]).length ≤ i + 1 := by simp at hol; omega
        have hws2 : ∀ new : PairD, (true = true → new = ⟨key, x, bs⟩) → (out ++ [⟨key, x, bs⟩]) ++ ((if p.key = key then [] else [p]) ++ withL PairD.key key new true (ls.drop (i + 1))) = withL PairD.key key new false ls := fun new h => by
          rw [hws new (fun h2 => by cases h2), h rfl]
          simp
        clear hws
        have hws := fun new h => (hws2 new h).symm
        rw [eo1, ← el1]
        rw [← el1] at hov1
        refine IdxG.rd hr (by omega) fun b9 o9 hc9 => ?_
        conv=>whnf
        refine LoadG.atF (hc9.one (i := i * 2) (u := .string p.key) hp1) ?_
        conv=>whnf
        refine CondG.ndec (fun hne => ?_) (fun heq => ?_)
        · conv=>whnf
          refine IdxG.rd hr (by omega) fun b8 o8 hc8 => ?_
          conv=>whnf
          refine LoadNG.atF (vs := p.cells) rfl (hc8.part (i := i * 2) (pairsC_at hp)) ?_
          conv=>whnf
          refine BuildG.of (cs := p.cells) rfl ?_
          conv=>whnf
          intro b6
          conv=>whnf
          refine DoesG.ent (Ent.front 1 rfl) ?_
          refine app_own pairsT 22 (m := 1) (ys := p.cells) (.mk _ _ _ _ _ (Nat.le_refl _) (.tl (.left .all _))) rfl hpc (by simp only [maxLen]; omega) (by omega) fun ov2 hov2 hl2 _ => ?_
          conv=>whnf
          refine ArithG.i64' ((i + 1 : Nat) : Int) (by omega) (by omega) ?_
          conv=>whnf
          have eo : pairsC (out ++ [(⟨key, x, bs⟩ : PairD)]) ++ p.cells = pairsC ((out ++ [(⟨key, x, bs⟩ : PairD)]) ++ [p]) := by rw [pairsC_app]; simp [pairsC]
          have el : ((out ++ [(⟨key, x, bs⟩ : PairD)]) ++ [p]).length = ((out ++ [(⟨key, x, bs⟩ : PairD)])).length + 1 := by rw [List.length_append]; rfl
          rw [eo]
          refine ⟨ls.length - (i + 1), [(0, .slice la ls.length lc), (1, .string key), (2, v), (6, .slice none 0 0), (7, ov2), (8, .bool true), (9, .int .i64 (i + 1 : Nat))], _, by omega, ⟨rfl, rfl, rfl, rfl, rfl, rfl, rfl, trivial⟩, ?_, i + 1, true, (out ++ [(⟨key, x, bs⟩ : PairD)]) ++ [p], ov2, x, by omega, rfl, by rw [el]; exact hov2, by rw [el]; simp; omega, (fun _ => hx'), fun new hn => ?_, rfl, rfl⟩
          · rw [el]
            exact Ent.sel (T := []) (A := [_, _, _, _]) [0, 3] rfl
          · rw [hws new (by first | exact hn | exact fun h => h.elim | exact fun _ => hn rfl), if_neg hne]
            simp
        · conv=>whnf
          refine ArithG.i64' ((i + 1 : Nat) : Int) (by omega) (by omega) ?_
          conv=>whnf
          refine ⟨ls.length - (i + 1), [(0, .slice la ls.length lc), (1, .string key), (2, v), (6, .slice none 0 0), (7, ov1), (8, .bool true), (9, .int .i64 (i + 1 : Nat))], _, by omega, ⟨rfl, rfl, rfl, rfl, rfl, rfl, rfl, trivial⟩, ?_, i + 1, true, (out ++ [(⟨key, x, bs⟩ : PairD)]), ov1, x, by omega, rfl, hov1, by simp; omega, (fun _ => hx'), fun new hn => ?_, rfl, rfl⟩
          · exact Ent.sel (T := []) (A := [_, _, _]) [0, 2] rfl
          · rw [hws new (by first | exact hn | exact fun h => h.elim | exact fun _ => hn rfl), if_pos heq]
            simp
      · simp only [hge, if_false, List.nil_append, Bool.false_eq_true] at hws
        have hol1 : out.length ≤ i + 1 := by simp at hol; omega
        conv=>whnf
        refine IdxG.rd hr (by omega) fun b9 o9 hc9 => ?_
        conv=>whnf
        refine LoadG.atF (hc9.one (i := i * 2) (u := .string p.key) hp1) ?_
        conv=>whnf
        refine CondG.ndec (fun hne => ?_) (fun heq => ?_)
        · conv=>whnf
          refine IdxG.rd hr (by omega) fun b8 o8 hc8 => ?_
          conv=>whnf
          refine LoadNG.atF (vs := p.cells) rfl (hc8.part (i := i * 2) (pairsC_at hp)) ?_
          conv=>whnf
          refine BuildG.of (cs := p.cells) rfl ?_
          conv=>whnf
          intro b6
          conv=>whnf
          refine DoesG.ent (Ent.front 1 rfl) ?_
          refine app_own pairsT 22 (m := 1) (ys := p.cells) (.mk _ _ _ _ _ (Nat.le_refl _) (.tl (.left .all _))) rfl hpc (by simp only [maxLen]; omega) (by omega) fun ov2 hov2 hl2 _ => ?_
          conv=>whnf
          refine ArithG.i64' ((i + 1 : Nat) : Int) (by omega) (by omega) ?_
          conv=>whnf
          have eo : pairsC out ++ p.cells = pairsC (out ++ [p]) := by rw [pairsC_app]; simp [pairsC]
          have el : (out ++ [p]).length = (out).length + 1 := by rw [List.length_append]; rfl
          rw [eo]
          refine ⟨ls.length - (i + 1), [(0, .slice la ls.length lc), (1, .string key), (2, v), (6, .slice none 0 0), (7, ov2), (8, .bool false), (9, .int .i64 (i + 1 : Nat))], _, by omega, ⟨rfl, rfl, rfl, rfl, rfl, rfl, rfl, trivial⟩, ?_, i + 1, false, out ++ [p], ov2, x, by omega, rfl, by rw [el]; exact hov2, by rw [el]; simp; omega, (fun h => absurd h (by decide)), fun new hn => ?_, rfl, rfl⟩
          · rw [el]
            exact Ent.sel (T := []) (A := [_, _]) [0] rfl
          · rw [hws new (by first | exact hn | exact fun h => h.elim | exact fun _ => hn rfl), if_neg hne]
            simp
        · conv=>whnf
          refine ArithG.i64' ((i + 1 : Nat) : Int) (by omega) (by omega) ?_
          conv=>whnf
          refine ⟨ls.length - (i + 1), [(0, .slice la ls.length lc), (1, .string key), (2, v), (6, .slice none 0 0), (7, ov), (8, .bool false), (9, .int .i64 (i + 1 : Nat))], _, by omega, ⟨rfl, rfl, rfl, rfl, rfl, rfl, rfl, trivial⟩, ?_, i + 1, false, out, ov, x, by omega, rfl, hov, by simp; omega, (fun h => absurd h (by decide)), fun new hn => ?_, rfl, rfl⟩
          · exact Ent.sel (T := []) (A := [_]) [0] rfl
          · rw [hws new (by first | exact hn | exact fun h => h.elim | exact fun _ => hn rfl), if_pos heq]
            simp
  · obtain rfl : i = ls.length := by omega
    have hdr : ls.drop ls.length = [] := List.drop_length
    cases d with
    | true =>
      have hx' := hx rfl
      have ew := hw ⟨key, x, bs⟩ (fun _ => rfl)
      rw [hdr] at ew
      have ew2 : out = withL PairD.key key ⟨key, x, bs⟩ false ls := by rw [← ew]; simp [withL]
      (conv=>whnf);refine .nff ?_;(conv=>whnf)
      refine ret_here ⟨x, hx', ?_, ?_⟩
      · rw [← ew2]; exact hov
      · rw [← ew2]; rfl
    | false =>
      have hol0 : out.length ≤ ls.length := hol
      (conv=>whnf);refine .ntt ?_;(conv=>whnf)
      refine CallG.pure (twin_spec _ v bs (.right hv _) (by omega)) ?_
      rintro x _ ⟨hx', rfl⟩
      obtain ⟨xa, xc, hxe⟩ := hx'.len
      have ew := hw ⟨key, x, bs⟩ (fun h => absurd h (by decide))
      rw [hdr] at ew
      have ew2 : out ++ [⟨key, x, bs⟩] = withL PairD.key key ⟨key, x, bs⟩ false ls := by rw [← ew]; simp [withL]
      conv=>whnf
      refine BuildG.of (cs := [.string key, x]) (by rw [hxe]; rfl) ?_
      conv=>whnf
      refine BuildG.of (cs := [.string key, x]) (by rw [hxe]; rfl) ?_
      conv=>whnf
      intro b5
      conv=>whnf
      refine DoesG.ent (Ent.front 2 rfl) ?_
      refine app_own pairsT 22 (m := 1) (ys := [.string key, x]) (.mk _ _ _ _ _ (Nat.le_refl _) (.tl (.left .all _))) rfl (by simp [Value.oneCell', hxe]) (by simp only [maxLen]; omega) (by omega) fun ov1 hov1 hl1 _ => ?_
      conv=>whnf
      have eo1 : pairsC out ++ [.string key, x] = pairsC (out ++ [⟨key, x, bs⟩]) := by rw [pairsC_app]; rfl
      have el1 : (out ++ [(⟨key, x, bs⟩ : PairD)]).length = out.length + 1 := by simp
      rw [eo1, ← el1, ew2]
      rw [← el1, ew2] at hov1
      exact ⟨_, Ent.sel (T := []) (A := [_, _, _]) [0, 2] rfl, x, hx', hov1, rfl⟩
theorem put7_spec (F : List HP) (lv : Value) (ls : List PairD) (hr : RdS F lv ls.length (pairsC ls)) (key : ByteArray) (v : Value) (bs : List Nat) (hv : RdS F v bs.length (bvs bs)) (hl : ls.length ≤ 3518437208882) (hok : ∀ p ∈ ls, SlV p.v p.bs.length) :
    SpecF Tryz.prog 70 [lv, .string key, v] F [] (fun r L => (mayI key bs.length ≠ 0 ∧ r = .tuple #[lv, .int .i64 (mayI key bs.length)] ∧ L = []) ∨
      (mayI key bs.length = 0 ∧ ∃ x ov out, SlV x bs.length ∧ SlV ov out.length ∧ out = (withL PairD.key key ⟨key, x, bs⟩ false ls).filter (fun p => decide (0 < p.bs.length)) ∧ r = .tuple #[ov, .int .i64 0] ∧
        L = [own 2 ov out.length (pairsC out), own 1 x bs.length (bvs bs)])) := by
  refine fun70.spec rfl ?_
  conv=>whnf
  refine CallG.pure (may7_spec _ key v bs.length hv.len) ?_
  rintro _ _ ⟨rfl, rfl⟩
  conv=>whnf
  refine CondG.ndec (fun hne => ?_) (fun heq => ?_)
  · conv=>whnf
    exact ret_here (.inl ⟨hne, rfl, rfl⟩)
  conv=>whnf
  refine CallG.pure (with_spec _ lv ls (.right hr _) key v bs (.right hv _) (mayI_le heq).1 hl (fun p hp => by obtain ⟨a, c, h⟩ := (hok p hp).len; rw [h]; rfl)) ?_
  rintro mv _ ⟨x, hx, hmv, rfl⟩
  obtain ⟨more, hmore⟩ : ∃ z, z = withL PairD.key key ⟨key, x, bs⟩ false ls := ⟨_, rfl⟩
  rw [← hmore] at hmv ⊢
  have hmok : ∀ p ∈ more, SlV p.v p.bs.length := fun p hp => by
    rw [hmore] at hp
    rcases withL_mem PairD.key hp with rfl | ⟨h, _⟩
    · exact hx
    · exact hok p h
  have hml : more.length ≤ 3518437208883 := by
    have := withL_len PairD.key key (⟨key, x, bs⟩ : PairD) ls false
    rw [← hmore] at this
    simp at this
    omega
  obtain ⟨ma, mc, rfl⟩ := hmv.len
  conv=>whnf
  refine LoopG.mk (fun m ev L => ∃ (i : Nat) (out : List PairD) (ov : Value), i ≤ more.length ∧ m = more.length - i ∧ SlV ov out.length ∧ out.length ≤ i ∧
      out ++ (more.drop i).filter (fun p => decide (0 < p.bs.length)) = more.filter (fun p => decide (0 < p.bs.length)) ∧
      ev = [(6, .slice none 0 0), (7, .int .i64 0), (9, ov), (10, .slice ma more.length mc), (11, .int .i64 i)] ∧ L = [own 2 ov out.length (pairsC out), own 2 (.slice ma more.length mc) more.length (pairsC more), own 1 x bs.length (bvs bs)]) more.length
    [(6, .slice none 0 0), (7, .int .i64 0), (9, .slice none 0 0), (10, .slice ma more.length mc), (11, .int .i64 0)] [own 2 (.slice none 0 0) 0 (pairsC []), own 2 (.slice ma more.length mc) more.length (pairsC more), own 1 x bs.length (bvs bs)] ⟨rfl, rfl, rfl, rfl, rfl, trivial⟩ (fun w G hs => Sat.own_nil hs)
    ⟨0, [], .slice none 0 0, Nat.zero_le _, rfl, .inl ⟨rfl, rfl⟩, Nat.le_refl _, rfl, rfl, rfl⟩ ?_
  rintro m ev L ⟨i, out, ov, hi, rfl, hov, hol, hw, rfl, rfl⟩
  conv=>whnf
  refine LenG.lit ?_
  conv=>whnf
  refine CondG.dec (fun hlt => ?_) (fun hlt => ?_)
  · have hi' : i < more.length := by omega
    obtain ⟨p, hp⟩ : ∃ p, more[i]? = some p := ⟨more[i], List.getElem?_eq_getElem hi'⟩
    obtain ⟨hp1, hp2⟩ := pairsC_get hp
    have hps := hmok p (List.mem_of_getElem? hp)
    obtain ⟨pa, pc, hpe⟩ := hps.len
    have hrm : RdS [own 2 ov out.length (pairsC out), own 2 (.slice ma more.length mc) more.length (pairsC more), own 1 x bs.length (bvs bs)] (.slice ma more.length mc) more.length (pairsC more) := .tl (own_rd hmv (pairsC_len more))
    have hst : (more.drop i).filter (fun p => decide (0 < p.bs.length)) = (if 0 < p.bs.length then [p] else []) ++ (more.drop (i + 1)).filter (fun p => decide (0 < p.bs.length)) := by
      obtain ⟨h1, rfl⟩ := List.getElem?_eq_some_iff.1 hp
      rw [List.drop_eq_getElem_cons h1, List.filter_cons]
      split <;> simp_all
    conv=>whnf
    refine IdxG.rd hrm (by omega) fun b7 o7 hc7 => ?_
    conv=>whnf
    refine LoadG.at (hc7.one (i := i * 2 + 1) (u := p.v) hp2) ?_
    conv=>whnf
    rw [hpe]
    refine LenG.lit ?_
    conv=>whnf
    refine CondG.dec (fun hpos => ?_) (fun hpos => ?_)
    · conv=>whnf
      refine IdxG.rd hrm (by omega) fun b8 o8 hc8 => ?_
      conv=>whnf
      refine LoadNG.at (vs := p.cells) rfl (hc8.part (i := i * 2) (pairsC_at hp)) ?_
      conv=>whnf
      refine BuildG.of (cs := p.cells) rfl ?_
      conv=>whnf
      intro b6
      conv=>whnf
      refine DoesG.ent (Ent.front 1 rfl) ?_
      refine app_own pairsT 22 (m := 1) (ys := p.cells) (.mk _ _ _ _ _ (Nat.le_refl _) (.tl (.left .all _))) rfl (by simp [PairD.cells, Value.oneCell', hpe]) (by simp only [maxLen]; omega) (by omega) fun ov2 hov2 hl2 _ => ?_
      conv=>whnf
      refine ArithG.i64' ((i + 1 : Nat) : Int) (by omega) (by omega) ?_
      conv=>whnf
      have eo : pairsC out ++ p.cells = pairsC (out ++ [p]) := by rw [pairsC_app]; simp [pairsC]
      have el : (out ++ [p]).length = out.length + 1 := by simp
      rw [eo, ← el]
      rw [← el] at hov2
      refine ⟨more.length - (i + 1), [(6, .slice none 0 0), (7, .int .i64 0), (9, ov2), (10, .slice ma more.length mc), (11, .int .i64 (i + 1 : Nat))], _, by omega, ⟨rfl, rfl, rfl, rfl, rfl, trivial⟩, ?_, i + 1, out ++ [p], ov2, by omega, rfl, hov2, by rw [el]; omega, ?_, rfl, rfl⟩
      · exact Ent.sel (T := []) (A := [_, _, _, _]) [0, 2, 3] rfl
      · rw [← hw, hst, if_pos (by omega)]
        simp
    · conv=>whnf
      refine ArithG.i64' ((i + 1 : Nat) : Int) (by omega) (by omega) ?_
      conv=>whnf
      refine ⟨more.length - (i + 1), [(6, .slice none 0 0), (7, .int .i64 0), (9, ov), (10, .slice ma more.length mc), (11, .int .i64 (i + 1 : Nat))], _, by omega, ⟨rfl, rfl, rfl, rfl, rfl, trivial⟩, Ent.refl _, i + 1, out, ov, by omega, rfl, hov, by omega, ?_, rfl, rfl⟩
      rw [← hw, hst, if_neg (by omega)]
      simp
  · obtain rfl : i = more.length := by omega
    have eo : out = more.filter (fun p => decide (0 < p.bs.length)) := by rw [← hw]; simp
    conv=>whnf
    exact ⟨_, Ent.sel (T := []) (A := [_, _, _]) [0, 2] rfl, .inr ⟨heq, x, ov, out, hx, hov, by rw [eo, hmore], rfl, rfl⟩⟩
end Go.Proofs.YtnbcbdlbejdkpaaGreatDoor
namespace Go.Proofs.YtnbcbdlbejdkpaaGreatDoor
open Go Go.Sl
theorem fit_spec (F : List HP) (lv : Value) (ls : List PairD) (hr : RdS F lv ls.length (pairsC ls)) (hl : ls.length ≤ 3518437208882) (hok : ∀ p ∈ ls, RdS F p.v p.bs.length (bvs p.bs)) :
    SpecF Tryz.prog 29 [lv] F [] (fun r L => ∃ out S, SlV r out.length ∧ L = own 2 r out.length (pairsC out) :: shs S ∧ out.length ≤ ls.length ∧ out.map PairD.e = fitB [] (ls.map PairD.e) ∧ ∀ p ∈ out, ShIn S p.v (bvs p.bs)) := by
  obtain ⟨la, lc, rfl⟩ := hr.len
  refine fun29.spec rfl ?_
  conv=>whnf
  refine LoopG.mk (fun m ev L => ∃ (i : Nat) (out : List PairD) (ov : Value) (S : Shs), i ≤ ls.length ∧ m = ls.length - i ∧ SlV ov out.length ∧ out.length ≤ i ∧ (∀ p ∈ out, ShIn S p.v (bvs p.bs)) ∧
      fitB (out.map PairD.e) ((ls.map PairD.e).drop i) = fitB [] (ls.map PairD.e) ∧
      ev = [(0, .slice la ls.length lc), (2, .slice none 0 0), (3, ov), (4, .int .i64 i)] ∧ L = own 2 ov out.length (pairsC out) :: shs S) ls.length
    [(0, .slice la ls.length lc), (2, .slice none 0 0), (3, .slice none 0 0), (4, .int .i64 0)] [own 2 (.slice none 0 0) 0 (pairsC [])] ⟨rfl, rfl, rfl, rfl, trivial⟩ (fun w G hs => Sat.own_nil hs)
    ⟨0, [], .slice none 0 0, [], Nat.zero_le _, rfl, .inl ⟨rfl, rfl⟩, Nat.le_refl _, fun p hp => absurd hp (List.not_mem_nil), rfl, rfl, rfl⟩ ?_
  rintro m ev L ⟨i, out, ov, S, hi, rfl, hov, hol, hS, hw, rfl, rfl⟩
  conv=>whnf
  refine LenG.lit ?_
  conv=>whnf
  refine CondG.dec (fun hlt => ?_) (fun hlt => ?_)
  · have hi' : i < ls.length := by omega
    obtain ⟨p, hp⟩ : ∃ p, ls[i]? = some p := ⟨ls[i], List.getElem?_eq_getElem hi'⟩
    obtain ⟨hp1, hp2⟩ := pairsC_get hp
    have hpr := hok p (List.mem_of_getElem? hp)
    have hst : fitB (out.map PairD.e) ((ls.map PairD.e).drop i) = fitB (if mayI p.key p.bs.length = 0 then putP p.key p.bs (out.map PairD.e) else out.map PairD.e) ((ls.map PairD.e).drop (i + 1)) := fitB_step (out := out.map PairD.e) (l := ls.map PairD.e) (i := i) (p := p.e) (by rw [List.getElem?_map, hp]; rfl)
    conv=>whnf
    refine DrawG.mk 12 _ [] (Ent.refl _) ?_
    conv=>whnf
    refine .take 0 ?_
    conv=>whnf
    refine ⟨rfl, ?_⟩
    conv=>whnf
    refine .take 1 ?_
    conv=>whnf
    refine ⟨rfl, ?_⟩
    conv=>whnf
    refine .take 2 ?_
    conv=>whnf
    refine ⟨rfl, ?_⟩
    conv=>whnf
    refine IdxG.rd hr (by omega) fun b1 o1 hc1 => ?_
    conv=>whnf
    refine .take 3 ?_
    conv=>whnf
    refine ⟨rfl, ?_⟩
    conv=>whnf
    refine .take 4 ?_
    conv=>whnf
    refine ⟨rfl, ?_⟩
    conv=>whnf
    refine LoadG.atF (hc1.one (i := i * 2) (u := .string p.key) hp1) ?_
    conv=>whnf
    refine .take 5 ?_
    conv=>whnf
    refine ⟨rfl, ?_⟩
    conv=>whnf
    refine .take 6 ?_
    conv=>whnf
    refine ⟨rfl, ?_⟩
    conv=>whnf
    refine .take 7 ?_
    conv=>whnf
    refine ⟨rfl, ?_⟩
    conv=>whnf
    refine IdxG.rd hr (by omega) fun b2 o2 hc2 => ?_
    conv=>whnf
    refine .take 8 ?_
    conv=>whnf
    refine ⟨rfl, ?_⟩
    conv=>whnf
    refine .take 9 ?_
    conv=>whnf
    refine ⟨rfl, ?_⟩
    conv=>whnf
    refine LoadG.atF (hc2.one (i := i * 2 + 1) (u := p.v) hp2) ?_
    conv=>whnf
    refine .all ?_
    conv=>whnf
    refine ⟨by decide, ?_⟩
    conv=>whnf
    refine CallG.pure (may7_spec _ p.key p.v p.bs.length hpr.len) ?_
    rintro _ _ ⟨rfl, rfl⟩
    conv=>whnf
    refine .take 11 ?_
    conv=>whnf
    refine ⟨rfl, ?_⟩
    conv=>whnf
    refine ⟨rfl, ?_⟩
    conv=>whnf
    refine CondG.dec (fun hm => ?_) (fun hm => ?_)
    · conv=>whnf
      refine DrawG.mk 17 _ [] (Ent.refl _) ?_
      conv=>whnf
      refine .take 0 ?_
      conv=>whnf
      refine ⟨rfl, ?_⟩
      conv=>whnf
      refine .take 1 ?_
      conv=>whnf
      refine ⟨rfl, ?_⟩
      conv=>whnf
      refine .take 2 ?_
      conv=>whnf
      refine ⟨rfl, ?_⟩
      conv=>whnf
      refine .take 3 ?_
      conv=>whnf
      refine ⟨rfl, ?_⟩
      conv=>whnf
      refine IdxG.rd hr (by omega) fun b1 o1 hc1 => ?_
      conv=>whnf
      refine .take 4 ?_
      conv=>whnf
      refine ⟨rfl, ?_⟩
      conv=>whnf
      refine .take 5 ?_
      conv=>whnf
      refine ⟨rfl, ?_⟩
      conv=>whnf
      refine LoadG.atF (hc1.one (i := i * 2) (u := .string p.key) hp1) ?_
      conv=>whnf
      refine .take 6 ?_
      conv=>whnf
      refine ⟨rfl, ?_⟩
      conv=>whnf
      refine .take 7 ?_
      conv=>whnf
      refine ⟨rfl, ?_⟩
      conv=>whnf
      refine .take 8 ?_
      conv=>whnf
      refine ⟨rfl, ?_⟩
      conv=>whnf
      refine IdxG.rd hr (by omega) fun b2 o2 hc2 => ?_
      conv=>whnf
      refine .take 9 ?_
      conv=>whnf
      refine ⟨rfl, ?_⟩
      conv=>whnf
      refine .take 10 ?_
      conv=>whnf
      refine ⟨rfl, ?_⟩
      conv=>whnf
      refine LoadG.atF (hc2.one (i := i * 2 + 1) (u := p.v) hp2) ?_
      conv=>whnf
      refine .all ?_
      conv=>whnf
      refine ⟨by decide, ?_⟩
      conv=>whnf
      refine CallG.pure (put7_spec _ ov out (.right (.left (own_rd hov (pairsC_len out)) F) _) p.key p.v p.bs (.right (.right hpr _) _) (by omega) (fun q hq => by have h := (hS q hq).sl; rw [bvs_len] at h; exact h)) ?_
      rintro _ _ (⟨h, _⟩ | ⟨_, x, ov2, out2, hx, hov2, ho2, rfl, rfl⟩)
      · exact absurd hm h
      conv=>whnf
      refine .take 12 ?_
      conv=>whnf
      refine ⟨rfl, ?_⟩
      conv=>whnf
      refine .take 13 ?_
      conv=>whnf
      refine ⟨rfl, ?_⟩
      conv=>whnf
      refine .take 14 ?_
      conv=>whnf
      refine ⟨rfl, ?_⟩
      conv=>whnf
      refine .take 15 ?_
      conv=>whnf
      refine ⟨rfl, ?_⟩
      conv=>whnf
      refine .take 16 ?_
      conv=>whnf
      refine ⟨rfl, ?_⟩
      conv=>whnf
      refine ⟨rfl, ?_⟩
      conv=>whnf
      refine ArithG.i64' ((i + 1 : Nat) : Int) (by omega) (by omega) ?_
      conv=>whnf
      have ho3 : out2.map PairD.e = putP p.key p.bs (out.map PairD.e) := by rw [ho2]; exact putP_map p.key x p.bs out
      have hl2 : out2.length ≤ i + 1 := by
        have h := congrArg List.length ho3
        rw [List.length_map] at h
        have h2 := putP_len p.key p.bs (out.map PairD.e)
        rw [List.length_map] at h2
        omega
      refine ⟨ls.length - (i + 1), [(0, .slice la ls.length lc), (2, .slice none 0 0), (3, ov2), (4, .int .i64 (i + 1 : Nat))], own 2 ov2 out2.length (pairsC out2) :: shs ((x, bvs p.bs) :: S), by omega, ⟨rfl, rfl, rfl, rfl, trivial⟩, ?_, i + 1, out2, ov2, (x, bvs p.bs) :: S, by omega, rfl, hov2, hl2, ?_, ?_, rfl, rfl⟩
      · refine (Ent.sel (T := shs S) (A := [_, _, _]) (M := [_, _]) [1, 0] rfl).trans ((shC_of_own (by rw [bvs_len])).trans (Ent.perm (List.Perm.swap _ _ _)))
      · intro q hq
        rw [ho2] at hq
        rcases withL_mem PairD.key (List.mem_filter.1 hq).1 with rfl | ⟨h, _⟩
        · exact ⟨by rw [bvs_len]; exact hx, .inl List.mem_cons_self⟩
        · exact (hS q h).mono fun _ h2 => List.mem_cons_of_mem _ h2
      · rw [← hw, hst, if_pos hm, ho3]
    · conv=>whnf
      refine ArithG.i64' ((i + 1 : Nat) : Int) (by omega) (by omega) ?_
      conv=>whnf
      refine ⟨ls.length - (i + 1), [(0, .slice la ls.length lc), (2, .slice none 0 0), (3, ov), (4, .int .i64 (i + 1 : Nat))], _, by omega, ⟨rfl, rfl, rfl, rfl, trivial⟩, Ent.refl _, i + 1, out, ov, S, by omega, rfl, hov, by omega, hS, ?_, rfl, rfl⟩
      rw [← hw, hst, if_neg hm]
  · obtain rfl : i = ls.length := by omega
    conv=>whnf
    refine ret_here ⟨out, S, hov, rfl, hol, ?_, hS⟩
    rw [← hw, List.drop_eq_nil_of_le (by simp)]
    rfl
theorem clean_spec (F : List HP) (lv : Value) (ls : List PairD) (hr : RdS F lv ls.length (pairsC ls)) (hl : ls.length ≤ 3518437208882) (hok : ∀ p ∈ ls, RdS F p.v p.bs.length (bvs p.bs)) :
    SpecF Tryz.prog 8 [lv] F [] (fun r L => ∃ out S, SlV r out.length ∧ L = own 2 r out.length (pairsC out) :: shs S ∧ out.length ≤ ls.length ∧ (∀ p ∈ out, ShIn S p.v (bvs p.bs)) ∧ ∃ have_ : List PairD, have_.map PairD.e = fitB [] (ls.map PairD.e) ∧ out = have_.filter cleanP) := by
  refine fun8.spec rfl ?_
  conv=>whnf
  refine CallG.pure (fit_spec _ lv ls (.right hr _) hl (fun p hp => .right (hok p hp) _)) ?_
  rintro hv _ ⟨hs, S, hhv, rfl, hhl, hfit, hS⟩
  have hmay : ∀ p ∈ hs, mayI p.key p.bs.length = 0 := fun p hp => by
    have h : p.e ∈ fitB [] (ls.map PairD.e) := by rw [← hfit]; exact List.mem_map_of_mem hp
    rcases fitB_mem h with h | ⟨_, h, _⟩
    · cases h
    · exact h
  obtain ⟨ha, hc, rfl⟩ := hhv.len
  conv=>whnf
  refine LoopG.mk (fun m ev L => ∃ (i : Nat) (out : List PairD) (ov : Value), i ≤ hs.length ∧ m = hs.length - i ∧ SlV ov out.length ∧ out.length ≤ i ∧ out ++ (hs.drop i).filter cleanP = hs.filter cleanP ∧
      ev = [(2, .slice none 0 0), (3, ov), (4, .slice ha hs.length hc), (5, .int .i64 i)] ∧ L = own 2 ov out.length (pairsC out) :: own 2 (.slice ha hs.length hc) hs.length (pairsC hs) :: shs S) hs.length
    [(2, .slice none 0 0), (3, .slice none 0 0), (4, .slice ha hs.length hc), (5, .int .i64 0)] (own 2 (.slice none 0 0) 0 (pairsC []) :: own 2 (.slice ha hs.length hc) hs.length (pairsC hs) :: shs S) ⟨rfl, rfl, rfl, rfl, trivial⟩ (by rw [List.append_nil]; exact fun w G hs => Sat.own_nil hs)
    ⟨0, [], .slice none 0 0, Nat.zero_le _, rfl, .inl ⟨rfl, rfl⟩, Nat.le_refl _, rfl, rfl, rfl⟩ ?_
  rintro m ev L ⟨i, out, ov, hi, rfl, hov, hol, hw, rfl, rfl⟩
  conv=>whnf
  refine LenG.lit ?_
  conv=>whnf
  refine CondG.dec (fun hlt => ?_) (fun hlt => ?_)
  · have hi' : i < hs.length := by omega
    obtain ⟨p, hp⟩ : ∃ p, hs[i]? = some p := ⟨hs[i], List.getElem?_eq_getElem hi'⟩
    obtain ⟨hp1, hp2⟩ := pairsC_get hp
    have hpm := List.mem_of_getElem? hp
    have hps := (hS p hpm).sl
    rw [bvs_len] at hps
    obtain ⟨pa, pc, hpe⟩ := hps.len
    have hrm : RdS (own 2 ov out.length (pairsC out) :: own 2 (.slice ha hs.length hc) hs.length (pairsC hs) :: shs S) (.slice ha hs.length hc) hs.length (pairsC hs) := .tl (own_rd hhv (pairsC_len hs))
    have hks : 0 < p.key.size := by
      have h := hmay p hpm
      unfold mayI at h
      split at h
      · cases h
      · omega
    obtain ⟨f, hf⟩ : ∃ f, (strN p.key)[0]? = some f := ⟨(strN p.key)[0]'(by rw [strN_len]; exact hks), List.getElem?_eq_getElem _⟩
    have hfb : firstB p = f := by
      unfold firstB
      cases hk : strN p.key with
      | nil => rw [hk] at hf; cases hf
      | cons a l => rw [hk] at hf; simpa using hf
    have hst : (hs.drop i).filter cleanP = (if cleanP p then [p] else []) ++ (hs.drop (i + 1)).filter cleanP := by
      obtain ⟨h1, rfl⟩ := List.getElem?_eq_some_iff.1 hp
      rw [List.drop_eq_getElem_cons h1, List.filter_cons]
      split <;> simp_all
    conv=>whnf
    refine IdxG.rd hrm (by omega) fun b7 o7 hc7 => ?_
    conv=>whnf
    refine LoadG.at (hc7.one (i := i * 2) (u := .string p.key) hp1) ?_
    conv=>whnf
    refine DoesG.strAt (j := 0) (by kernel_rfl) hf ?_
    conv=>whnf
    refine CondG.ndec (fun h1 => ?_) (fun h1 => ?_)
    · (conv=>whnf);refine .tt ?_;(conv=>whnf);refine .tt ?_;(conv=>whnf)
      refine CondG.ndec (fun h2 => ?_) (fun h2 => ?_)
      · (conv=>whnf);refine .tt ?_;(conv=>whnf);refine .tt ?_;(conv=>whnf)
        refine CondG.ndec (fun h3 => ?_) (fun h3 => ?_)
        · have hc1 : cleanP p = true := by
            unfold cleanP
            rw [hfb]
            have e1 : ¬ f = 116 := by omega
            have e2 : ¬ f = 98 := by omega
            have e3 : ¬ f = 108 := by omega
            simp [e1, e2, e3]
          conv=>whnf
          refine IdxG.rd hrm (by omega) fun b8 o8 hc8 => ?_
          conv=>whnf
          refine LoadNG.at (vs := p.cells) rfl (hc8.part (i := i * 2) (pairsC_at hp)) ?_
          conv=>whnf
          refine BuildG.of (cs := p.cells) rfl ?_
          conv=>whnf
          intro b6
          conv=>whnf
          refine DoesG.ent (Ent.front 1 rfl) ?_
          refine app_own pairsT 22 (m := 1) (ys := p.cells) (.mk _ _ _ _ _ (Nat.le_refl _) (.tl (.left .all _))) rfl (by simp [PairD.cells, Value.oneCell', hpe]) (by simp only [maxLen]; omega) (by omega) fun ov2 hov2 hl2 _ => ?_
          conv=>whnf
          refine ArithG.i64' ((i + 1 : Nat) : Int) (by omega) (by omega) ?_
          conv=>whnf
          have eo : pairsC out ++ p.cells = pairsC (out ++ [p]) := by rw [pairsC_app]; simp [pairsC]
          have el : (out ++ [p]).length = out.length + 1 := by simp
          rw [eo, ← el]
          rw [← el] at hov2
          refine ⟨hs.length - (i + 1), [(2, .slice none 0 0), (3, ov2), (4, .slice ha hs.length hc), (5, .int .i64 (i + 1 : Nat))], _, by omega, ⟨rfl, rfl, rfl, rfl, trivial⟩, ?_, i + 1, out ++ [p], ov2, by omega, rfl, hov2, by rw [el]; omega, ?_, rfl, rfl⟩
          · exact Ent.sel (T := shs S) (A := [_, _, _]) [0, 2] rfl
          · rw [← hw, hst, hc1]
            simp
        · conv=>whnf
          refine ArithG.i64' ((i + 1 : Nat) : Int) (by omega) (by omega) ?_
          conv=>whnf
          have hc0 : cleanP p = false := by
            unfold cleanP
            rw [hfb, show f = 108 by omega]
            rfl
          refine ⟨hs.length - (i + 1), [(2, .slice none 0 0), (3, ov), (4, .slice ha hs.length hc), (5, .int .i64 (i + 1 : Nat))], _, by omega, ⟨rfl, rfl, rfl, rfl, trivial⟩, Ent.refl _, i + 1, out, ov, by omega, rfl, hov, by omega, ?_, rfl, rfl⟩
          rw [← hw, hst, hc0]
          simp
      · (conv=>whnf);refine .ff ?_;(conv=>whnf);refine .ff ?_;(conv=>whnf);refine .ff ?_;(conv=>whnf)
        refine ArithG.i64' ((i + 1 : Nat) : Int) (by omega) (by omega) ?_
        conv=>whnf
        have hc0 : cleanP p = false := by
          unfold cleanP
          rw [hfb, show f = 98 by omega]
          rfl
        refine ⟨hs.length - (i + 1), [(2, .slice none 0 0), (3, ov), (4, .slice ha hs.length hc), (5, .int .i64 (i + 1 : Nat))], _, by omega, ⟨rfl, rfl, rfl, rfl, trivial⟩, Ent.refl _, i + 1, out, ov, by omega, rfl, hov, by omega, ?_, rfl, rfl⟩
        rw [← hw, hst, hc0]
        simp
    · (conv=>whnf);refine .ff ?_;(conv=>whnf);refine .ff ?_;(conv=>whnf);refine .ff ?_;(conv=>whnf);refine .ff ?_;(conv=>whnf);refine .ff ?_;(conv=>whnf);refine .ff ?_;(conv=>whnf)
      refine ArithG.i64' ((i + 1 : Nat) : Int) (by omega) (by omega) ?_
      conv=>whnf
      have hc0 : cleanP p = false := by
        unfold cleanP
        rw [hfb, show f = 116 by omega]
        rfl
      refine ⟨hs.length - (i + 1), [(2, .slice none 0 0), (3, ov), (4, .slice ha hs.length hc), (5, .int .i64 (i + 1 : Nat))], _, by omega, ⟨rfl, rfl, rfl, rfl, trivial⟩, Ent.refl _, i + 1, out, ov, by omega, rfl, hov, by omega, ?_, rfl, rfl⟩
      rw [← hw, hst, hc0]
      simp
  · obtain rfl : i = hs.length := by omega
    have eo : out = hs.filter cleanP := by rw [← hw]; simp
    conv=>whnf
    refine ⟨_, Ent.sel (T := shs S) (A := [_, _]) [0] rfl, out, S, hov, rfl, by omega, fun p hp => hS p (by rw [eo] at hp; exact (List.mem_filter.1 hp).1), hs, hfit, eo⟩
section
variable {K : List W32} (hk : K.length = 64)
include hk
theorem over_pairs (F : List HP) (hK : CelN F 0 0 (wvs K)) (lv : Value) (ls : List PairD) (hr : RdS F lv ls.length (pairsC ls)) (hl : ls.length ≤ 8796093022206) (hok : ∀ p ∈ ls, RdS F p.v p.bs.length (bvs p.bs) ∧ (∀ b ∈ p.bs, b < 256) ∧ mayI p.key p.bs.length = 0) :
    SpecF Tryz.prog 7 [lv] F [] (fun r L => ∃ s t c, r = .pointer (some ⟨s, 0, none⟩) ∧ TabD.wf K ls.length c ∧ (∀ p ∈ c.vals, ∃ q ∈ ls, q.key = p.1) ∧
      L = stP 118 s (.iface 99 (.pointer (some ⟨t, 0, none⟩))) (tabFind c.vals) ⟨fun k => (tabFind c.vals k).1, []⟩ 0 :: c.pieces 151 176 212 t) := by
  obtain ⟨la, lc, rfl⟩ := hr.len
  refine fun7.spec rfl ?_
  conv=>whnf
  refine CallG.pure (newTable_spec _) ?_
  rintro _ _ ⟨t, rfl, vb, q, ob, rfl⟩
  (conv=>whnf);refine .ff ?_;(conv=>whnf)
  refine LoopG.mk (fun m ev L => ∃ (i : Nat) (c : TabD), i ≤ ls.length ∧ m = ls.length - i ∧ c.wf K i ∧ (∀ p ∈ c.vals, ∃ q ∈ ls, q.key = p.1) ∧
      ev = [(0, .slice la ls.length lc), (3, .pointer (some ⟨t, 0, none⟩)), (4, .int .i64 i)] ∧ L = c.pieces 151 176 212 t) ls.length
    [(0, .slice la ls.length lc), (3, .pointer (some ⟨t, 0, none⟩)), (4, .int .i64 0)] ((tab0 vb q ob).pieces 151 176 212 t) ⟨rfl, rfl, rfl, trivial⟩ (by rw [List.append_nil]; exact Ent.refl _)
    ⟨0, tab0 vb q ob, Nat.zero_le _, rfl, tab0_wf _ _ _ _ _, fun p h => absurd h (List.not_mem_nil), rfl, rfl⟩ ?_
  rintro m ev L ⟨i, c, hi, rfl, hw, hk2, rfl, rfl⟩
  conv=>whnf
  refine LenG.lit ?_
  conv=>whnf
  refine CondG.dec (fun hlt => ?_) (fun hlt => ?_)
  · have hi' : i < ls.length := by omega
    obtain ⟨p, hp⟩ : ∃ p, ls[i]? = some p := ⟨ls[i], List.getElem?_eq_getElem hi'⟩
    obtain ⟨hp1, hp2⟩ := pairsC_get hp
    have hpm := List.mem_of_getElem? hp
    obtain ⟨hpr, hpb, hpy⟩ := hok p hpm
    conv=>whnf
    refine DrawG.mk 13 [] (c.pieces 151 176 212 t) (by rw [List.append_nil]; exact Ent.refl _) ?_
    conv=>whnf
    refine .take 0 ?_
    conv=>whnf
    refine ⟨rfl, ?_⟩
    conv=>whnf
    refine .take 1 ?_
    conv=>whnf
    refine ⟨rfl, ?_⟩
    conv=>whnf
    refine .take 2 ?_
    conv=>whnf
    refine ⟨rfl, ?_⟩
    conv=>whnf
    refine .take 3 ?_
    conv=>whnf
    refine ⟨rfl, ?_⟩
    conv=>whnf
    refine IdxG.rd hr (by omega) fun b1 o1 hc1 => ?_
    conv=>whnf
    refine .take 4 ?_
    conv=>whnf
    refine ⟨rfl, ?_⟩
    conv=>whnf
    refine .take 5 ?_
    conv=>whnf
    refine ⟨rfl, ?_⟩
    conv=>whnf
    refine LoadG.atF (hc1.one (i := i * 2) (u := .string p.key) hp1) ?_
    conv=>whnf
    refine .take 6 ?_
    conv=>whnf
    refine ⟨rfl, ?_⟩
    conv=>whnf
    refine .take 7 ?_
    conv=>whnf
    refine ⟨rfl, ?_⟩
    conv=>whnf
    refine .take 8 ?_
    conv=>whnf
    refine ⟨rfl, ?_⟩
    conv=>whnf
    refine IdxG.rd hr (by omega) fun b2 o2 hc2 => ?_
    conv=>whnf
    refine .take 9 ?_
    conv=>whnf
    refine ⟨rfl, ?_⟩
    conv=>whnf
    refine .take 10 ?_
    conv=>whnf
    refine ⟨rfl, ?_⟩
    conv=>whnf
    refine LoadG.atF (hc2.one (i := i * 2 + 1) (u := p.v) hp2) ?_
    conv=>whnf
    refine .all ?_
    conv=>whnf
    refine ⟨by decide, ?_⟩
    conv=>whnf
    refine CallG.of (rest := []) (tput_spec hk _ (.right hK _) t c i hw (by omega) p.key p.v p.bs (.right hpr _) hpb) (by rw [List.append_nil]; exact Ent.refl _) ?_
    rintro _ _ ⟨rfl, ⟨h, _⟩ | ⟨_, c', hc', rfl⟩⟩
    · exact absurd hpy h
    conv=>whnf
    refine .take 12 ?_
    conv=>whnf
    refine ⟨rfl, ?_⟩
    conv=>whnf
    refine ⟨rfl, ?_⟩
    conv=>whnf
    refine CondG.ndec (fun h => absurd hpy h) (fun _ => ?_)
    conv=>whnf
    refine ArithG.i64' ((i + 1 : Nat) : Int) (by omega) (by omega) ?_
    conv=>whnf
    refine ⟨ls.length - (i + 1), [(0, .slice la ls.length lc), (3, .pointer (some ⟨t, 0, none⟩)), (4, .int .i64 (i + 1 : Nat))], c'.pieces 151 176 212 t, by omega, ⟨rfl, rfl, rfl, trivial⟩, by rw [List.append_nil, List.append_nil]; exact Ent.refl _, i + 1, c', by omega, rfl, hc'.wf, ?_, rfl, rfl⟩
    intro q hq
    by_cases hbe : p.bs = []
    · rw [hc'.del hbe] at hq
      exact hk2 q (List.mem_filter.1 hq).1
    · obtain ⟨x, hx⟩ := hc'.put hbe
      rw [hx] at hq
      rcases putK_mem hq with rfl | hq
      · exact ⟨p, hpm, rfl⟩
      · exact hk2 q hq
  · obtain rfl : i = ls.length := by omega
    conv=>whnf
    refine CallG.pure (over_spec _ _ _) ?_
    rintro _ _ ⟨s, rfl, hb, nb, rfl⟩
    conv=>whnf
    refine CondG.ndec (fun h => absurd rfl h) (fun _ => ?_)
    conv=>whnf
    refine ⟨_, ?_, s, t, c, rfl, hw, hk2, rfl⟩
    refine Ent.pack (L := c.pieces 151 176 212 t) (φ := At (tabFind c.vals) ⟨fun k => (tabFind c.vals k).1, []⟩ 0) (ls := fun c => StC.pieces 118 s (.iface 99 (.pointer (some ⟨t, 0, none⟩))) c) ?_
    exact ⟨fun k => rfl, ⟨fun p h => absurd h (List.not_mem_nil), fun p h => absurd h (List.not_mem_nil), fun p h => absurd h (List.not_mem_nil)⟩, Nat.le_refl 0, rfl, List.Pairwise.nil, fun j a f h => by simp at h⟩
end
end Go.Proofs.YtnbcbdlbejdkpaaGreatDoor
