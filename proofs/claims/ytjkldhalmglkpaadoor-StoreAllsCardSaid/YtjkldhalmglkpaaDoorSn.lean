import Derived.Test.YtjkldhalmglkpaaDoorGp
import Derived.Test.YtjkldhalmglkpaaDoorSx
import Derived.Test.YtjkldhalmglkpaaDoorZTt
namespace Go.Proofs.YtjkldhalmglkpaaDoor
open Go Go.Sl
theorem digT : KeyT Tryd.prog 46 digV digOk := KeyT.arr (len := 32) (e := 5) bvs (fun _ => rfl) (fun _ h => wt_bvs h) (fun _ _ _ _ h => bvs_inj.1 h) (by kernel_rfl) (by kernel_rfl) (by kernel_rfl) (by kernel_rfl)
theorem ofT : (Tryd.prog).underlying 87 = some (.map 46 67) := by kernel_rfl
theorem zeroS : ∀ w, (zeroValue 67).run Tryd.prog w = .ok (.slice none 0 0) w := run_zeroV (by kernel_rfl)
section
variable {K : List W32} (hk : K.length = 64)
include hk
theorem tlay_spec (F : List HP) (hK : CelN F 0 0 (wvs K)) (t : Nat) (c : TabD) (n : Nat) (hw : c.wf K n) (hn : n ≤ 8796093022206) (key : ByteArray) (v : Value) (bs : List Nat) (hv : RdS F v bs.length (bvs bs)) (hl : bs.length ≤ 4096) (hb : ∀ b ∈ bs, b < 256) (h1 : 0 < key.size) (h2 : key.size ≤ 128) :
 SpecF Tryd.prog 49 [.pointer (some ⟨t, 0, none⟩), .string key, v] F (c.pieces 89 124 144 t) (fun _ L => ∃ c', LayOk K n c key bs c' ∧ L = c'.pieces 89 124 144 t) := by
 have hd := IsD.dig K (strN key)
 have ld := hd.len
 refine fun49.spec rfl ?_
 conv=>whnf
 refine DoesG.toBytes (e := 5) (by kernel_rfl) (by kernel_rfl) (by kernel_rfl) fun kb p1 hkb _ => ?_
 conv=>whnf
 refine CallG.pure (dsum_spec _ K (.right hK _) hk kb (strN key) (RdS.left (RdS.left hkb _) F) (by rw [strN_len]; omega) (strN_byte key)) ?_
 rintro _ _ ⟨rfl, rfl⟩
 conv=>whnf
 intro b6
 conv=>whnf
 refine StoreG.at (by rw [bvs_len, ld]) (Upd.whole (vs := bvs (dig K (strN key))) (by rw [bvs_len, ld]; rfl) (bvs_one _)) ?_
 conv=>whnf
 refine DrawG.mk 7 (cel b6 46 (bvs (dig K (strN key))) :: c.pieces 89 124 144 t) [] ((Ent.front 1 rfl).trans (Ent.drop _)) ?_
 conv=>whnf
 refine .take 0 ?_
 conv=>whnf
 refine ⟨rfl, ?_⟩
 conv=>whnf
 refine .take 1 ?_
 conv=>whnf
 refine ⟨rfl, ?_⟩
 conv=>whnf
 refine .take 2 ?_
 conv=>whnf
 refine ⟨rfl, ?_⟩
 conv=>whnf
 refine .take 3 ?_
 conv=>whnf
 refine ⟨rfl, ?_⟩
 conv=>whnf
 refine LoadG.at (.tl (.here rfl)) ?_
 conv=>whnf
 refine .take 4 ?_
 conv=>whnf
 refine ⟨rfl, ?_⟩
 conv=>whnf
 refine LoadNG.at (vs := bvs (dig K (strN key))) (by rw [bvs_len, ld]) .all ?_
 conv=>whnf
 refine .all ?_
 conv=>whnf
 refine ⟨by decide, ?_⟩
 conv=>whnf
 refine DoesG.look digT ofT zeroS ld (MapG.right (MapG.left (.tl (.tl (.tl .here))) F) _) false ?_
 obtain ⟨hk1, hk2, hk3, hk4⟩ := hw.at (dig K (strN key))
 have hthere := hw.there key
 have hat : ((getM (ofM c.ofs) (dig K (strN key))).getD (.slice none 0 0)) = (c.at (dig K (strN key))).1 := by
  rw [getM_of]
  unfold TabD.at
  cases getO c.ofs (dig K (strN key)) <;> rfl
 rw [if_neg (by decide), hat]
 obtain ⟨kv, hkv⟩ : ∃ x, x = (c.at (dig K (strN key))).1 := ⟨_, rfl⟩
 obtain ⟨ks, hks⟩ : ∃ x, x = (c.at (dig K (strN key))).2 := ⟨_, rfl⟩
 rw [← hkv] at hk1 ⊢
 rw [← hks] at hk1 hk2 hk3 hk4 hthere
 conv=>whnf
 refine .take 6 ?_
 conv=>whnf
 refine ⟨rfl, ?_⟩
 conv=>whnf
 refine ⟨rfl, ?_⟩
 conv=>whnf
 have hkr : ∀ M, RdS (c.pieces 89 124 144 t ++ M) kv ks.length (svs ks) := fun M => by
  have h := TabD.shG (TT := 89) (ST := 124) (NT := 144) (t := t) kv (svs ks) hk1
  rw [svs_len] at h
  exact h.left M
 have hrd : ∀ v' cs, ShIn c.S v' (svs cs) → RdS (rcs 144 c.Bs ++ shs c.S) v' cs.length (svs cs) := fun v' cs h => by
  have h2 := ((ShG.here (S := c.S) (L := [])).right (rcs 144 c.Bs)) v' (svs cs) h
  rw [List.append_nil, svs_len] at h2
  exact h2
 have hkiff : ∀ k, k ∈ ks ↔ dig K (strN k) = dig K (strN key) ∧ (getK c.vals k).isSome = true := fun k => by
  constructor
  ·exact hk4 k
  ·rintro ⟨e1, e2⟩
   rw [hks, ← e1]
   exact (hw.there k).2 e2
 refine CallG.pure (bs_spec _ kv ks key (RdS.tl (hkr F)) (by omega) hk2) ?_
 rintro _ _ ⟨i, b, hbs, rfl, rfl⟩
 conv=>whnf
 refine LenG.rd hv ?_
 conv=>whnf
 have hi := hbs.le
 refine CondG.dec (fun hpos => ?_) (fun hpos => ?_)
 ·have hbne : bs ≠ [] := fun h => by rw [h] at hpos; simp at hpos
  conv=>whnf
  refine DrawG.mk 7 (cel b6 46 (bvs (dig K (strN key))) :: c.pieces 89 124 144 t) [] (Ent.refl _) ?_
  conv=>whnf
  refine .take 0 ?_
  conv=>whnf
  refine ⟨rfl, ?_⟩
  conv=>whnf
  refine .take 1 ?_
  conv=>whnf
  refine ⟨rfl, ?_⟩
  conv=>whnf
  refine .take 2 ?_
  conv=>whnf
  refine ⟨rfl, ?_⟩
  conv=>whnf
  refine .take 3 ?_
  conv=>whnf
  refine ⟨rfl, ?_⟩
  conv=>whnf
  refine LoadG.at (.tl (.here rfl)) ?_
  conv=>whnf
  refine .take 4 ?_
  conv=>whnf
  refine ⟨rfl, ?_⟩
  conv=>whnf
  refine .take 5 ?_
  conv=>whnf
  refine ⟨rfl, ?_⟩
  conv=>whnf
  refine .all ?_
  conv=>whnf
  refine ⟨by decide, ?_⟩
  conv=>whnf
  refine CallG.pure (clone_spec _ v bs (by omega) (.right (.right hv _) _)) ?_
  rintro x _ ⟨hx, rfl, _⟩
  conv=>whnf
  refine .all ?_
  conv=>whnf
  refine ⟨by decide, ?_⟩
  conv=>whnf
  refine ⟨rfl, ?_⟩
  conv=>whnf
  refine DoesG.ent (Ent.front 3 rfl) ?_
  refine DoesG.upd strT mapT trivial ?_
  rw [putM_kv c.vals key x bs]
  conv=>whnf
  refine ⟨rfl, ?_⟩
  conv=>whnf
  refine CondG.split (fun hnb => ?_) (fun hnb => ?_)
  ·have hb' : b = false := by simpa using hnb
   subst hb'
   have hnin : key ∉ ks := fun h => by have := (hbs.mem hk2).2 h; cases this
   have hks2 : Sorted (ks.take i ++ key :: ks.drop i) := hbs.insert hk2
   conv=>whnf
   refine CallG.pure (cloneS_spec _ kv ks (by omega) (.tl (.tl (.tl (.tl (.tl (.tl ((hrd kv ks hk1).left F)))))))) ?_
   rintro r2 _ ⟨hr2, rfl⟩
   conv=>whnf
   refine BuildG.of rfl ?_
   conv=>whnf
   intro b41
   conv=>whnf
   refine CallG.of (pre := [own 1 r2 ks.length (svs ks), cel b41 _ [.string key]]) (insertS_spec _ r2 ks i key b41 _ hi (by omega)) (Ent.perm (List.Perm.swap _ _ _)) ?_
   rintro kv' _ ⟨hkv', rfl⟩
   obtain ⟨ks2, eks2⟩ : ∃ z, z = ks.take i ++ key :: ks.drop i := ⟨_, rfl⟩
   have hl2 : ks2.length = ks.length + 1 := by rw [eks2, List.length_append, List.length_cons, List.length_take, List.length_drop]; omega
   rw [← hl2] at hkv' ⊢
   rw [← eks2] at hks2 ⊢
   have hmem : ∀ k, k ∈ ks2 ↔ dig K (strN k) = dig K (strN key) ∧ (getK (putK c.vals key x bs) k).isSome = true := fun k => by
    rw [eks2, mem_ins, getK_put]
    by_cases e : k = key
    ·subst e; simp
    ·simp only [e, false_or, or_false, if_false]
     exact hkiff k
   have hne2 : ks2 ≠ [] := fun h => by rw [h] at hl2; cases hl2
   conv=>whnf
   refine LenG.sl hkv' ?_
   conv=>whnf
   refine CondG.decF (by omega) ?_
   conv=>whnf
   obtain ⟨V', hV'⟩ : ∃ z, z = putK c.vals key x bs := ⟨_, rfl⟩
   obtain ⟨S', hS'⟩ : ∃ z, z = (kv', svs ks2) :: (x, bvs bs) :: c.S := ⟨_, rfl⟩
   have hS : ∀ p ∈ c.S, p ∈ S' := fun p hp => by rw [hS']; exact List.mem_cons_of_mem _ (List.mem_cons_of_mem _ hp)
   have hsh : ShIn S' kv' (svs ks2) := ⟨by rw [svs_len]; exact hkv', .inl (by rw [hS']; exact List.mem_cons_self)⟩
   have hV : ∀ p ∈ V', ShIn S' p.2.1 (bvs p.2.2) ∧ p.2.2.length ≤ 4096 ∧ p.2.2 ≠ [] ∧ ∀ b ∈ p.2.2, b < 256 := fun p hp => by
    rw [hV'] at hp
    rcases putK_mem hp with rfl | hp
    ·exact ⟨⟨by rw [bvs_len]; exact hx, .inl (by rw [hS']; exact List.mem_cons_of_mem _ List.mem_cons_self)⟩, hl, hbne, hb⟩
    ·obtain ⟨g1, g2, g3, g4⟩ := hw.vals p hp
     exact ⟨g1.mono hS, g2, g3, g4⟩
   have hVk : ∀ p ∈ V', 0 < p.1.size ∧ p.1.size ≤ 128 := fun p hp => by
    rw [hV'] at hp
    rcases putK_mem hp with rfl | hp
    ·exact ⟨h1, h2⟩
    ·exact hw.keys p hp
   have hsame : ∀ k, k ≠ key → getK V' k = getK c.vals k := fun k hne => by rw [hV', getK_put, if_neg hne]
   have hput : bs ≠ [] → ∃ x, V' = putK c.vals key x bs := fun _ => ⟨x, hV'⟩
   have hdel : bs = [] → V' = delK c.vals key := fun h => absurd h hbne
   have hlen2 : ks2.length ≤ n + 1 := by omega
   have hsort2 := hks2
   rw [← hV'] at hmem ⊢
   refine DrawG.mk 6 (cel b6 46 (bvs (dig K (strN key))) :: TabD.pieces 89 124 144 t { c with vals := V', S := S' }) [] ?_ ?_
   ·rw [hS']
    refine (shC_of_own (by rw [svs_len])).trans ((Ent.front 2 rfl).trans ((shC_of_own (by rw [bvs_len])).trans ?_))
    exact (Ent.perm (List.Perm.swap _ _ _)).trans ((Ent.sel (T := rcs 144 c.Bs ++ shs c.S) (A := [_, _, _, _, _, _, _]) [0, 1, 3, 4, 2, 5, 6] rfl).trans (down2 (A := [_, _, _, _, _])))
   conv=>whnf
   refine .take 0 ?_
   conv=>whnf
   refine ⟨rfl, ?_⟩
   conv=>whnf
   refine .take 1 ?_
   conv=>whnf
   refine ⟨rfl, ?_⟩
   conv=>whnf
   refine .take 2 ?_
   conv=>whnf
   refine ⟨rfl, ?_⟩
   conv=>whnf
   refine .take 3 ?_
   conv=>whnf
   refine ⟨rfl, ?_⟩
   conv=>whnf
   refine LoadG.at (.tl (.here rfl)) ?_
   conv=>whnf
   refine .take 4 ?_
   conv=>whnf
   refine ⟨rfl, ?_⟩
   conv=>whnf
   refine LoadNG.at (vs := bvs (dig K (strN key))) (by rw [bvs_len, ld]) .all ?_
   conv=>whnf
   refine .take 5 ?_
   conv=>whnf
   refine ⟨rfl, ?_⟩
   conv=>whnf
   refine .all ?_
   conv=>whnf
   refine ⟨by decide, ?_⟩
   conv=>whnf
   refine ⟨rfl, ?_⟩
   conv=>whnf
   refine DoesG.ent (Ent.front 3 rfl) ?_
   refine DoesG.upd digT ofT ld ?_
   rw [putM_of c.ofs (dig K (strN key)) kv' ks2]
   conv=>whnf
   refine ⟨rfl, ?_⟩
   conv=>whnf
   have hlp : 0 < ks2.length := List.length_pos_iff.2 hne2
   obtain ⟨lst, hlst⟩ : ∃ l, ks2.getLast? = some l := ⟨ks2.getLast hne2, List.getLast?_eq_some_getLast hne2⟩
   have hlast : ks2[ks2.length - 1]? = some lst := by rw [← List.getLast?_eq_getElem?]; exact hlst
   obtain ⟨yv, ybs, hy⟩ : ∃ yv ybs, getK V' lst = some (yv, ybs) := by
    have h := ((hmem lst).1 (List.mem_of_getElem? hlast)).2
    cases hg : getK V' lst with
    | none => rw [hg] at h; cases h
    | some y => exact ⟨y.1, y.2, rfl⟩
   obtain ⟨hy1, hy2, hy3, hy4⟩ := hV _ (getK_mem hy)
   have hdy := IsD.dig K ybs
   have hy2' : ybs.length ≤ 4096 := hy2
   refine DrawG.mk 18 (mapP digV digOk c.ob (ofM (putO c.ofs (dig K (strN key)) kv' ks2)) :: cel b6 46 (bvs (dig K (strN key))) :: cel t 89 [.map (some c.vb), .pointer (some ⟨c.q, 0, none⟩), .map (some c.ob)] :: mapS c.vb (kvM V') :: (rcs 144 c.Bs ++ shs S')) [cel c.q 124 [c.top, .int .i64 c.len]] (Ent.front 4 rfl) ?_
   have hsI : ShG (mapP digV digOk c.ob (ofM (putO c.ofs (dig K (strN key)) kv' ks2)) :: cel b6 46 (bvs (dig K (strN key))) :: cel t 89 [.map (some c.vb), .pointer (some ⟨c.q, 0, none⟩), .map (some c.ob)] :: mapS c.vb (kvM V') :: (rcs 144 c.Bs ++ shs S')) S' := fun v cs h => by
    have h2 := (ShG.here (S := S') (L := [])) v cs h
    rw [List.append_nil] at h2
    exact .tl (.tl (.tl (.tl (h2.right _))))
   have hbI : BsG (mapP digV digOk c.ob (ofM (putO c.ofs (dig K (strN key)) kv' ks2)) :: cel b6 46 (bvs (dig K (strN key))) :: cel t 89 [.map (some c.vb), .pointer (some ⟨c.q, 0, none⟩), .map (some c.ob)] :: mapS c.vb (kvM V') :: (rcs 144 c.Bs ++ shs S')) c.Bs := ((((BsG.here (T := 144) (L := shs S')).tl).tl).tl).tl
   have hkI := hsI kv' (svs ks2) hsh
   rw [svs_len] at hkI
   conv=>whnf
   refine .take 0 ?_
   conv=>whnf
   refine ⟨rfl, ?_⟩
   conv=>whnf
   refine .take 1 ?_
   conv=>whnf
   refine ⟨rfl, ?_⟩
   conv=>whnf
   refine .take 2 ?_
   conv=>whnf
   refine ⟨rfl, ?_⟩
   conv=>whnf
   refine .take 3 ?_
   conv=>whnf
   refine ⟨rfl, ?_⟩
   conv=>whnf
   refine LoadG.at (.tl (.tl (.here rfl))) ?_
   conv=>whnf
   refine .take 4 ?_
   conv=>whnf
   refine ⟨rfl, ?_⟩
   conv=>whnf
   refine LoadNG.at (vs := bvs (dig K (strN key))) (by rw [bvs_len, ld]) (.tl .all) ?_
   conv=>whnf
   refine .take 5 ?_
   conv=>whnf
   refine ⟨rfl, ?_⟩
   conv=>whnf
   refine .take 6 ?_
   conv=>whnf
   refine ⟨rfl, ?_⟩
   conv=>whnf
   refine .take 7 ?_
   conv=>whnf
   refine ⟨rfl, ?_⟩
   conv=>whnf
   refine .take 8 ?_
   conv=>whnf
   refine ⟨rfl, ?_⟩
   conv=>whnf
   refine LoadG.at (.tl (.tl (.here rfl))) ?_
   conv=>whnf
   refine .take 9 ?_
   conv=>whnf
   refine ⟨rfl, ?_⟩
   conv=>whnf
   refine .take 10 ?_
   conv=>whnf
   refine ⟨rfl, ?_⟩
   conv=>whnf
   refine .take 11 ?_
   conv=>whnf
   refine ⟨rfl, ?_⟩
   conv=>whnf
   refine LenG.rd hkI ?_
   conv=>whnf
   refine .take 12 ?_
   conv=>whnf
   refine ⟨rfl, ?_⟩
   conv=>whnf
   refine ArithG.i64' ((ks2.length - 1 : Nat) : Int) (by omega) (by omega) ?_
   conv=>whnf
   refine .take 13 ?_
   conv=>whnf
   refine ⟨rfl, ?_⟩
   conv=>whnf
   refine IdxG.rd hkI (by omega) fun b' o' hc => ?_
   conv=>whnf
   refine .take 14 ?_
   conv=>whnf
   refine ⟨rfl, ?_⟩
   conv=>whnf
   refine LoadG.at (hc.one (u := .string lst) (by rw [Int.toNat_natCast, Nat.mul_one]; exact svs_get hlast)) ?_
   conv=>whnf
   refine .all ?_
   conv=>whnf
   refine ⟨by decide, ?_⟩
   conv=>whnf
   refine DoesG.look strT mapT zeroB trivial (MapG.right (MapG.left (.tl (.tl (.tl .here))) F) _) false ?_
   rw [if_neg (by decide), getM_kv, hy]
   conv=>whnf
   refine .all ?_
   conv=>whnf
   refine ⟨by decide, ?_⟩
   conv=>whnf
   have hyr := hsI yv (bvs ybs) hy1
   rw [bvs_len] at hyr
   refine CallG.pure (dsum_spec _ K (.right (.right hK _) _) hk yv ybs (.right (.left hyr F) _) (by omega) hy4) ?_
   rintro _ _ ⟨rfl, rfl⟩
   conv=>whnf
   refine .all ?_
   conv=>whnf
   refine ⟨by decide, ?_⟩
   conv=>whnf
   refine CallG.of (pre := [cel c.q 124 [c.top, .int .i64 c.len]]) (rest := []) (mput_spec hk _ (.right (.right hK _) _) ((hbI.left F).right _) c.q c.top c.len c.tree hw.node hw.tree (dig K (strN key)) (dig K ybs) hd hdy) (Ent.refl _) ?_
   rintro _ _ ⟨Ns, top', len', rfl, hN⟩
   conv=>whnf
   refine ⟨rfl, ?_⟩
   conv=>whnf
   obtain ⟨c', hc'⟩ : ∃ z, z = c.next (dig K (strN key)) V' S' kv' ks2 (putT (dig K (strN key)) (dig K ybs) 256 c.tree) top' len' Ns := ⟨_, rfl⟩
   have hT := (putT_wf hd hdy 256 0 c.tree rfl hw.tree (along_zero _ _)).1
   have hwf : c'.wf K (n + 1) := by
    rw [hc']
    exact next_wf hw hS hsh hsort2 hlen2 hV hVk hsame hmem hN hT
   refine ⟨c'.pieces 89 124 144 t, ?_, c', ⟨fun h => by rw [hc']; exact hput h, fun h => by rw [hc']; exact hdel h, hwf, ?_⟩, rfl⟩
   ·have eo : c'.ofs = putO c.ofs (dig K (strN key)) kv' ks2 := by rw [hc']; simp [TabD.next, hne2]
    have ev : c'.vals = V' := by rw [hc']; rfl
    have eq' : c'.q = c.q ∧ c'.vb = c.vb ∧ c'.ob = c.ob ∧ c'.Bs = Ns ++ c.Bs ∧ c'.S = S' ∧ c'.top = top' ∧ c'.len = len' := by rw [hc']; exact ⟨rfl, rfl, rfl, rfl, rfl, rfl, rfl⟩
    obtain ⟨q1, q2, q3, q4, q5, q6, q7⟩ := eq'
    unfold TabD.pieces
    rw [eo, ev, q1, q2, q3, q4, q5, q6, q7, rcs_app]
    rw [List.append_nil]
    exact lay_fin
   ·have e : (c'.at (dig K (strN key))).2 = ks2 := by rw [hc']; exact next_at
    have e2 : c'.vals = V' := by rw [hc']; rfl
    have e3 : c'.lastD K (dig K (strN key)) = dig K ybs := by
     unfold TabD.lastD
     rw [e, hlst, e2]
     show dig K (((getK V' lst).map (·.2)).getD []) = _
     rw [hy]
     rfl
    rw [e3, hc']
    rfl
  ·have hb' : b = true := by simpa using hnb
   subst hb'
   have hin : key ∈ ks := (hbs.mem hk2).1 rfl
   obtain ⟨ks2, eks2⟩ : ∃ z, z = ks := ⟨_, rfl⟩
   obtain ⟨kv', ekv'⟩ : ∃ z, z = kv := ⟨_, rfl⟩
   have hmem : ∀ k, k ∈ ks2 ↔ dig K (strN k) = dig K (strN key) ∧ (getK (putK c.vals key x bs) k).isSome = true := fun k => by
    rw [eks2, getK_put]
    by_cases e : k = key
    ·subst e; simp [hin]
    ·simp only [e, if_false]
     exact hkiff k
   have hne2 : ks2 ≠ [] := fun h => by rw [← eks2, h] at hin; cases hin
   have hkv' : SlV kv' ks2.length := by rw [ekv', eks2]; have h := hk1.sl; rw [svs_len] at h; exact h
   have hl2 := List.length_pos_iff.2 hne2
   conv=>whnf
   rw [← ekv']
   refine LenG.sl hkv' ?_
   conv=>whnf
   refine CondG.decF (by omega) ?_
   obtain ⟨V', hV'⟩ : ∃ z, z = putK c.vals key x bs := ⟨_, rfl⟩
   obtain ⟨S', hS'⟩ : ∃ z, z = (x, bvs bs) :: c.S := ⟨_, rfl⟩
   have hS : ∀ p ∈ c.S, p ∈ S' := fun p hp => by rw [hS']; exact List.mem_cons_of_mem _ hp
   have hsh : ShIn S' kv' (svs ks2) := by rw [ekv', eks2]; exact hk1.mono hS
   have hV : ∀ p ∈ V', ShIn S' p.2.1 (bvs p.2.2) ∧ p.2.2.length ≤ 4096 ∧ p.2.2 ≠ [] ∧ ∀ b ∈ p.2.2, b < 256 := fun p hp => by
    rw [hV'] at hp
    rcases putK_mem hp with rfl | hp
    ·exact ⟨⟨by rw [bvs_len]; exact hx, .inl (by rw [hS']; exact List.mem_cons_self)⟩, hl, hbne, hb⟩
    ·obtain ⟨g1, g2, g3, g4⟩ := hw.vals p hp
     exact ⟨g1.mono hS, g2, g3, g4⟩
   have hVk : ∀ p ∈ V', 0 < p.1.size ∧ p.1.size ≤ 128 := fun p hp => by
    rw [hV'] at hp
    rcases putK_mem hp with rfl | hp
    ·exact ⟨h1, h2⟩
    ·exact hw.keys p hp
   have hsame : ∀ k, k ≠ key → getK V' k = getK c.vals k := fun k hne => by rw [hV', getK_put, if_neg hne]
   have hput : bs ≠ [] → ∃ x, V' = putK c.vals key x bs := fun _ => ⟨x, hV'⟩
   have hdel : bs = [] → V' = delK c.vals key := fun h => absurd h hbne
   have hlen2 : ks2.length ≤ n + 1 := by rw [eks2]; omega
   have hsort2 : Sorted ks2 := by rw [eks2]; exact hk2
   rw [← hV'] at hmem ⊢
   refine DrawG.mk 6 (cel b6 46 (bvs (dig K (strN key))) :: TabD.pieces 89 124 144 t { c with vals := V', S := S' }) [] ?_ ?_
   ·rw [hS']
    refine (Ent.front 1 rfl).trans ((shC_of_own (by rw [bvs_len])).trans ?_)
    exact (Ent.sel (T := rcs 144 c.Bs ++ shs c.S) (A := [_, _, _, _, _, _]) [0, 2, 3, 1, 4, 5] rfl).trans (down1 (A := [_, _, _, _, _]))
   conv=>whnf
   refine .take 0 ?_
   conv=>whnf
   refine ⟨rfl, ?_⟩
   conv=>whnf
   refine .take 1 ?_
   conv=>whnf
   refine ⟨rfl, ?_⟩
   conv=>whnf
   refine .take 2 ?_
   conv=>whnf
   refine ⟨rfl, ?_⟩
   conv=>whnf
   refine .take 3 ?_
   conv=>whnf
   refine ⟨rfl, ?_⟩
   conv=>whnf
   refine LoadG.at (.tl (.here rfl)) ?_
   conv=>whnf
   refine .take 4 ?_
   conv=>whnf
   refine ⟨rfl, ?_⟩
   conv=>whnf
   refine LoadNG.at (vs := bvs (dig K (strN key))) (by rw [bvs_len, ld]) .all ?_
   conv=>whnf
   refine .take 5 ?_
   conv=>whnf
   refine ⟨rfl, ?_⟩
   conv=>whnf
   refine .all ?_
   conv=>whnf
   refine ⟨by decide, ?_⟩
   conv=>whnf
   refine ⟨rfl, ?_⟩
   conv=>whnf
   refine DoesG.ent (Ent.front 3 rfl) ?_
   refine DoesG.upd digT ofT ld ?_
   rw [putM_of c.ofs (dig K (strN key)) kv' ks2]
   conv=>whnf
   refine ⟨rfl, ?_⟩
   conv=>whnf
   have hlp : 0 < ks2.length := List.length_pos_iff.2 hne2
   obtain ⟨lst, hlst⟩ : ∃ l, ks2.getLast? = some l := ⟨ks2.getLast hne2, List.getLast?_eq_some_getLast hne2⟩
   have hlast : ks2[ks2.length - 1]? = some lst := by rw [← List.getLast?_eq_getElem?]; exact hlst
   obtain ⟨yv, ybs, hy⟩ : ∃ yv ybs, getK V' lst = some (yv, ybs) := by
    have h := ((hmem lst).1 (List.mem_of_getElem? hlast)).2
    cases hg : getK V' lst with
    | none => rw [hg] at h; cases h
    | some y => exact ⟨y.1, y.2, rfl⟩
   obtain ⟨hy1, hy2, hy3, hy4⟩ := hV _ (getK_mem hy)
   have hdy := IsD.dig K ybs
   have hy2' : ybs.length ≤ 4096 := hy2
   refine DrawG.mk 18 (mapP digV digOk c.ob (ofM (putO c.ofs (dig K (strN key)) kv' ks2)) :: cel b6 46 (bvs (dig K (strN key))) :: cel t 89 [.map (some c.vb), .pointer (some ⟨c.q, 0, none⟩), .map (some c.ob)] :: mapS c.vb (kvM V') :: (rcs 144 c.Bs ++ shs S')) [cel c.q 124 [c.top, .int .i64 c.len]] (Ent.front 4 rfl) ?_
   have hsI : ShG (mapP digV digOk c.ob (ofM (putO c.ofs (dig K (strN key)) kv' ks2)) :: cel b6 46 (bvs (dig K (strN key))) :: cel t 89 [.map (some c.vb), .pointer (some ⟨c.q, 0, none⟩), .map (some c.ob)] :: mapS c.vb (kvM V') :: (rcs 144 c.Bs ++ shs S')) S' := fun v cs h => by
    have h2 := (ShG.here (S := S') (L := [])) v cs h
    rw [List.append_nil] at h2
    exact .tl (.tl (.tl (.tl (h2.right _))))
   have hbI : BsG (mapP digV digOk c.ob (ofM (putO c.ofs (dig K (strN key)) kv' ks2)) :: cel b6 46 (bvs (dig K (strN key))) :: cel t 89 [.map (some c.vb), .pointer (some ⟨c.q, 0, none⟩), .map (some c.ob)] :: mapS c.vb (kvM V') :: (rcs 144 c.Bs ++ shs S')) c.Bs := ((((BsG.here (T := 144) (L := shs S')).tl).tl).tl).tl
   have hkI := hsI kv' (svs ks2) hsh
   rw [svs_len] at hkI
   conv=>whnf
   refine .take 0 ?_
   conv=>whnf
   refine ⟨rfl, ?_⟩
   conv=>whnf
   refine .take 1 ?_
   conv=>whnf
   refine ⟨rfl, ?_⟩
   conv=>whnf
   refine .take 2 ?_
   conv=>whnf
   refine ⟨rfl, ?_⟩
   conv=>whnf
   refine .take 3 ?_
   conv=>whnf
   refine ⟨rfl, ?_⟩
   conv=>whnf
   refine LoadG.at (.tl (.tl (.here rfl))) ?_
   conv=>whnf
   refine .take 4 ?_
   conv=>whnf
   refine ⟨rfl, ?_⟩
   conv=>whnf
   refine LoadNG.at (vs := bvs (dig K (strN key))) (by rw [bvs_len, ld]) (.tl .all) ?_
   conv=>whnf
   refine .take 5 ?_
   conv=>whnf
   refine ⟨rfl, ?_⟩
   conv=>whnf
   refine .take 6 ?_
   conv=>whnf
   refine ⟨rfl, ?_⟩
   conv=>whnf
   refine .take 7 ?_
   conv=>whnf
   refine ⟨rfl, ?_⟩
   conv=>whnf
   refine .take 8 ?_
   conv=>whnf
   refine ⟨rfl, ?_⟩
   conv=>whnf
   refine LoadG.at (.tl (.tl (.here rfl))) ?_
   conv=>whnf
   refine .take 9 ?_
   conv=>whnf
   refine ⟨rfl, ?_⟩
   conv=>whnf
   refine .take 10 ?_
   conv=>whnf
   refine ⟨rfl, ?_⟩
   conv=>whnf
   refine .take 11 ?_
   conv=>whnf
   refine ⟨rfl, ?_⟩
   conv=>whnf
   refine LenG.rd hkI ?_
   conv=>whnf
   refine .take 12 ?_
   conv=>whnf
   refine ⟨rfl, ?_⟩
   conv=>whnf
   refine ArithG.i64' ((ks2.length - 1 : Nat) : Int) (by omega) (by omega) ?_
   conv=>whnf
   refine .take 13 ?_
   conv=>whnf
   refine ⟨rfl, ?_⟩
   conv=>whnf
   refine IdxG.rd hkI (by omega) fun b' o' hc => ?_
   conv=>whnf
   refine .take 14 ?_
   conv=>whnf
   refine ⟨rfl, ?_⟩
   conv=>whnf
   refine LoadG.at (hc.one (u := .string lst) (by rw [Int.toNat_natCast, Nat.mul_one]; exact svs_get hlast)) ?_
   conv=>whnf
   refine .all ?_
   conv=>whnf
   refine ⟨by decide, ?_⟩
   conv=>whnf
   refine DoesG.look strT mapT zeroB trivial (MapG.right (MapG.left (.tl (.tl (.tl .here))) F) _) false ?_
   rw [if_neg (by decide), getM_kv, hy]
   conv=>whnf
   refine .all ?_
   conv=>whnf
   refine ⟨by decide, ?_⟩
   conv=>whnf
   have hyr := hsI yv (bvs ybs) hy1
   rw [bvs_len] at hyr
   refine CallG.pure (dsum_spec _ K (.right (.right hK _) _) hk yv ybs (.right (.left hyr F) _) (by omega) hy4) ?_
   rintro _ _ ⟨rfl, rfl⟩
   conv=>whnf
   refine .all ?_
   conv=>whnf
   refine ⟨by decide, ?_⟩
   conv=>whnf
   refine CallG.of (pre := [cel c.q 124 [c.top, .int .i64 c.len]]) (rest := []) (mput_spec hk _ (.right (.right hK _) _) ((hbI.left F).right _) c.q c.top c.len c.tree hw.node hw.tree (dig K (strN key)) (dig K ybs) hd hdy) (Ent.refl _) ?_
   rintro _ _ ⟨Ns, top', len', rfl, hN⟩
   conv=>whnf
   refine ⟨rfl, ?_⟩
   conv=>whnf
   obtain ⟨c', hc'⟩ : ∃ z, z = c.next (dig K (strN key)) V' S' kv' ks2 (putT (dig K (strN key)) (dig K ybs) 256 c.tree) top' len' Ns := ⟨_, rfl⟩
   have hT := (putT_wf hd hdy 256 0 c.tree rfl hw.tree (along_zero _ _)).1
   have hwf : c'.wf K (n + 1) := by
    rw [hc']
    exact next_wf hw hS hsh hsort2 hlen2 hV hVk hsame hmem hN hT
   refine ⟨c'.pieces 89 124 144 t, ?_, c', ⟨fun h => by rw [hc']; exact hput h, fun h => by rw [hc']; exact hdel h, hwf, ?_⟩, rfl⟩
   ·have eo : c'.ofs = putO c.ofs (dig K (strN key)) kv' ks2 := by rw [hc']; simp [TabD.next, hne2]
    have ev : c'.vals = V' := by rw [hc']; rfl
    have eq' : c'.q = c.q ∧ c'.vb = c.vb ∧ c'.ob = c.ob ∧ c'.Bs = Ns ++ c.Bs ∧ c'.S = S' ∧ c'.top = top' ∧ c'.len = len' := by rw [hc']; exact ⟨rfl, rfl, rfl, rfl, rfl, rfl, rfl⟩
    obtain ⟨q1, q2, q3, q4, q5, q6, q7⟩ := eq'
    unfold TabD.pieces
    rw [eo, ev, q1, q2, q3, q4, q5, q6, q7, rcs_app]
    rw [List.append_nil]
    exact lay_fin
   ·have e : (c'.at (dig K (strN key))).2 = ks2 := by rw [hc']; exact next_at
    have e2 : c'.vals = V' := by rw [hc']; rfl
    have e3 : c'.lastD K (dig K (strN key)) = dig K ybs := by
     unfold TabD.lastD
     rw [e, hlst, e2]
     show dig K (((getK V' lst).map (·.2)).getD []) = _
     rw [hy]
     rfl
    rw [e3, hc']
    rfl
 ·have hbe : bs = [] := List.eq_nil_of_length_eq_zero (by omega)
  subst hbe
  refine CondG.split (fun hnb => ?_) (fun hnb => ?_)
  ·have hb' : b = true := hnb
   subst hb'
   have hin : key ∈ ks := (hbs.mem hk2).1 rfl
   have hat2 : ks[i]? = some key := by have := hbs.is; simpa using this.symm
   have hi2 : i < ks.length := (List.getElem?_eq_some_iff.1 hat2).1
   obtain ⟨hks2, hmk⟩ := hbs.delete hk2
   conv=>whnf
   refine LoadG.at (.tl (.here rfl)) ?_
   conv=>whnf
   refine DoesG.ent (Ent.front 2 rfl) ?_
   refine DoesG.delM strT mapT trivial ?_
   rw [delM_kv c.vals key]
   conv=>whnf
   refine CallG.pure (cloneS_spec _ kv ks (by omega) (.tl (.tl (.tl (.tl (.tl ((hrd kv ks hk1).left F))))))) ?_
   rintro r2 _ ⟨hr2, rfl⟩
   conv=>whnf
   refine ArithG.i64' ((i + 1 : Nat) : Int) (by omega) (by omega) ?_
   conv=>whnf
   refine CallG.of (pre := [own 1 r2 ks.length (svs ks)]) (deleteS_spec _ r2 ks i hi2 (by omega)) (Ent.refl _) ?_
   rintro kv' _ ⟨hkv', rfl⟩
   obtain ⟨ks2, eks2⟩ : ∃ z, z = ks.take i ++ ks.drop (i + 1) := ⟨_, rfl⟩
   have hl2 : ks2.length = ks.length - 1 := by rw [eks2, List.length_append, List.length_take, List.length_drop]; omega
   rw [← hl2] at hkv' ⊢
   rw [← eks2] at hks2 ⊢
   have hmem : ∀ k, k ∈ ks2 ↔ dig K (strN k) = dig K (strN key) ∧ (getK (delK c.vals key) k).isSome = true := fun k => by
    rw [eks2, hmk, getK_del]
    by_cases e : k = key
    ·subst e; simp
    ·simp only [e, if_false, ne_eq, not_false_eq_true, and_true]
     exact hkiff k
   conv=>whnf
   refine LenG.sl hkv' ?_
   conv=>whnf
   obtain ⟨V', hV'⟩ : ∃ z, z = delK c.vals key := ⟨_, rfl⟩
   obtain ⟨S', hS'⟩ : ∃ z, z = (kv', svs ks2) :: c.S := ⟨_, rfl⟩
   have hS : ∀ p ∈ c.S, p ∈ S' := fun p hp => by rw [hS']; exact List.mem_cons_of_mem _ hp
   have hsh : ShIn S' kv' (svs ks2) := ⟨by rw [svs_len]; exact hkv', .inl (by rw [hS']; exact List.mem_cons_self)⟩
   have hV : ∀ p ∈ V', ShIn S' p.2.1 (bvs p.2.2) ∧ p.2.2.length ≤ 4096 ∧ p.2.2 ≠ [] ∧ ∀ b ∈ p.2.2, b < 256 := fun p hp => by
    rw [hV'] at hp
    obtain ⟨g1, g2, g3, g4⟩ := hw.vals p (List.mem_filter.1 hp).1
    exact ⟨g1.mono hS, g2, g3, g4⟩
   have hVk : ∀ p ∈ V', 0 < p.1.size ∧ p.1.size ≤ 128 := fun p hp => by
    rw [hV'] at hp
    exact hw.keys p (List.mem_filter.1 hp).1
   have hsame : ∀ k, k ≠ key → getK V' k = getK c.vals k := fun k hne => by rw [hV', getK_del, if_neg hne]
   have hput : ([] : List Nat) ≠ [] → ∃ x, V' = putK c.vals key x [] := fun h => absurd rfl h
   have hdel : ([] : List Nat) = [] → V' = delK c.vals key := fun _ => hV'
   have hlen2 : ks2.length ≤ n + 1 := by omega
   have hsort2 := hks2
   rw [← hV'] at hmem ⊢
   refine CondG.dec (fun hz => ?_) (fun hz => ?_)
   ·have hz2 : ks2 = [] := List.eq_nil_of_length_eq_zero (by omega)
    refine DrawG.mk 6 (cel b6 46 (bvs (dig K (strN key))) :: cel t 89 [.map (some c.vb), .pointer (some ⟨c.q, 0, none⟩), .map (some c.ob)] :: mapS c.vb (kvM V') :: cel c.q 124 [c.top, .int .i64 c.len] :: (rcs 144 c.Bs ++ shs S')) [mapP digV digOk c.ob (ofM c.ofs)] ?_ ?_
    ·rw [hS']
     refine (shC_of_own (by rw [svs_len])).trans ?_
     exact (Ent.sel (T := rcs 144 c.Bs ++ shs c.S) (A := [_, _, _, _, _, _]) [0, 4, 2, 3, 1, 5] rfl).trans (down1 (A := [_, _, _, _, _]))
    conv=>whnf
    refine .take 0 ?_
    conv=>whnf
    refine ⟨rfl, ?_⟩
    conv=>whnf
    refine .take 1 ?_
    conv=>whnf
    refine ⟨rfl, ?_⟩
    conv=>whnf
    refine .take 2 ?_
    conv=>whnf
    refine ⟨rfl, ?_⟩
    conv=>whnf
    refine .take 3 ?_
    conv=>whnf
    refine ⟨rfl, ?_⟩
    conv=>whnf
    refine LoadG.at (.tl (.here rfl)) ?_
    conv=>whnf
    refine .take 4 ?_
    conv=>whnf
    refine ⟨rfl, ?_⟩
    conv=>whnf
    refine LoadNG.at (vs := bvs (dig K (strN key))) (by rw [bvs_len, ld]) .all ?_
    conv=>whnf
    refine .all ?_
    conv=>whnf
    refine ⟨by decide, ?_⟩
    conv=>whnf
    refine DoesG.delM digT ofT ld ?_
    rw [delM_of c.ofs (dig K (strN key))]
    conv=>whnf
    refine ⟨rfl, ?_⟩
    conv=>whnf
    refine DrawG.mk 7 (mapP digV digOk c.ob (ofM (delO c.ofs (dig K (strN key)))) :: cel b6 46 (bvs (dig K (strN key))) :: cel t 89 [.map (some c.vb), .pointer (some ⟨c.q, 0, none⟩), .map (some c.ob)] :: mapS c.vb (kvM V') :: (rcs 144 c.Bs ++ shs S')) [cel c.q 124 [c.top, .int .i64 c.len]] (Ent.front 4 rfl) ?_
    have hbI : BsG (mapP digV digOk c.ob (ofM (delO c.ofs (dig K (strN key)))) :: cel b6 46 (bvs (dig K (strN key))) :: cel t 89 [.map (some c.vb), .pointer (some ⟨c.q, 0, none⟩), .map (some c.ob)] :: mapS c.vb (kvM V') :: (rcs 144 c.Bs ++ shs S')) c.Bs := ((((BsG.here (T := 144) (L := shs S')).tl).tl).tl).tl
    conv=>whnf
    refine .take 0 ?_
    conv=>whnf
    refine ⟨rfl, ?_⟩
    conv=>whnf
    refine .take 1 ?_
    conv=>whnf
    refine ⟨rfl, ?_⟩
    conv=>whnf
    refine .take 2 ?_
    conv=>whnf
    refine ⟨rfl, ?_⟩
    conv=>whnf
    refine .take 3 ?_
    conv=>whnf
    refine ⟨rfl, ?_⟩
    conv=>whnf
    refine LoadG.at (.tl (.tl (.here rfl))) ?_
    conv=>whnf
    refine .take 4 ?_
    conv=>whnf
    refine ⟨rfl, ?_⟩
    conv=>whnf
    refine LoadNG.at (vs := bvs (dig K (strN key))) (by rw [bvs_len, ld]) (.tl .all) ?_
    conv=>whnf
    refine .take 5 ?_
    conv=>whnf
    refine ⟨rfl, ?_⟩
    conv=>whnf
    refine BuildG.of (cs := bvs zd) rfl ?_
    conv=>whnf
    refine .all ?_
    conv=>whnf
    refine ⟨by decide, ?_⟩
    conv=>whnf
    refine CallG.of (pre := [cel c.q 124 [c.top, .int .i64 c.len]]) (rest := []) (mput_spec hk _ (.right (.right hK _) _) ((hbI.left F).right _) c.q c.top c.len c.tree hw.node hw.tree (dig K (strN key)) zd hd IsD.zd) (Ent.refl _) ?_
    rintro _ _ ⟨Ns, top', len', rfl, hN⟩
    conv=>whnf
    refine ⟨rfl, ?_⟩
    conv=>whnf
    obtain ⟨c', hc'⟩ : ∃ z, z = c.next (dig K (strN key)) V' S' kv' ks2 (putT (dig K (strN key)) zd 256 c.tree) top' len' Ns := ⟨_, rfl⟩
    have hT := (putT_wf hd IsD.zd 256 0 c.tree rfl hw.tree (along_zero _ _)).1
    have hwf : c'.wf K (n + 1) := by
     rw [hc']
     exact next_wf hw hS hsh hsort2 hlen2 hV hVk hsame hmem hN hT
    refine ⟨c'.pieces 89 124 144 t, ?_, c', ⟨fun h => by rw [hc']; exact hput h, fun h => by rw [hc']; exact hdel h, hwf, ?_⟩, rfl⟩
    ·have eo : c'.ofs = delO c.ofs (dig K (strN key)) := by rw [hc']; simp [TabD.next, hz2]
     have ev : c'.vals = V' := by rw [hc']; rfl
     have eq' : c'.q = c.q ∧ c'.vb = c.vb ∧ c'.ob = c.ob ∧ c'.Bs = Ns ++ c.Bs ∧ c'.S = S' ∧ c'.top = top' ∧ c'.len = len' := by rw [hc']; exact ⟨rfl, rfl, rfl, rfl, rfl, rfl, rfl⟩
     obtain ⟨q1, q2, q3, q4, q5, q6, q7⟩ := eq'
     unfold TabD.pieces
     rw [eo, ev, q1, q2, q3, q4, q5, q6, q7, rcs_app]
     rw [List.append_nil]
     exact lay_fin
    ·have e : (c'.at (dig K (strN key))).2 = ks2 := by rw [hc']; exact next_at
     have e3 : c'.lastD K (dig K (strN key)) = zd := by
      unfold TabD.lastD
      rw [e, hz2]
      rfl
     rw [e3, hc']
     rfl
   ·have hne2 : ks2 ≠ [] := fun h => hz (by rw [h]; rfl)
    refine DrawG.mk 6 (cel b6 46 (bvs (dig K (strN key))) :: TabD.pieces 89 124 144 t { c with vals := V', S := S' }) [] ?_ ?_
    ·rw [hS']
     refine (shC_of_own (by rw [svs_len])).trans ?_
     exact (Ent.sel (T := rcs 144 c.Bs ++ shs c.S) (A := [_, _, _, _, _, _]) [0, 2, 3, 1, 4, 5] rfl).trans (down1 (A := [_, _, _, _, _]))
    conv=>whnf
    refine .take 0 ?_
    conv=>whnf
    refine ⟨rfl, ?_⟩
    conv=>whnf
    refine .take 1 ?_
    conv=>whnf
    refine ⟨rfl, ?_⟩
    conv=>whnf
    refine .take 2 ?_
    conv=>whnf
    refine ⟨rfl, ?_⟩
    conv=>whnf
    refine .take 3 ?_
    conv=>whnf
    refine ⟨rfl, ?_⟩
    conv=>whnf
    refine LoadG.at (.tl (.here rfl)) ?_
    conv=>whnf
    refine .take 4 ?_
    conv=>whnf
    refine ⟨rfl, ?_⟩
    conv=>whnf
    refine LoadNG.at (vs := bvs (dig K (strN key))) (by rw [bvs_len, ld]) .all ?_
    conv=>whnf
    refine .take 5 ?_
    conv=>whnf
    refine ⟨rfl, ?_⟩
    conv=>whnf
    refine .all ?_
    conv=>whnf
    refine ⟨by decide, ?_⟩
    conv=>whnf
    refine ⟨rfl, ?_⟩
    conv=>whnf
    refine DoesG.ent (Ent.front 3 rfl) ?_
    refine DoesG.upd digT ofT ld ?_
    rw [putM_of c.ofs (dig K (strN key)) kv' ks2]
    conv=>whnf
    refine ⟨rfl, ?_⟩
    conv=>whnf
    have hlp : 0 < ks2.length := List.length_pos_iff.2 hne2
    obtain ⟨lst, hlst⟩ : ∃ l, ks2.getLast? = some l := ⟨ks2.getLast hne2, List.getLast?_eq_some_getLast hne2⟩
    have hlast : ks2[ks2.length - 1]? = some lst := by rw [← List.getLast?_eq_getElem?]; exact hlst
    obtain ⟨yv, ybs, hy⟩ : ∃ yv ybs, getK V' lst = some (yv, ybs) := by
     have h := ((hmem lst).1 (List.mem_of_getElem? hlast)).2
     cases hg : getK V' lst with
     | none => rw [hg] at h; cases h
     | some y => exact ⟨y.1, y.2, rfl⟩
    obtain ⟨hy1, hy2, hy3, hy4⟩ := hV _ (getK_mem hy)
    have hdy := IsD.dig K ybs
    have hy2' : ybs.length ≤ 4096 := hy2
    refine DrawG.mk 18 (mapP digV digOk c.ob (ofM (putO c.ofs (dig K (strN key)) kv' ks2)) :: cel b6 46 (bvs (dig K (strN key))) :: cel t 89 [.map (some c.vb), .pointer (some ⟨c.q, 0, none⟩), .map (some c.ob)] :: mapS c.vb (kvM V') :: (rcs 144 c.Bs ++ shs S')) [cel c.q 124 [c.top, .int .i64 c.len]] (Ent.front 4 rfl) ?_
    have hsI : ShG (mapP digV digOk c.ob (ofM (putO c.ofs (dig K (strN key)) kv' ks2)) :: cel b6 46 (bvs (dig K (strN key))) :: cel t 89 [.map (some c.vb), .pointer (some ⟨c.q, 0, none⟩), .map (some c.ob)] :: mapS c.vb (kvM V') :: (rcs 144 c.Bs ++ shs S')) S' := fun v cs h => by
     have h2 := (ShG.here (S := S') (L := [])) v cs h
     rw [List.append_nil] at h2
     exact .tl (.tl (.tl (.tl (h2.right _))))
    have hbI : BsG (mapP digV digOk c.ob (ofM (putO c.ofs (dig K (strN key)) kv' ks2)) :: cel b6 46 (bvs (dig K (strN key))) :: cel t 89 [.map (some c.vb), .pointer (some ⟨c.q, 0, none⟩), .map (some c.ob)] :: mapS c.vb (kvM V') :: (rcs 144 c.Bs ++ shs S')) c.Bs := ((((BsG.here (T := 144) (L := shs S')).tl).tl).tl).tl
    have hkI := hsI kv' (svs ks2) hsh
    rw [svs_len] at hkI
    conv=>whnf
    refine .take 0 ?_
    conv=>whnf
    refine ⟨rfl, ?_⟩
    conv=>whnf
    refine .take 1 ?_
    conv=>whnf
    refine ⟨rfl, ?_⟩
    conv=>whnf
    refine .take 2 ?_
    conv=>whnf
    refine ⟨rfl, ?_⟩
    conv=>whnf
    refine .take 3 ?_
    conv=>whnf
    refine ⟨rfl, ?_⟩
    conv=>whnf
    refine LoadG.at (.tl (.tl (.here rfl))) ?_
    conv=>whnf
    refine .take 4 ?_
    conv=>whnf
    refine ⟨rfl, ?_⟩
    conv=>whnf
    refine LoadNG.at (vs := bvs (dig K (strN key))) (by rw [bvs_len, ld]) (.tl .all) ?_
    conv=>whnf
    refine .take 5 ?_
    conv=>whnf
    refine ⟨rfl, ?_⟩
    conv=>whnf
    refine .take 6 ?_
    conv=>whnf
    refine ⟨rfl, ?_⟩
    conv=>whnf
    refine .take 7 ?_
    conv=>whnf
    refine ⟨rfl, ?_⟩
    conv=>whnf
    refine .take 8 ?_
    conv=>whnf
    refine ⟨rfl, ?_⟩
    conv=>whnf
    refine LoadG.at (.tl (.tl (.here rfl))) ?_
    conv=>whnf
    refine .take 9 ?_
    conv=>whnf
    refine ⟨rfl, ?_⟩
    conv=>whnf
    refine .take 10 ?_
    conv=>whnf
    refine ⟨rfl, ?_⟩
    conv=>whnf
    refine .take 11 ?_
    conv=>whnf
    refine ⟨rfl, ?_⟩
    conv=>whnf
    refine LenG.rd hkI ?_
    conv=>whnf
    refine .take 12 ?_
    conv=>whnf
    refine ⟨rfl, ?_⟩
    conv=>whnf
    refine ArithG.i64' ((ks2.length - 1 : Nat) : Int) (by omega) (by omega) ?_
    conv=>whnf
    refine .take 13 ?_
    conv=>whnf
    refine ⟨rfl, ?_⟩
    conv=>whnf
    refine IdxG.rd hkI (by omega) fun b' o' hc => ?_
    conv=>whnf
    refine .take 14 ?_
    conv=>whnf
    refine ⟨rfl, ?_⟩
    conv=>whnf
    refine LoadG.at (hc.one (u := .string lst) (by rw [Int.toNat_natCast, Nat.mul_one]; exact svs_get hlast)) ?_
    conv=>whnf
    refine .all ?_
    conv=>whnf
    refine ⟨by decide, ?_⟩
    conv=>whnf
    refine DoesG.look strT mapT zeroB trivial (MapG.right (MapG.left (.tl (.tl (.tl .here))) F) _) false ?_
    rw [if_neg (by decide), getM_kv, hy]
    conv=>whnf
    refine .all ?_
    conv=>whnf
    refine ⟨by decide, ?_⟩
    conv=>whnf
    have hyr := hsI yv (bvs ybs) hy1
    rw [bvs_len] at hyr
    refine CallG.pure (dsum_spec _ K (.right (.right hK _) _) hk yv ybs (.right (.left hyr F) _) (by omega) hy4) ?_
    rintro _ _ ⟨rfl, rfl⟩
    conv=>whnf
    refine .all ?_
    conv=>whnf
    refine ⟨by decide, ?_⟩
    conv=>whnf
    refine CallG.of (pre := [cel c.q 124 [c.top, .int .i64 c.len]]) (rest := []) (mput_spec hk _ (.right (.right hK _) _) ((hbI.left F).right _) c.q c.top c.len c.tree hw.node hw.tree (dig K (strN key)) (dig K ybs) hd hdy) (Ent.refl _) ?_
    rintro _ _ ⟨Ns, top', len', rfl, hN⟩
    conv=>whnf
    refine ⟨rfl, ?_⟩
    conv=>whnf
    obtain ⟨c', hc'⟩ : ∃ z, z = c.next (dig K (strN key)) V' S' kv' ks2 (putT (dig K (strN key)) (dig K ybs) 256 c.tree) top' len' Ns := ⟨_, rfl⟩
    have hT := (putT_wf hd hdy 256 0 c.tree rfl hw.tree (along_zero _ _)).1
    have hwf : c'.wf K (n + 1) := by
     rw [hc']
     exact next_wf hw hS hsh hsort2 hlen2 hV hVk hsame hmem hN hT
    refine ⟨c'.pieces 89 124 144 t, ?_, c', ⟨fun h => by rw [hc']; exact hput h, fun h => by rw [hc']; exact hdel h, hwf, ?_⟩, rfl⟩
    ·have eo : c'.ofs = putO c.ofs (dig K (strN key)) kv' ks2 := by rw [hc']; simp [TabD.next, hne2]
     have ev : c'.vals = V' := by rw [hc']; rfl
     have eq' : c'.q = c.q ∧ c'.vb = c.vb ∧ c'.ob = c.ob ∧ c'.Bs = Ns ++ c.Bs ∧ c'.S = S' ∧ c'.top = top' ∧ c'.len = len' := by rw [hc']; exact ⟨rfl, rfl, rfl, rfl, rfl, rfl, rfl⟩
     obtain ⟨q1, q2, q3, q4, q5, q6, q7⟩ := eq'
     unfold TabD.pieces
     rw [eo, ev, q1, q2, q3, q4, q5, q6, q7, rcs_app]
     rw [List.append_nil]
     exact lay_fin
    ·have e : (c'.at (dig K (strN key))).2 = ks2 := by rw [hc']; exact next_at
     have e2 : c'.vals = V' := by rw [hc']; rfl
     have e3 : c'.lastD K (dig K (strN key)) = dig K ybs := by
      unfold TabD.lastD
      rw [e, hlst, e2]
      show dig K (((getK V' lst).map (·.2)).getD []) = _
      rw [hy]
      rfl
     rw [e3, hc']
     rfl
  ·have hb' : b = false := hnb
   subst hb'
   have hnin : key ∉ ks := fun h => by have := (hbs.mem hk2).2 h; cases this
   have hno : getK c.vals key = none := by
    cases h : getK c.vals key with
    | none => rfl
    | some y => exact absurd (hthere.2 (by rw [h]; rfl)) hnin
   obtain ⟨ks2, eks2⟩ : ∃ z, z = ks := ⟨_, rfl⟩
   obtain ⟨kv', ekv'⟩ : ∃ z, z = kv := ⟨_, rfl⟩
   obtain ⟨V', hV'⟩ : ∃ z, z = c.vals := ⟨_, rfl⟩
   obtain ⟨S', hS'⟩ : ∃ z, z = c.S := ⟨_, rfl⟩
   have hmem : ∀ k, k ∈ ks2 ↔ dig K (strN k) = dig K (strN key) ∧ (getK V' k).isSome = true := fun k => by rw [eks2, hV']; exact hkiff k
   have hkv' : SlV kv' ks2.length := by rw [ekv', eks2]; have h := hk1.sl; rw [svs_len] at h; exact h
   have hS : ∀ p ∈ c.S, p ∈ S' := fun p hp => by rw [hS']; exact hp
   have hsh : ShIn S' kv' (svs ks2) := by rw [ekv', eks2]; exact hk1.mono hS
   have hV : ∀ p ∈ V', ShIn S' p.2.1 (bvs p.2.2) ∧ p.2.2.length ≤ 4096 ∧ p.2.2 ≠ [] ∧ ∀ b ∈ p.2.2, b < 256 := fun p hp => by
    rw [hV'] at hp
    obtain ⟨g1, g2, g3, g4⟩ := hw.vals p hp
    exact ⟨g1.mono hS, g2, g3, g4⟩
   have hVk : ∀ p ∈ V', 0 < p.1.size ∧ p.1.size ≤ 128 := fun p hp => by
    rw [hV'] at hp
    exact hw.keys p hp
   have hsame : ∀ k, k ≠ key → getK V' k = getK c.vals k := fun k hne => by rw [hV']
   have hput : ([] : List Nat) ≠ [] → ∃ x, V' = putK c.vals key x [] := fun h => absurd rfl h
   have hdel : ([] : List Nat) = [] → V' = delK c.vals key := fun _ => by rw [hV', delK_none hno]
   have hlen2 : ks2.length ≤ n + 1 := by rw [eks2]; omega
   have hsort2 : Sorted ks2 := by rw [eks2]; exact hk2
   conv=>whnf
   rw [← ekv']
   refine LenG.sl hkv' ?_
   conv=>whnf
   refine CondG.dec (fun hz => ?_) (fun hz => ?_)
   ·have hz2 : ks2 = [] := List.eq_nil_of_length_eq_zero (by omega)
    refine DrawG.mk 6 (cel b6 46 (bvs (dig K (strN key))) :: cel t 89 [.map (some c.vb), .pointer (some ⟨c.q, 0, none⟩), .map (some c.ob)] :: mapS c.vb (kvM V') :: cel c.q 124 [c.top, .int .i64 c.len] :: (rcs 144 c.Bs ++ shs S')) [mapP digV digOk c.ob (ofM c.ofs)] ?_ ?_
    ·rw [hS', hV']
     exact Ent.front 3 rfl
    conv=>whnf
    refine .take 0 ?_
    conv=>whnf
    refine ⟨rfl, ?_⟩
    conv=>whnf
    refine .take 1 ?_
    conv=>whnf
    refine ⟨rfl, ?_⟩
    conv=>whnf
    refine .take 2 ?_
    conv=>whnf
    refine ⟨rfl, ?_⟩
    conv=>whnf
    refine .take 3 ?_
    conv=>whnf
    refine ⟨rfl, ?_⟩
    conv=>whnf
    refine LoadG.at (.tl (.here rfl)) ?_
    conv=>whnf
    refine .take 4 ?_
    conv=>whnf
    refine ⟨rfl, ?_⟩
    conv=>whnf
    refine LoadNG.at (vs := bvs (dig K (strN key))) (by rw [bvs_len, ld]) .all ?_
    conv=>whnf
    refine .all ?_
    conv=>whnf
    refine ⟨by decide, ?_⟩
    conv=>whnf
    refine DoesG.delM digT ofT ld ?_
    rw [delM_of c.ofs (dig K (strN key))]
    conv=>whnf
    refine ⟨rfl, ?_⟩
    conv=>whnf
    refine DrawG.mk 7 (mapP digV digOk c.ob (ofM (delO c.ofs (dig K (strN key)))) :: cel b6 46 (bvs (dig K (strN key))) :: cel t 89 [.map (some c.vb), .pointer (some ⟨c.q, 0, none⟩), .map (some c.ob)] :: mapS c.vb (kvM V') :: (rcs 144 c.Bs ++ shs S')) [cel c.q 124 [c.top, .int .i64 c.len]] (Ent.front 4 rfl) ?_
    have hbI : BsG (mapP digV digOk c.ob (ofM (delO c.ofs (dig K (strN key)))) :: cel b6 46 (bvs (dig K (strN key))) :: cel t 89 [.map (some c.vb), .pointer (some ⟨c.q, 0, none⟩), .map (some c.ob)] :: mapS c.vb (kvM V') :: (rcs 144 c.Bs ++ shs S')) c.Bs := ((((BsG.here (T := 144) (L := shs S')).tl).tl).tl).tl
    conv=>whnf
    refine .take 0 ?_
    conv=>whnf
    refine ⟨rfl, ?_⟩
    conv=>whnf
    refine .take 1 ?_
    conv=>whnf
    refine ⟨rfl, ?_⟩
    conv=>whnf
    refine .take 2 ?_
    conv=>whnf
    refine ⟨rfl, ?_⟩
    conv=>whnf
    refine .take 3 ?_
    conv=>whnf
    refine ⟨rfl, ?_⟩
    conv=>whnf
    refine LoadG.at (.tl (.tl (.here rfl))) ?_
    conv=>whnf
    refine .take 4 ?_
    conv=>whnf
    refine ⟨rfl, ?_⟩
    conv=>whnf
    refine LoadNG.at (vs := bvs (dig K (strN key))) (by rw [bvs_len, ld]) (.tl .all) ?_
    conv=>whnf
    refine .take 5 ?_
    conv=>whnf
    refine ⟨rfl, ?_⟩
    conv=>whnf
    refine BuildG.of (cs := bvs zd) rfl ?_
    conv=>whnf
    refine .all ?_
    conv=>whnf
    refine ⟨by decide, ?_⟩
    conv=>whnf
    refine CallG.of (pre := [cel c.q 124 [c.top, .int .i64 c.len]]) (rest := []) (mput_spec hk _ (.right (.right hK _) _) ((hbI.left F).right _) c.q c.top c.len c.tree hw.node hw.tree (dig K (strN key)) zd hd IsD.zd) (Ent.refl _) ?_
    rintro _ _ ⟨Ns, top', len', rfl, hN⟩
    conv=>whnf
    refine ⟨rfl, ?_⟩
    conv=>whnf
    obtain ⟨c', hc'⟩ : ∃ z, z = c.next (dig K (strN key)) V' S' kv' ks2 (putT (dig K (strN key)) zd 256 c.tree) top' len' Ns := ⟨_, rfl⟩
    have hT := (putT_wf hd IsD.zd 256 0 c.tree rfl hw.tree (along_zero _ _)).1
    have hwf : c'.wf K (n + 1) := by
     rw [hc']
     exact next_wf hw hS hsh hsort2 hlen2 hV hVk hsame hmem hN hT
    refine ⟨c'.pieces 89 124 144 t, ?_, c', ⟨fun h => by rw [hc']; exact hput h, fun h => by rw [hc']; exact hdel h, hwf, ?_⟩, rfl⟩
    ·have eo : c'.ofs = delO c.ofs (dig K (strN key)) := by rw [hc']; simp [TabD.next, hz2]
     have ev : c'.vals = V' := by rw [hc']; rfl
     have eq' : c'.q = c.q ∧ c'.vb = c.vb ∧ c'.ob = c.ob ∧ c'.Bs = Ns ++ c.Bs ∧ c'.S = S' ∧ c'.top = top' ∧ c'.len = len' := by rw [hc']; exact ⟨rfl, rfl, rfl, rfl, rfl, rfl, rfl⟩
     obtain ⟨q1, q2, q3, q4, q5, q6, q7⟩ := eq'
     unfold TabD.pieces
     rw [eo, ev, q1, q2, q3, q4, q5, q6, q7, rcs_app]
     rw [List.append_nil]
     exact lay_fin
    ·have e : (c'.at (dig K (strN key))).2 = ks2 := by rw [hc']; exact next_at
     have e3 : c'.lastD K (dig K (strN key)) = zd := by
      unfold TabD.lastD
      rw [e, hz2]
      rfl
     rw [e3, hc']
     rfl
   ·have hne2 : ks2 ≠ [] := fun h => hz (by rw [h]; rfl)
    refine DrawG.mk 6 (cel b6 46 (bvs (dig K (strN key))) :: TabD.pieces 89 124 144 t { c with vals := V', S := S' }) [] ?_ ?_
    ·rw [hS', hV']
     exact Ent.refl _
    conv=>whnf
    refine .take 0 ?_
    conv=>whnf
    refine ⟨rfl, ?_⟩
    conv=>whnf
    refine .take 1 ?_
    conv=>whnf
    refine ⟨rfl, ?_⟩
    conv=>whnf
    refine .take 2 ?_
    conv=>whnf
    refine ⟨rfl, ?_⟩
    conv=>whnf
    refine .take 3 ?_
    conv=>whnf
    refine ⟨rfl, ?_⟩
    conv=>whnf
    refine LoadG.at (.tl (.here rfl)) ?_
    conv=>whnf
    refine .take 4 ?_
    conv=>whnf
    refine ⟨rfl, ?_⟩
    conv=>whnf
    refine LoadNG.at (vs := bvs (dig K (strN key))) (by rw [bvs_len, ld]) .all ?_
    conv=>whnf
    refine .take 5 ?_
    conv=>whnf
    refine ⟨rfl, ?_⟩
    conv=>whnf
    refine .all ?_
    conv=>whnf
    refine ⟨by decide, ?_⟩
    conv=>whnf
    refine ⟨rfl, ?_⟩
    conv=>whnf
    refine DoesG.ent (Ent.front 3 rfl) ?_
    refine DoesG.upd digT ofT ld ?_
    rw [putM_of c.ofs (dig K (strN key)) kv' ks2]
    conv=>whnf
    refine ⟨rfl, ?_⟩
    conv=>whnf
    have hlp : 0 < ks2.length := List.length_pos_iff.2 hne2
    obtain ⟨lst, hlst⟩ : ∃ l, ks2.getLast? = some l := ⟨ks2.getLast hne2, List.getLast?_eq_some_getLast hne2⟩
    have hlast : ks2[ks2.length - 1]? = some lst := by rw [← List.getLast?_eq_getElem?]; exact hlst
    obtain ⟨yv, ybs, hy⟩ : ∃ yv ybs, getK V' lst = some (yv, ybs) := by
     have h := ((hmem lst).1 (List.mem_of_getElem? hlast)).2
     cases hg : getK V' lst with
     | none => rw [hg] at h; cases h
     | some y => exact ⟨y.1, y.2, rfl⟩
    obtain ⟨hy1, hy2, hy3, hy4⟩ := hV _ (getK_mem hy)
    have hdy := IsD.dig K ybs
    have hy2' : ybs.length ≤ 4096 := hy2
    refine DrawG.mk 18 (mapP digV digOk c.ob (ofM (putO c.ofs (dig K (strN key)) kv' ks2)) :: cel b6 46 (bvs (dig K (strN key))) :: cel t 89 [.map (some c.vb), .pointer (some ⟨c.q, 0, none⟩), .map (some c.ob)] :: mapS c.vb (kvM V') :: (rcs 144 c.Bs ++ shs S')) [cel c.q 124 [c.top, .int .i64 c.len]] (Ent.front 4 rfl) ?_
    have hsI : ShG (mapP digV digOk c.ob (ofM (putO c.ofs (dig K (strN key)) kv' ks2)) :: cel b6 46 (bvs (dig K (strN key))) :: cel t 89 [.map (some c.vb), .pointer (some ⟨c.q, 0, none⟩), .map (some c.ob)] :: mapS c.vb (kvM V') :: (rcs 144 c.Bs ++ shs S')) S' := fun v cs h => by
     have h2 := (ShG.here (S := S') (L := [])) v cs h
     rw [List.append_nil] at h2
     exact .tl (.tl (.tl (.tl (h2.right _))))
    have hbI : BsG (mapP digV digOk c.ob (ofM (putO c.ofs (dig K (strN key)) kv' ks2)) :: cel b6 46 (bvs (dig K (strN key))) :: cel t 89 [.map (some c.vb), .pointer (some ⟨c.q, 0, none⟩), .map (some c.ob)] :: mapS c.vb (kvM V') :: (rcs 144 c.Bs ++ shs S')) c.Bs := ((((BsG.here (T := 144) (L := shs S')).tl).tl).tl).tl
    have hkI := hsI kv' (svs ks2) hsh
    rw [svs_len] at hkI
    conv=>whnf
    refine .take 0 ?_
    conv=>whnf
    refine ⟨rfl, ?_⟩
    conv=>whnf
    refine .take 1 ?_
    conv=>whnf
    refine ⟨rfl, ?_⟩
    conv=>whnf
    refine .take 2 ?_
    conv=>whnf
    refine ⟨rfl, ?_⟩
    conv=>whnf
    refine .take 3 ?_
    conv=>whnf
    refine ⟨rfl, ?_⟩
    conv=>whnf
    refine LoadG.at (.tl (.tl (.here rfl))) ?_
    conv=>whnf
    refine .take 4 ?_
    conv=>whnf
    refine ⟨rfl, ?_⟩
    conv=>whnf
    refine LoadNG.at (vs := bvs (dig K (strN key))) (by rw [bvs_len, ld]) (.tl .all) ?_
    conv=>whnf
    refine .take 5 ?_
    conv=>whnf
    refine ⟨rfl, ?_⟩
    conv=>whnf
    refine .take 6 ?_
    conv=>whnf
    refine ⟨rfl, ?_⟩
    conv=>whnf
    refine .take 7 ?_
    conv=>whnf
    refine ⟨rfl, ?_⟩
    conv=>whnf
    refine .take 8 ?_
    conv=>whnf
    refine ⟨rfl, ?_⟩
    conv=>whnf
    refine LoadG.at (.tl (.tl (.here rfl))) ?_
    conv=>whnf
    refine .take 9 ?_
    conv=>whnf
    refine ⟨rfl, ?_⟩
    conv=>whnf
    refine .take 10 ?_
    conv=>whnf
    refine ⟨rfl, ?_⟩
    conv=>whnf
    refine .take 11 ?_
    conv=>whnf
    refine ⟨rfl, ?_⟩
    conv=>whnf
    refine LenG.rd hkI ?_
    conv=>whnf
    refine .take 12 ?_
    conv=>whnf
    refine ⟨rfl, ?_⟩
    conv=>whnf
    refine ArithG.i64' ((ks2.length - 1 : Nat) : Int) (by omega) (by omega) ?_
    conv=>whnf
    refine .take 13 ?_
    conv=>whnf
    refine ⟨rfl, ?_⟩
    conv=>whnf
    refine IdxG.rd hkI (by omega) fun b' o' hc => ?_
    conv=>whnf
    refine .take 14 ?_
    conv=>whnf
    refine ⟨rfl, ?_⟩
    conv=>whnf
    refine LoadG.at (hc.one (u := .string lst) (by rw [Int.toNat_natCast, Nat.mul_one]; exact svs_get hlast)) ?_
    conv=>whnf
    refine .all ?_
    conv=>whnf
    refine ⟨by decide, ?_⟩
    conv=>whnf
    refine DoesG.look strT mapT zeroB trivial (MapG.right (MapG.left (.tl (.tl (.tl .here))) F) _) false ?_
    rw [if_neg (by decide), getM_kv, hy]
    conv=>whnf
    refine .all ?_
    conv=>whnf
    refine ⟨by decide, ?_⟩
    conv=>whnf
    have hyr := hsI yv (bvs ybs) hy1
    rw [bvs_len] at hyr
    refine CallG.pure (dsum_spec _ K (.right (.right hK _) _) hk yv ybs (.right (.left hyr F) _) (by omega) hy4) ?_
    rintro _ _ ⟨rfl, rfl⟩
    conv=>whnf
    refine .all ?_
    conv=>whnf
    refine ⟨by decide, ?_⟩
    conv=>whnf
    refine CallG.of (pre := [cel c.q 124 [c.top, .int .i64 c.len]]) (rest := []) (mput_spec hk _ (.right (.right hK _) _) ((hbI.left F).right _) c.q c.top c.len c.tree hw.node hw.tree (dig K (strN key)) (dig K ybs) hd hdy) (Ent.refl _) ?_
    rintro _ _ ⟨Ns, top', len', rfl, hN⟩
    conv=>whnf
    refine ⟨rfl, ?_⟩
    conv=>whnf
    obtain ⟨c', hc'⟩ : ∃ z, z = c.next (dig K (strN key)) V' S' kv' ks2 (putT (dig K (strN key)) (dig K ybs) 256 c.tree) top' len' Ns := ⟨_, rfl⟩
    have hT := (putT_wf hd hdy 256 0 c.tree rfl hw.tree (along_zero _ _)).1
    have hwf : c'.wf K (n + 1) := by
     rw [hc']
     exact next_wf hw hS hsh hsort2 hlen2 hV hVk hsame hmem hN hT
    refine ⟨c'.pieces 89 124 144 t, ?_, c', ⟨fun h => by rw [hc']; exact hput h, fun h => by rw [hc']; exact hdel h, hwf, ?_⟩, rfl⟩
    ·have eo : c'.ofs = putO c.ofs (dig K (strN key)) kv' ks2 := by rw [hc']; simp [TabD.next, hne2]
     have ev : c'.vals = V' := by rw [hc']; rfl
     have eq' : c'.q = c.q ∧ c'.vb = c.vb ∧ c'.ob = c.ob ∧ c'.Bs = Ns ++ c.Bs ∧ c'.S = S' ∧ c'.top = top' ∧ c'.len = len' := by rw [hc']; exact ⟨rfl, rfl, rfl, rfl, rfl, rfl, rfl⟩
     obtain ⟨q1, q2, q3, q4, q5, q6, q7⟩ := eq'
     unfold TabD.pieces
     rw [eo, ev, q1, q2, q3, q4, q5, q6, q7, rcs_app]
     rw [List.append_nil]
     exact lay_fin
    ·have e : (c'.at (dig K (strN key))).2 = ks2 := by rw [hc']; exact next_at
     have e2 : c'.vals = V' := by rw [hc']; rfl
     have e3 : c'.lastD K (dig K (strN key)) = dig K ybs := by
      unfold TabD.lastD
      rw [e, hlst, e2]
      show dig K (((getK V' lst).map (·.2)).getD []) = _
      rw [hy]
      rfl
     rw [e3, hc']
     rfl
theorem tput_spec (F : List HP) (hK : CelN F 0 0 (wvs K)) (t : Nat) (c : TabD) (n : Nat) (hw : c.wf K n) (hn : n ≤ 8796093022206) (key : ByteArray) (v : Value) (bs : List Nat) (hv : RdS F v bs.length (bvs bs)) (hb : ∀ b ∈ bs, b < 256) :
 SpecF Tryd.prog 12 [.pointer (some ⟨t, 0, none⟩), .string key, v] F (c.pieces 89 124 144 t) (fun r L => r = .int .i64 (mayI key bs.length) ∧ ((mayI key bs.length ≠ 0 ∧ L = c.pieces 89 124 144 t) ∨ (mayI key bs.length = 0 ∧ ∃ c', LayOk K n c key bs c' ∧ L = c'.pieces 89 124 144 t))) := by
 refine fun12.spec rfl ?_
 conv=>whnf
 refine CallG.pure (smay_spec_r _ key v bs.length hv.len) ?_
 rintro _ _ ⟨rfl, rfl⟩
 conv=>whnf
 refine CondG.ndec (fun hne => ?_) (fun heq => ?_)
 ·conv=>whnf
  exact ret_here ⟨rfl, .inl ⟨hne, rfl⟩⟩
 conv=>whnf
 have hl := mayI_len heq
 have hks : 0 < key.size ∧ key.size ≤ 128 := by
  unfold mayI at heq
  split at heq
  ·cases heq
  ·omega
 refine CallG.of (rest := []) (tlay_spec hk _ hK t c n hw hn key v bs hv hl hb hks.1 hks.2) (by rw [List.append_nil]; exact Ent.refl _) ?_
 rintro _ _ ⟨c', hc', rfl⟩
 conv=>whnf
 exact ⟨_, by rw [List.append_nil]; exact Ent.refl _, by rw [heq]; rfl, .inr ⟨heq, c', hc', rfl⟩⟩
omit hk in
theorem tlen_spec (F : List HP) (t vb : Nat) (m : List (ByteArray × Value)) (h0 : Cel F t 0 (.map (some vb))) (hm : MapG Value.string (fun _ => True) F vb m) : SpecF Tryd.prog 23 [.pointer (some ⟨t, 0, none⟩)] F [] (fun r L => r = .int .i64 m.length ∧ L = []) := by
 refine fun23.spec rfl ?_
 conv=>whnf
 refine LoadG.atF h0 ?_
 conv=>whnf
 refine DoesG.lenM mapT (MapG.right hm _) ?_
 conv=>whnf
 exact ret_here ⟨rfl, rfl⟩
end
def tab0 (vb q ob : Nat) : TabD := ⟨vb, q, ob, [], [], .nil, .pointer none, 0, [], []⟩
theorem tab0_wf (K : List W32) (vb q ob n : Nat) : (tab0 vb q ob).wf K n :=
 { vals := fun p h => absurd h (List.not_mem_nil)
   ofs := fun p h => absurd h (List.not_mem_nil)
   back := fun k h => by cases h
   node := .nil
   tree := trivial
   keys := fun p h => absurd h (List.not_mem_nil) }
theorem tab_srcD {K : List W32} {n : Nat} (F : List HP) (t : Nat) (c : TabD) (hw : c.wf K n) : SrcG Tryd.prog (c.pieces 89 124 144 t ++ F) (.iface 25 (.pointer (some ⟨t, 0, none⟩))) (tabFind c.vals) :=
 tab_src _ t c.vb c.vals (.left (.here rfl) F) (MapG.left (.tl .here) F) fun p hp => by
  obtain ⟨h1, h2, _, _⟩ := hw.vals p hp
  refine ⟨by have h := h1.sl; rw [bvs_len] at h; exact h, h2, ?_⟩
  have h := (TabD.shG (TT := 89) (ST := 124) (NT := 144) (t := t) p.2.1 (bvs p.2.2) h1).left F
  rw [bvs_len] at h
  exact h
theorem tab_srcOk {K : List W32} {n : Nat} {c : TabD} (hw : c.wf K n) : SrcOk (tabFind c.vals) := by
 refine ⟨fun k hk => ?_, tabFind_len fun p hp => (hw.vals p hp).2.1⟩
 unfold tabFind
 rw [if_neg (by rw [hk]; decide)]
end Go.Proofs.YtjkldhalmglkpaaDoor
namespace Go.Proofs.YtjkldhalmglkpaaDoor
open Go Go.Sl
theorem may7_spec (F : List HP) (key : ByteArray) (v : Value) (n : Nat) (hv : ∃ a c, v = .slice a n c) : SpecF Tryd.prog 13 [.string key, v] F [] (fun r L => r = .int .i64 (mayI key n) ∧ L = []) := by
 obtain ⟨va, vc, rfl⟩ := hv
 refine fun13.spec rfl ?_
 conv=>whnf
 refine CondG.dec (fun h1 => ?_) (fun h1 => ?_)
 ·(conv=>whnf);refine .tt ?_;(conv=>whnf);refine .tt ?_;(conv=>whnf);refine .tt ?_;(conv=>whnf);refine .tt ?_;(conv=>whnf)
  refine ret_here ⟨congrArg (Value.int .i64) ?_, rfl⟩
  unfold mayI
  rw [if_pos (.inl (by omega))]
 (conv=>whnf);refine .ff ?_;(conv=>whnf);refine .ff ?_;(conv=>whnf);refine .ff ?_;(conv=>whnf)
 refine CondG.dec (fun h2 => ?_) (fun h2 => ?_)
 ·conv=>whnf
  refine ret_here ⟨congrArg (Value.int .i64) ?_, rfl⟩
  unfold mayI
  rw [if_pos (.inr (by omega))]
 conv=>whnf
 refine LenG.lit ?_
 conv=>whnf
 refine CondG.dec (fun h3 => ?_) (fun h3 => ?_)
 ·conv=>whnf
  refine ret_here ⟨congrArg (Value.int .i64) ?_, rfl⟩
  unfold mayI
  rw [if_neg (by omega), if_pos (by omega)]
 conv=>whnf
 refine ret_here ⟨congrArg (Value.int .i64) ?_, rfl⟩
 unfold mayI
 rw [if_neg (by omega), if_neg (by omega)]
def keyA : ByteArray := ⟨#[97]⟩
section
variable {K : List W32} (hk : K.length = 64)
include hk
theorem awake_spec (F : List HP) (hK : CelN F 0 0 (wvs K)) : SpecF Tryd.prog 8 [] F [] (fun r L => r = .bool true ∧ L = []) := by
 refine fun8.spec rfl ?_
 conv=>whnf
 refine CallG.pure (newTable_spec _) ?_
 rintro _ _ ⟨t, rfl, vb, q, ob, rfl⟩
 (conv=>whnf);refine .ff ?_;(conv=>whnf)
 refine BuildG.of (cs := bvs [1, 2]) rfl ?_
 conv=>whnf
 intro b12
 conv=>whnf
 refine CallG.of (pre := (tab0 vb q ob).pieces 89 124 144 t) (rest := [cel b12 5 (bvs [1, 2])]) (tput_spec hk _ (.right hK _) t (tab0 vb q ob) 0 (tab0_wf K vb q ob 0) (by decide) keyA _ [1, 2] (.mk _ _ _ _ _ (Nat.le_refl _) (.left .all F)) (by simp)) (by
  exact Ent.perm (List.perm_append_comm (l₁ := [cel b12 5 (bvs [1, 2])]) (l₂ := (tab0 vb q ob).pieces 89 124 144 t))) ?_
 rintro _ _ ⟨rfl, h | ⟨_, c, hc, rfl⟩⟩
 ·exact absurd rfl h.1
 obtain ⟨x, hv⟩ := hc.put (by simp)
 have hv' : c.vals = [(keyA, x, [1, 2])] := hv
 conv=>whnf
 refine CallG.pure (tlen_spec _ t c.vb (kvM c.vals) (.left (.left (.here rfl) _) F) (MapG.left (MapG.left (.tl .here) _) F)) ?_
 rintro _ _ ⟨rfl, rfl⟩
 conv=>whnf
 refine CallG.pure (over_spec _ _ _) ?_
 rintro _ _ ⟨s, rfl, hb, nb, rfl⟩
 (conv=>whnf);refine .ff ?_;(conv=>whnf)
 have hf : tabFind c.vals keyA = ([1, 2], 0) := by rw [hv']; rfl
 obtain ⟨s0, hs0⟩ : ∃ z, z = StC.mk [] [] [] [] hb nb (.slice none 0 0) (.slice none 0 0) := ⟨_, rfl⟩
 have hw0 : s0.wf := by
  rw [hs0]
  exact ⟨fun p h => absurd h (List.not_mem_nil), fun p h => absurd h (List.not_mem_nil), fun p h => absurd h (List.not_mem_nil)⟩
 have hlv : lv (tabFind c.vals) s0 keyA = [1, 2] := by
  rw [hs0]
  show (tabFind c.vals keyA).1 = _
  rw [hf]
 have hwc := hc.wf
 rw [← hs0]
 refine CallG.of (pre := s0.pieces 95 s _) (rest := c.pieces 89 124 144 t ++ [cel b12 5 (bvs [1, 2])]) (get_spec _ s _ s0 keyA (tabFind c.vals) (by rw [List.append_assoc]; exact tab_srcD _ t c hwc) (fun k => by have := (tab_srcOk hwc).len k; omega) hw0) (Ent.refl _) ?_
 rintro _ _ (⟨h, _⟩ | ⟨_, h, _⟩ | ⟨_, _, c', y, hc', hy, rfl, rfl⟩)
 ·exact absurd rfl h
 ·exact absurd ((tab_srcOk hwc).ask rfl) h
 have ht := hc'.tells hw0
 rw [hlv] at ht
 rw [ht] at hy ⊢
 conv=>whnf
 refine CondG.decT rfl ?_
 (conv=>whnf);refine .tt ?_;(conv=>whnf);refine .tt ?_;(conv=>whnf)
 refine CondG.decT (by rw [hv']; rfl) ?_
 (conv=>whnf);refine .tt ?_;(conv=>whnf);refine .tt ?_;(conv=>whnf)
 refine CondG.decT rfl ?_
 (conv=>whnf);refine .tt ?_;(conv=>whnf);refine .tt ?_;(conv=>whnf)
 refine CondG.decT rfl ?_
 (conv=>whnf);refine .tt ?_;(conv=>whnf)
 refine DoesG.toStr (e := 5) (bs := [1, 2]) (n := 2) (by kernel_rfl) (by kernel_rfl) (by kernel_rfl) ((own_rd hy rfl).left _) rfl ?_
 (conv=>whnf);refine .tt ?_;(conv=>whnf);refine .tt ?_;(conv=>whnf)
 exact ⟨[], Ent.nil _, rfl, rfl⟩
omit hk in
end
end Go.Proofs.YtjkldhalmglkpaaDoor
