import Derived.Test.YtmfonkklmndhjaaGreatDoorVa
import Derived.Test.YtmfonkklmndhjaaGreatDoorRk
namespace Go.Proofs.YtmfonkklmndhjaaGreatDoor
open Go Go.Sl
theorem digOk9 {d : List Nat} (h : Dg9 d) : DigOk d := ⟨h.len, h.byte⟩
theorem rones_spec (F : List HP) (n : Nat) (h : n ≤ 1099511627776) : SpecF Tryz.prog 92 [.int .i64 n] F [] (fun v L => v = .int .i64 (ones n) ∧ L = []) := by
 have h41 := ones_lt h
 refine fun92.spec rfl ?_
 conv=>whnf
 refine LoopG.mk (fun mm e L => ∃ x a, mm = x ∧ x ≤ 1099511627776 ∧ a + ones x = ones n ∧ e = [(0, .int .i64 (x : Nat)), (3, .int .i64 (a : Nat))] ∧ L = []) n
  [(0, .int .i64 (n : Nat)), (3, .int .i64 0)] _ ⟨rfl, rfl, trivial⟩ (Ent.refl _) ⟨n, 0, rfl, h, by omega, rfl, rfl⟩ ?_
 rintro mm e L ⟨x, a, rfl, hx, ha, rfl, rfl⟩
 conv=>whnf
 refine CondG.dec (fun h1 => ?_) (fun h1 => ?_)
 ·have h2 := ones_step mm
  conv=>whnf
  refine SideG.of (by decide) ?_
  rw [show ((mm : Nat) : Int).tmod 2 = ((mm % 2 : Nat) : Int) from rfl]
  conv=>whnf
  refine ArithG.i64 (by omega) ?_
  conv=>whnf
  refine SideG.of (by decide) ?_
  refine ArithG.i64' ((mm / 2 : Nat) : Int) rfl (by omega) ?_
  conv=>whnf
  exact ⟨mm / 2, [(0, .int .i64 ((mm / 2 : Nat) : Int)), (3, .int .i64 ((a + mm % 2 : Nat) : Int))], _, by omega, ⟨rfl, rfl, trivial⟩, Ent.refl _, mm / 2, a + mm % 2, rfl, by omega, by omega, rfl, rfl⟩
 ·obtain rfl : mm = 0 := by omega
  rw [ones_zero] at ha
  obtain rfl : a = ones n := by omega
  conv=>whnf
  exact ret_here ⟨rfl, rfl⟩
theorem digs_whole {zs : List Value} {fs : List (List Nat)} (hd : (digsC fs).length = fs.length * 32) (hz : zs.length = fs.length * 32) : zs.take 0 ++ (digsC fs).take (min fs.length fs.length * 32) ++ zs.drop (0 + min fs.length fs.length * 32) = digsC fs := by
 rw [Nat.min_self, List.take_zero, List.nil_append, Nat.zero_add, ← hd, List.take_length, List.drop_of_length_le (by omega), List.append_nil]
theorem rresume_spec (F : List HP) (n : Nat) (hn : n < 72057594037927936) (v : Value) (fs : List (List Nat)) (hf : ∀ d ∈ fs, Dg9 d) (hv : RdS F v fs.length (digsC fs)) :
 SpecF Tryz.prog 72 [.int .i64 n, v] F [] (fun r L => (1099511627776 < n ∧ r = .tuple #[.agg ⟨[.int .i64 0, .slice none 0 0]⟩, .int .i64 40] ∧ L = []) ∨ (n ≤ 1099511627776 ∧ fs.length ≠ ones n ∧ r = .tuple #[.agg ⟨[.int .i64 0, .slice none 0 0]⟩, .int .i64 42] ∧ L = []) ∨
  (n ≤ 1099511627776 ∧ fs.length = ones n ∧ ∃ fv, SlV fv fs.length ∧ r = .tuple #[.agg ⟨[.int .i64 n, fv]⟩, .int .i64 0] ∧ L = [own 32 fv fs.length (digsC fs)])) := by
 have hpl := digs_len9 hf
 refine fun72.spec rfl ?_
 conv=>whnf
 intro b4
 conv=>whnf
 refine CondG.dec (fun h1 => ?_) (fun h1 => ?_)
 ·omega
 (conv=>whnf);refine .ff ?_;(conv=>whnf);refine .ff ?_;(conv=>whnf)
 refine CondG.dec (fun h2 => ?_) (fun h2 => ?_)
 ·conv=>whnf
  refine BuildG.of rfl ?_
  conv=>whnf
  refine StoreG.at rfl (Upd.whole rfl (by simp [Value.oneCell'])) ?_
  conv=>whnf
  refine LoadNG.at (vs := [.int .i64 0, .slice none 0 0]) rfl .all ?_
  conv=>whnf
  exact ⟨[], Ent.nil _, .inl ⟨by omega, rfl, rfl⟩⟩
 have h3 := ones_lt (n := n) (by omega)
 conv=>whnf
 refine LenG.rd hv ?_
 conv=>whnf
 refine CallG.pure (rones_spec _ n (by omega)) ?_
 rintro _ _ ⟨rfl, rfl⟩
 conv=>whnf
 refine CondG.ndec (fun h4 => ?_) (fun h4 => ?_)
 ·conv=>whnf
  refine BuildG.of rfl ?_
  conv=>whnf
  refine StoreG.at rfl (Upd.whole rfl (by simp [Value.oneCell'])) ?_
  conv=>whnf
  refine LoadNG.at (vs := [.int .i64 0, .slice none 0 0]) rfl .all ?_
  conv=>whnf
  exact ⟨[], Ent.nil _, .inr (.inl ⟨by omega, by omega, rfl, rfl⟩)⟩
 conv=>whnf
 refine LenG.rd hv ?_
 conv=>whnf
 refine DoesG.makeG (n := fs.length) digsT .i64 .i64 (by omega) (by simp only [maxLen]; omega) fun b zs hzs => ?_
 conv=>whnf
 refine DoesG.copyG (n := fs.length) (cs := digsC fs) (elem := 81) (by kernel_rfl) (sz := 32) (by kernel_rfl) (.tl (.right hv _)) hpl (by rw [Nat.min_self]; omega) (digs_one9 _) ?_
 rw [digs_whole hpl hzs]
 conv=>whnf
 refine BuildG.of (cs := [.int .i64 n, .slice (some ⟨b, 0, none⟩) fs.length fs.length]) rfl ?_
 conv=>whnf
 refine StoreG.at rfl (.tl (Upd.whole rfl (by simp [Value.oneCell']))) ?_
 conv=>whnf
 refine LoadNG.at (vs := [.int .i64 n, .slice (some ⟨b, 0, none⟩) fs.length fs.length]) rfl (.tl .all) ?_
 conv=>whnf
 exact ⟨_, (own_of_cel (n := fs.length) hpl (by simp only [maxLen]; omega)).trans (Ent.sel (T := []) (A := [_, _]) [0] rfl), .inr (.inr ⟨by omega, by omega, _, .inr ⟨b, _, rfl, Nat.le_refl _⟩, rfl, rfl⟩)⟩
section
variable (K : List W32) (hk : K.length = 64)
include hk
theorem rlroot_spec (F : List HP) (hC' : CelN F 3 0 (wvs K)) (hB : CelN F 2 0 (wvs ivW)) (n : Int) (v : Value) (fs : List (List Nat)) (hf : ∀ d ∈ fs, Dg9 d) (hl : fs.length ≤ 64) (hv : RdS F v fs.length (digsC fs)) :
 SpecF Tryz.prog 49 [.agg ⟨[.int .i64 n, v]⟩] F [] (fun r L => r = .agg ⟨bvs (rootL K fs)⟩ ∧ L = []) := by
 have hz0 : (bvs (dig K [])).length = 32 := by rw [bvs_len, dig_len]
 refine fun49.spec rfl ?_
 conv=>whnf
 intro b1
 conv=>whnf
 intro b2
 conv=>whnf
 refine LoadG.at (v := v) (.tl (.here rfl)) ?_
 conv=>whnf
 refine LenG.rd hv ?_
 conv=>whnf
 refine CondG.dec (fun h1 => ?_) (fun h1 => ?_)
 ·have e : rootL K fs = dig K [] := if_pos (by omega)
  rw [e]
  conv=>whnf
  refine CallG.pure (rsum_spec _ K (.right hC' _) (.right hB _) hk _ [] .nil (by simp) (by simp)) ?_
  rintro _ _ ⟨rfl, rfl⟩
  conv=>whnf
  refine StoreG.at hz0 (Upd.whole (by rw [hz0]; rfl) (bvs_one _)) ?_
  conv=>whnf
  refine LoadNG.at (vs := bvs (dig K [])) hz0 .all ?_
  conv=>whnf
  exact ⟨[], Ent.nil _, rfl, rfl⟩
 have h0 : fs.length ≠ 0 := by omega
 have e : rootL K fs = rootN K fs (fs.length - 1) := if_neg h0
 have hN : ∀ i, (bvs (rootN K fs i)).length = 32 := fun i => by rw [bvs_len, (rootN_ok K hf h0 i).len]
 conv=>whnf
 refine LoadG.at (v := v) (.tl (.here rfl)) ?_
 conv=>whnf
 refine LoadG.at (v := v) (.tl (.here rfl)) ?_
 conv=>whnf
 refine LenG.rd hv ?_
 conv=>whnf
 refine ArithG.i64' ((fs.length - 1 : Nat) : Int) (by omega) (by omega) ?_
 conv=>whnf
 refine IdxG.rd hv (by omega) fun c o hc => ?_
 conv=>whnf
 refine LoadNG.atF (vs := bvs (rootN K fs 0)) (hN 0) (hc.part (digs_at hf (by omega))) ?_
 conv=>whnf
 intro b3
 conv=>whnf
 refine StoreG.at (hN 0) (Upd.whole (by rw [hN 0]; rfl) (bvs_one _)) ?_
 conv=>whnf
 refine LoadG.at (v := v) (.tl (.tl (.here rfl))) ?_
 conv=>whnf
 refine LenG.rd hv ?_
 conv=>whnf
 refine ArithG.i64 (by omega) ?_
 conv=>whnf
 refine LoopG.mk (fun mm e L => ∃ i, i + 1 ≤ fs.length ∧ mm = fs.length - 1 - i ∧ e = [(1, .pointer (some ⟨b1, 0, none⟩)), (2, .pointer (some ⟨b2, 0, none⟩)), (3, .pointer (some ⟨b3, 0, none⟩)), (4, .int .i64 ((fs.length : Int) - 2 - (i : Nat)))] ∧
  L = [cel b3 81 (bvs (rootN K fs i)), cel b2 81 (bvs (List.replicate 32 0)), cel b1 111 [.int .i64 n, v]]) (fs.length - 1)
  [(1, .pointer (some ⟨b1, 0, none⟩)), (2, .pointer (some ⟨b2, 0, none⟩)), (3, .pointer (some ⟨b3, 0, none⟩)), (4, .int .i64 ((fs.length : Int) - 2))] _ ⟨rfl, rfl, rfl, rfl, trivial⟩ (Ent.refl _) ⟨0, by omega, rfl, by rw [show ((fs.length : Int) - 2 - ((0 : Nat) : Int)) = (fs.length : Int) - 2 by omega], rfl⟩ ?_
 rintro mm e' L ⟨i, hi, rfl, rfl, rfl⟩
 conv=>whnf
 refine CondG.dec (fun h2 => ?_) (fun h2 => ?_)
 ·have hD := getD_ok hf (i := fs.length - 2 - i) (by omega)
  have hzl : (bvs (fs.getD (fs.length - 2 - i) [])).length = 32 := by rw [bvs_len, hD.len]
  have hM := rootN_ok K hf h0 i
  conv=>whnf
  refine DrawG.mk 7 [cel b3 81 (bvs (rootN K fs i)), cel b2 81 (bvs (List.replicate 32 0)), cel b1 111 [.int .i64 n, v]] [] (Ent.refl _) ?_
  conv=>whnf
  refine .take 0 ?_
  conv=>whnf
  refine ⟨rfl, ?_⟩
  conv=>whnf
  refine .take 1 ?_
  conv=>whnf
  refine ⟨rfl, ?_⟩
  conv=>whnf
  refine LoadG.at (v := v) (.tl (.tl (.here rfl))) ?_
  conv=>whnf
  refine .take 2 ?_
  conv=>whnf
  refine ⟨rfl, ?_⟩
  conv=>whnf
  refine .take 3 ?_
  conv=>whnf
  refine ⟨rfl, ?_⟩
  conv=>whnf
  refine IdxG.rd hv (by omega) fun c o hc => ?_
  conv=>whnf
  refine .take 4 ?_
  conv=>whnf
  refine ⟨rfl, ?_⟩
  conv=>whnf
  refine LoadNG.atF (vs := bvs (fs.getD (fs.length - 2 - i) [])) hzl (hc.part (by
   rw [show (((fs.length : Nat) : Int) - 2 - (i : Nat)).toNat = fs.length - 2 - i by omega]
   exact digs_at hf (by omega))) ?_
  conv=>whnf
  refine .take 5 ?_
  conv=>whnf
  refine ⟨rfl, ?_⟩
  conv=>whnf
  refine LoadNG.at (vs := bvs (rootN K fs i)) (hN i) .all ?_
  conv=>whnf
  refine .all ?_
  conv=>whnf
  refine ⟨by decide, ?_⟩
  conv=>whnf
  refine CallG.pure (rnodeT_spec K hk _ (.right (.right hC' _) _) (.right (.right hB _) _) _ _ (digOk9 hD) (digOk9 hM)) ?_
  rintro _ _ ⟨rfl, rfl⟩
  conv=>whnf
  refine .all ?_
  conv=>whnf
  refine ⟨by decide, ?_⟩
  conv=>whnf
  refine ⟨rfl, ?_⟩
  conv=>whnf
  refine StoreG.at (hN (i + 1)) (Upd.whole ((hN (i + 1)).trans (hN i).symm) (bvs_one _)) ?_
  conv=>whnf
  refine ⟨rfl, ?_⟩
  conv=>whnf
  refine ArithG.i64 (by omega) ?_
  conv=>whnf
  exact ⟨fs.length - 1 - (i + 1), [(1, .pointer (some ⟨b1, 0, none⟩)), (2, .pointer (some ⟨b2, 0, none⟩)), (3, .pointer (some ⟨b3, 0, none⟩)), (4, .int .i64 ((fs.length : Int) - 2 - ((i + 1 : Nat) : Int)))], _, by omega, ⟨rfl, rfl, rfl, congrArg (fun z => some (Value.int .i64 z)) (by omega), trivial⟩, Ent.refl _, i + 1, by omega, rfl, rfl, rfl⟩
 ·obtain rfl : i = fs.length - 1 := by omega
  conv=>whnf
  refine LoadNG.at (vs := bvs (rootN K fs (fs.length - 1))) (hN _) .all ?_
  conv=>whnf
  refine StoreG.at (hN _) (.tl (Upd.whole (by rw [hN]; rfl) (bvs_one _))) ?_
  conv=>whnf
  refine LoadNG.at (vs := bvs (rootN K fs (fs.length - 1))) (hN _) (.tl .all) ?_
  conv=>whnf
  rw [e]
  exact ⟨[], Ent.nil _, rfl, rfl⟩
theorem rladd_spec (F : List HP) (hC' : CelN F 3 0 (wvs K)) (hB : CelN F 2 0 (wvs ivW)) (fv : Value) (l : LogD) (hl : l.ok) (hn : l.n < 1099511627776) (hfv : RdS F fv l.fs.length (digsC l.fs)) (v : Value) (bs : List Nat) (hv : RdS F v bs.length (bvs bs)) (hb : bs.length ≤ 4096) (hb' : ∀ b ∈ bs, b < 256) :
 SpecF Tryz.prog 44 [.agg ⟨[.int .i64 l.n, fv]⟩, v] F [] (fun r L => ∃ fv', SlV fv' (addL9 K l bs).fs.length ∧ r = .tuple #[.agg ⟨[.int .i64 (addL9 K l bs).n, fv']⟩, .int .i64 l.n] ∧ L = [own 32 fv' (addL9 K l bs).fs.length (digsC (addL9 K l bs).fs)]) := by
 have ht := trail_le l.n
 have hlen := hl.len
 have h41 := ones_lt hl.le
 have hpl := digs_len9 hl.fs
 have hz : (bvs (leafT K bs)).length = 32 := by rw [bvs_len]; exact dig_len _ _
 refine fun44.spec rfl ?_
 conv=>whnf
 intro b2
 conv=>whnf
 intro b4
 conv=>whnf
 refine LoadG.at (v := .int .i64 l.n) (.tl (.here rfl)) ?_
 conv=>whnf
 refine CondG.decF (by omega) ?_
 conv=>whnf
 refine LoadG.at (v := fv) (.tl (.here rfl)) ?_
 conv=>whnf
 refine LenG.rd hfv ?_
 conv=>whnf
 refine DoesG.makeG (n := l.fs.length) digsT .i64 .i64 (by omega) (by simp only [maxLen]; omega) fun b zs hzs => ?_
 conv=>whnf
 refine LoadG.at (v := fv) (.tl (.tl (.here rfl))) ?_
 conv=>whnf
 refine DoesG.copyG (n := l.fs.length) (cs := digsC l.fs) (elem := 81) (by kernel_rfl) (sz := 32) (by kernel_rfl) (.tl (.right hfv _)) hpl (by rw [Nat.min_self]; omega) (digs_one9 _) ?_
 rw [digs_whole hpl hzs]
 conv=>whnf
 refine CallG.pure (rleafT_spec K hk _ (.right hC' _) (.right hB _) v bs (.right hv _) hb hb') ?_
 rintro _ _ ⟨rfl, rfl⟩
 conv=>whnf
 intro b7
 conv=>whnf
 refine StoreG.at hz (Upd.whole (by rw [hz]; rfl) (bvs_one _)) ?_
 conv=>whnf
 refine LoadG.at (v := .int .i64 l.n) (.tl (.tl (.tl (.here rfl)))) ?_
 conv=>whnf
 refine LoopG.mk (fun mm e L => ∃ i x fv', i + trail x = trail l.n ∧ x ≤ 1099511627776 ∧ mm = trail x ∧ e = [(2, .pointer (some ⟨b2, 0, none⟩)), (4, .pointer (some ⟨b4, 0, none⟩)), (6, fv'), (7, .pointer (some ⟨b7, 0, none⟩)), (8, .int .i64 (x : Nat))] ∧ SlV fv' (l.fs.length - i) ∧
  L = [cel b7 81 (bvs (mergeN K i (l.fs, leafT K bs)).2), own 32 fv' (l.fs.length - i) (digsC (mergeN K i (l.fs, leafT K bs)).1), cel b4 111 [.int .i64 0, .slice none 0 0], cel b2 111 [.int .i64 l.n, fv]]) (trail l.n)
  [(2, .pointer (some ⟨b2, 0, none⟩)), (4, .pointer (some ⟨b4, 0, none⟩)), (6, .slice (some ⟨b, 0, none⟩) l.fs.length l.fs.length), (7, .pointer (some ⟨b7, 0, none⟩)), (8, .int .i64 (l.n : Nat))] _ ⟨rfl, rfl, rfl, rfl, rfl, trivial⟩
  (Ent.cons _ (own_of_cel (n := l.fs.length) hpl (by simp only [maxLen]; omega))) ⟨0, l.n, _, by omega, by omega, rfl, rfl, .inr ⟨b, _, rfl, Nat.le_refl _⟩, rfl⟩ ?_
 rintro mm e L ⟨i, y, fv', hi, hy, rfl, rfl, hfv', rfl⟩
 have hm := mergeN_ok K (x := (l.fs, leafT K bs)) hl.fs ⟨dig_len _ _, dig_byte _ _⟩ i
 have hml : (mergeN K i (l.fs, leafT K bs)).1.length = l.fs.length - i := mergeN_len K i _
 have hs1 : mergeN K (i + 1) (l.fs, leafT K bs) = oneM K (mergeN K i (l.fs, leafT K bs)) := rfl
 have hdl := digs_len9 hm.1
 rw [hml] at hdl
 generalize hx : mergeN K i (l.fs, leafT K bs) = x at hm hml hs1 hdl ⊢
 obtain ⟨hm1, hm2⟩ := hm
 have hz2 : (bvs x.2).length = 32 := by rw [bvs_len, hm2.len]
 conv=>whnf
 refine SideG.of (by decide) ?_
 rw [show ((y : Nat) : Int).tmod 2 = ((y % 2 : Nat) : Int) from rfl]
 conv=>whnf
 refine CondG.dec (fun h1 => ?_) (fun h1 => ?_)
 ·have h2 := trail_odd (n := y) (by omega)
  have hrd : RdS [cel b7 81 (bvs x.2), own 32 fv' (l.fs.length - i) (digsC x.1), cel b4 111 [.int .i64 0, .slice none 0 0], cel b2 111 [.int .i64 l.n, fv]] fv' (l.fs.length - i) (digsC x.1) := .tl (own_rd hfv' hdl)
  conv=>whnf
  refine DrawG.mk 8 [cel b7 81 (bvs x.2), own 32 fv' (l.fs.length - i) (digsC x.1), cel b4 111 [.int .i64 0, .slice none 0 0], cel b2 111 [.int .i64 l.n, fv]] [] (Ent.refl _) ?_
  conv=>whnf
  refine .take 0 ?_
  conv=>whnf
  refine ⟨rfl, ?_⟩
  conv=>whnf
  refine .take 1 ?_
  conv=>whnf
  refine ⟨rfl, ?_⟩
  conv=>whnf
  refine .take 2 ?_
  conv=>whnf
  refine ⟨rfl, ?_⟩
  conv=>whnf
  refine LenG.sl hfv' ?_
  conv=>whnf
  refine .take 3 ?_
  conv=>whnf
  refine ⟨rfl, ?_⟩
  conv=>whnf
  refine ArithG.i64 (by omega) ?_
  conv=>whnf
  refine .take 4 ?_
  conv=>whnf
  refine ⟨rfl, ?_⟩
  conv=>whnf
  refine IdxG.rd hrd (by omega) fun c o hc => ?_
  have hlast : x.1.getLastD [] = x.1[x.1.length - 1]'(by omega) := by
   rw [List.getLastD_eq_getLast?, List.getLast?_eq_getElem?, List.getElem?_eq_getElem (by omega)]
   rfl
  have hlD : Dg9 (x.1.getLastD []) := by rw [hlast]; exact hm1 _ (List.getElem_mem _)
  have hzl : (bvs (x.1.getLastD [])).length = 32 := by rw [bvs_len, hlD.len]
  conv=>whnf
  refine .take 5 ?_
  conv=>whnf
  refine ⟨rfl, ?_⟩
  conv=>whnf
  refine LoadNG.at (vs := bvs (x.1.getLastD [])) hzl (hc.part (by
   rw [hzl, show (((l.fs.length - i : Nat) : Int) - 1).toNat = x.1.length - 1 by omega, hlast]
   exact @flat_get (List Nat) bvs 32 x.1 (fun d hd => by rw [bvs_len, (hm1 d hd).len]) (x.1.length - 1) (by omega))) ?_
  conv=>whnf
  refine .take 6 ?_
  conv=>whnf
  refine ⟨rfl, ?_⟩
  conv=>whnf
  refine LoadNG.at (vs := bvs x.2) hz2 .all ?_
  conv=>whnf
  refine .all ?_
  conv=>whnf
  refine ⟨by decide, ?_⟩
  conv=>whnf
  refine CallG.pure (rnodeT_spec K hk _ (.right (.right hC' _) _) (.right (.right hB _) _) _ _ (digOk9 hlD) (digOk9 hm2)) ?_
  rintro _ _ ⟨rfl, rfl⟩
  have hz3 : (bvs (nodeD K (x.1.getLastD []) x.2)).length = 32 := by rw [bvs_len]; exact dig_len _ _
  conv=>whnf
  refine .all ?_
  conv=>whnf
  refine ⟨by decide, ?_⟩
  conv=>whnf
  refine ⟨rfl, ?_⟩
  conv=>whnf
  refine StoreG.at hz3 (Upd.whole (by rw [hz3, hz2]) (bvs_one _)) ?_
  conv=>whnf
  refine ⟨rfl, ?_⟩
  conv=>whnf
  refine LenG.sl hfv' ?_
  conv=>whnf
  refine ArithG.i64 (by omega) ?_
  conv=>whnf
  refine SlcG.sl hfv' fun a cap hva hcap => ?_
  subst hva
  conv=>whnf
  refine SideG.of (by omega) ?_
  conv=>whnf
  refine SliceG.zero ?_
  conv=>whnf
  refine SideG.of (by decide) ?_
  refine ArithG.i64' ((y / 2 : Nat) : Int) rfl (by omega) ?_
  conv=>whnf
  have e3 : (((l.fs.length - i : Nat) : Int) - 1).toNat = l.fs.length - (i + 1) := by omega
  refine ⟨trail (y / 2), [(2, .pointer (some ⟨b2, 0, none⟩)), (4, .pointer (some ⟨b4, 0, none⟩)), (6, .slice a (l.fs.length - (i + 1)) cap), (7, .pointer (some ⟨b7, 0, none⟩)), (8, .int .i64 ((y / 2 : Nat) : Int))], _, by omega, ⟨rfl, rfl, congrArg (fun z => some (Value.slice a z cap)) e3, rfl, rfl, trivial⟩, ?_, i + 1, y / 2, .slice a (l.fs.length - (i + 1)) cap, by omega, by omega, rfl, rfl, ?_, rfl⟩
  ·have e2 : digsC (oneM K x).1 = (digsC x.1).take ((l.fs.length - (i + 1)) * 32) := digs_drop hm1 (by omega)
   rw [hs1, e2]
   exact Ent.cons _ (own_take (by omega))
  ·rcases hfv' with ⟨h, _⟩ | ⟨g, cp, h, _⟩
   ·exact absurd h (by simp; omega)
   ·simp only [Value.slice.injEq] at h
    obtain ⟨rfl, _, rfl⟩ := h
    exact .inr ⟨_, _, rfl, by omega⟩
 ·have h2 := trail_even (n := y) (by omega)
  obtain rfl : i = trail l.n := by omega
  conv=>whnf
  refine LoadNG.at (vs := bvs x.2) hz2 .all ?_
  conv=>whnf
  refine BuildG.of (cs := bvs x.2) (by simp [fillL, Value.cells, bvs_len, hm2.len]) ?_
  conv=>whnf
  intro b45
  conv=>whnf
  refine DoesG.ent (Ent.sel (T := []) (A := [_, _, _, _, _]) [2, 0, 3, 4] rfl) ?_
  refine app_own digsT 109 (m := 1) (ys := bvs x.2) (.mk _ _ _ _ _ (by decide) (.tl (.left .all _))) hz2 (bvs_one _) (by simp only [maxLen]; omega) (by omega) fun r' hr' _ _ => ?_
  obtain ⟨ra, rc, rfl⟩ := hr'.len
  conv=>whnf
  refine DrawG.mk 8 [cel b2 111 [.int .i64 l.n, fv]] [cel b4 111 [.int .i64 0, .slice none 0 0], own 32 (.slice ra (l.fs.length - trail l.n + 1) rc) (l.fs.length - trail l.n + 1) (digsC x.1 ++ bvs x.2)] (Ent.sel (T := []) (A := [_, _, _, _]) [2, 0, 3] rfl) ?_
  conv=>whnf
  refine .take 0 ?_
  conv=>whnf
  refine ⟨rfl, ?_⟩
  conv=>whnf
  refine .take 1 ?_
  conv=>whnf
  refine ⟨rfl, ?_⟩
  conv=>whnf
  refine LoadG.at (v := .int .i64 l.n) (.here rfl) ?_
  conv=>whnf
  refine .take 2 ?_
  conv=>whnf
  refine ⟨rfl, ?_⟩
  conv=>whnf
  refine ArithG.i64' ((l.n + 1 : Nat) : Int) (by omega) (by omega) ?_
  conv=>whnf
  refine .take 3 ?_
  conv=>whnf
  refine ⟨rfl, ?_⟩
  conv=>whnf
  refine .take 4 ?_
  conv=>whnf
  refine ⟨rfl, ?_⟩
  conv=>whnf
  refine BuildG.of (cs := [.int .i64 ((l.n + 1 : Nat) : Int), .slice ra (l.fs.length - trail l.n + 1) rc]) rfl ?_
  conv=>whnf
  refine .take 5 ?_
  conv=>whnf
  refine ⟨rfl, ?_⟩
  conv=>whnf
  refine .take 6 ?_
  conv=>whnf
  refine ⟨rfl, ?_⟩
  conv=>whnf
  refine LoadG.at (v := .int .i64 l.n) (.here rfl) ?_
  conv=>whnf
  refine .all ?_
  conv=>whnf
  refine ⟨by decide, ?_⟩
  conv=>whnf
  refine StoreG.at rfl (Upd.whole rfl (by simp [Value.oneCell'])) ?_
  conv=>whnf
  refine .all ?_
  conv=>whnf
  refine ⟨by decide, ?_⟩
  conv=>whnf
  refine ⟨rfl, ?_⟩
  conv=>whnf
  refine ⟨rfl, ?_⟩
  conv=>whnf
  refine LoadNG.at (vs := [.int .i64 ((l.n + 1 : Nat) : Int), .slice ra (l.fs.length - trail l.n + 1) rc]) rfl .all ?_
  conv=>whnf
  have ea : addL9 K l bs = ⟨l.n + 1, x.1 ++ [x.2]⟩ := by rw [addL9, hx]
  have el : (x.1 ++ [x.2]).length = l.fs.length - trail l.n + 1 := by rw [List.length_append, List.length_singleton, hml]
  have ed : digsC (x.1 ++ [x.2]) = digsC x.1 ++ bvs x.2 := by simp [digsC]
  rw [ea]
  simp only [el, ed]
  exact ⟨_, Ent.sel (T := []) (A := [_, _, _]) [1] rfl, _, hr', rfl, rfl⟩
end
end Go.Proofs.YtmfonkklmndhjaaGreatDoor
