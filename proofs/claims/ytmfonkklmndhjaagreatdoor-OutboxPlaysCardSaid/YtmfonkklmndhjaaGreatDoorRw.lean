import Derived.Test.YtmfonkklmndhjaaGreatDoorCo
import Derived.Test.YtmfonkklmndhjaaGreatDoorRl
import Derived.Test.YtmfonkklmndhjaaGreatDoorZKc
namespace Go.Proofs.YtmfonkklmndhjaaGreatDoor
open Go Go.Sl
theorem uvs_at' {a : List Nat} {i : Nat} (h : i < a.length) : (uvs a)[i]? = some (.int .u64 (a.getD i 0)) := by
 simp [uvs, uv, h]
theorem bare_spec (F : List HP) (v : Value) (l : List Nat) (hl : l.length ≤ 1099511627776) (hv : RdS F v l.length (bvs l)) : SpecF Tryz.prog 109 [v] F [] (fun r L => RdS F r (strip l).length (bvs (strip l)) ∧ L = []) := by
 refine fun109.spec rfl ?_
 conv=>whnf
 refine LoopG.mk (fun mm e L => ∃ i, i ≤ l.length ∧ mm = l.length - i ∧ (∀ j, j < i → l.getD j 0 = 0) ∧ e = [(0, v), (3, .int .i64 i)] ∧ L = []) l.length
  [(0, v), (3, .int .i64 0)] _ ⟨rfl, rfl, trivial⟩ (Ent.refl _) ⟨0, by omega, rfl, by omega, rfl, rfl⟩ ?_
 rintro mm e L ⟨i, hi, rfl, hz, rfl, rfl⟩
 conv=>whnf
 refine LenG.rd hv ?_
 conv=>whnf
 refine CondG.dec (fun h1 => ?_) (fun h1 => ?_)
 ·have hi' : i < l.length := by omega
  conv=>whnf
  refine IdxG.rd hv (by omega) fun c o hc => ?_
  conv=>whnf
  refine LoadG.atF (v := bv l[i]) (hc.one (i := ((i : Nat) : Int).toNat * 1) (by rw [Int.toNat_natCast, Nat.mul_one]; exact bvs_get hi')) ?_
  conv=>whnf
  refine CondG.ndec (fun h2 => ?_) (fun h2 => ?_)
  ·conv=>whnf
   refine SlcG.rd hv fun a cap hva hcap => ?_
   conv=>whnf
   refine SideG.of (by omega) ?_
   conv=>whnf
   refine SliceG.rd (by rw [← hva]; exact hv) (by omega) (by omega) (by omega) (by omega) fun v1 hv1 _ => ?_
   have hs := strip_at hz hi' (by omega)
   have e1 : ((bvs l).drop (((i : Nat) : Int).toNat * 1)).take ((((l.length : Nat) : Int).toNat - ((i : Nat) : Int).toNat) * 1) = bvs (strip l) := by
    rw [hs, Int.toNat_natCast, Int.toNat_natCast, Nat.mul_one, Nat.mul_one]
    simp only [bvs, ← List.map_drop]
    rw [List.take_of_length_le (by simp)]
   have e2 : ((l.length : Nat) : Int).toNat - ((i : Nat) : Int).toNat = (strip l).length := by
    rw [hs, List.length_drop, Int.toNat_natCast, Int.toNat_natCast]
   rw [e1, e2] at hv1
   conv=>whnf
   exact ret_here ⟨hv1, rfl⟩
  ·conv=>whnf
   refine ArithG.i64 (by omega) ?_
   conv=>whnf
   refine ⟨l.length - (i + 1), _, _, by omega, ?_, Ent.refl _, i + 1, by omega, rfl, fun j hj => ?_, rfl, rfl⟩
   ·exact ⟨rfl, rfl, trivial⟩
   ·rcases Nat.lt_or_ge j i with h | h
    ·exact hz j h
    ·obtain rfl : j = i := by omega
     have : l[j] = 0 := by omega
     simp [List.getD, hi', this]
 ·obtain rfl : i = l.length := by omega
  conv=>whnf
  refine ret_here ⟨?_, rfl⟩
  rw [strip_none hz]
  exact .nil
theorem rnumber_spec (F : List HP) (n : Nat) (hn : n < 9223372036854775808) : SpecF Tryz.prog 96 [.int .i64 n] F [] (fun r L => ∃ k, k = (shortL (be n 8)).length ∧ SlV r k ∧ L = [own 1 r k (bvs (shortL (be n 8)))]) := by
 have h8 : (be n 8).length = 8 := be_len n 8
 refine fun96.spec rfl ?_
 conv=>whnf
 intro b3
 conv=>whnf
 refine LoopG.mk (fun mm e L => ∃ i, i ≤ 8 ∧ mm = i ∧ e = [(3, .pointer (some ⟨b3, 0, none⟩)), (4, .int .i64 (n / 256 ^ (8 - i) : Nat)), (5, .int .i64 ((i : Int) - 1))] ∧ L = [cel b3 154 (bvs (tailN (be n 8) i))]) 8
  [(3, .pointer (some ⟨b3, 0, none⟩)), (4, .int .i64 n), (5, .int .i64 (((8 : Nat) : Int) - 1))] _ ⟨rfl, rfl, rfl, trivial⟩ (Ent.refl _) ⟨8, by omega, rfl, by rw [Nat.sub_self, Nat.pow_zero, Nat.div_one], by
   show [cel b3 154 (bvs (List.replicate 8 0))] = _
   rw [show tailN (be n 8) 8 = List.replicate 8 0 from by have := tailN_all (be n 8); rwa [h8] at this]⟩ ?_
 rintro i e L ⟨i', hi, rfl, rfl, rfl⟩
 conv=>whnf
 refine CondG.dec (fun h1 => ?_) (fun h1 => ?_)
 ·obtain ⟨k, rfl⟩ : ∃ k, i = k + 1 := ⟨i - 1, by omega⟩
  have ek : ((k + 1 : Nat) : Int) - 1 = (k : Int) := by omega
  have hx : n / 256 ^ (8 - (k + 1)) ≤ n := Nat.div_le_self _ _
  generalize hX : n / 256 ^ (8 - (k + 1)) = X at hx
  rw [ek]
  conv=>whnf
  refine SideG.of (by decide) ?_
  conv=>whnf
  have er : (X : Int).tmod 256 = ((X % 256 : Nat) : Int) := by rw [Int.tmod_eq_emod_of_nonneg (by omega)]; omega
  rw [er]
  refine ArithG.u8 (by omega) ?_
  conv=>whnf
  refine SideG.of (by omega) ?_
  conv=>whnf
  have hg := be_at n 8 k (by omega)
  have hget : (be n 8)[k]'(by omega) = X % 256 := by
   have := (List.getElem?_eq_some_iff.1 hg).2
   rw [this, ← hX]
   congr 3
   omega
  refine StoreG.at (cs := [_]) rfl (Upd.here (by rw [bvs_len, tailN_len (by omega), h8]; omega) rfl) ?_
  have es : (bvs (tailN (be n 8) (k + 1))).set (0 + ((k : Nat) : Int).toNat * 1) (.int .u8 ((X % 256 : Nat) : Int)) = bvs (tailN (be n 8) k) := by
   rw [show 0 + ((k : Nat) : Int).toNat * 1 = k by omega, ← hget]
   exact tailN_set (by omega)
  rw [es]
  conv=>whnf
  refine SideG.of (by decide) ?_
  conv=>whnf
  have eq : (X : Int).tdiv 256 = ((X / 256 : Nat) : Int) := by rw [Int.tdiv_eq_ediv_of_nonneg (by omega)]; omega
  rw [eq]
  refine ArithG.i64 (by omega) ?_
  conv=>whnf
  refine ArithG.i64 (by omega) ?_
  conv=>whnf
  have ed : X / 256 = n / 256 ^ (8 - k) := by
   rw [← hX, Nat.div_div_eq_div_mul, ← Nat.pow_succ]
   congr 2
   omega
  refine ⟨k, [(3, .pointer (some ⟨b3, 0, none⟩)), (4, .int .i64 (n / 256 ^ (8 - k) : Nat)), (5, .int .i64 ((k : Int) - 1))], _, by omega, ?_, Ent.refl _, k, by omega, rfl, rfl, rfl⟩
  rw [← ed]
  exact ⟨rfl, rfl, rfl, trivial⟩
 ·obtain rfl : i = 0 := by omega
  rw [tailN_zero]
  conv=>whnf
  refine SideG.of (by decide) ?_
  conv=>whnf
  refine SliceG.zero ?_
  conv=>whnf
  have hrd : RdS ([cel b3 154 (bvs (be n 8))] ++ F) (.slice (some ⟨b3, 0, none⟩) 8 8) (be n 8).length (bvs (be n 8)) := by
   rw [h8]
   exact .mk _ _ _ _ _ (Nat.le_refl _) (.left .all F)
  refine CallG.pure (bare_spec _ _ (be n 8) (by omega) hrd) ?_
  rintro r _ ⟨hr, rfl⟩
  have hsl := strip_len (be n 8)
  conv=>whnf
  refine LenG.rd hr ?_
  conv=>whnf
  refine ArithG.u8 (by omega) ?_
  conv=>whnf
  refine BuildG.of (cs := bvs [(strip (be n 8)).length]) rfl ?_
  conv=>whnf
  intro b9
  conv=>whnf
  refine DoesG.ent (own_of_cel (n := 1) (sz := 1) rfl (by decide)) ?_
  refine app_own bytesT 22 (m := (strip (be n 8)).length) (ys := bvs (strip (be n 8))) (.tl hr) (by rw [bvs_len, Nat.mul_one]) (bvs_one _) (by simp only [maxLen]; omega) (by omega) fun q hq hql _ => ?_
  conv=>whnf
  have el : 1 + (strip (be n 8)).length = (shortL (be n 8)).length := by simp [shortL]; omega
  rw [el] at hq hql ⊢
  exact ⟨_, Ent.sel (T := []) (A := [_, _]) [0] rfl, _, rfl, hq, rfl⟩
theorem plain_spec (F : List HP) (ws : List Nat) (hw : wOk ws) : SpecF Tryz.prog 110 [.agg ⟨uvs ws⟩] F [] (fun r L => ∃ b, r = .slice (some ⟨b, 0, none⟩) 32 32 ∧ L = [cel b 5 (bvs (wideB ws))]) := by
 have h32 := wide_len ws
 have h4 := hw.len
 refine fun110.spec rfl ?_
 conv=>whnf
 intro b1
 conv=>whnf
 refine DoesG.makeC (n := 32) (zv := .int .u8 0) bytesT (by kernel_rfl) rfl .i64 .i64 (by decide) (by decide) fun b3 => ?_
 conv=>whnf
 refine LoopG.mk (fun mm e L => ∃ i, i ≤ 4 ∧ mm = 4 - i ∧ e = [(1, .pointer (some ⟨b1, 0, none⟩)), (3, .slice (some ⟨b3, 0, none⟩) 32 32), (4, .int .i64 i)] ∧ L = [cel b3 5 (bvs (tailN (wideB ws) (32 - 8 * i))), cel b1 43 (uvs ws)]) 4
  [(1, .pointer (some ⟨b1, 0, none⟩)), (3, .slice (some ⟨b3, 0, none⟩) 32 32), (4, .int .i64 0)] _ ⟨rfl, rfl, rfl, trivial⟩ (Ent.refl _) ⟨0, by omega, rfl, rfl, by rw [show 32 - 8 * 0 = (wideB ws).length by rw [h32], tailN_all, h32]; rfl⟩ ?_
 rintro mm e L ⟨i, hi, rfl, rfl, rfl⟩
 conv=>whnf
 refine CondG.dec (fun h1 => ?_) (fun h1 => ?_)
 ·have hi4 : i < 4 := by omega
  have hx := getD_lt hw i
  conv=>whnf
  refine SideG.of (by omega) ?_
  conv=>whnf
  refine LoadG.at (v := .int .u64 (ws.getD i 0)) (.tl (.here (by rw [show 0 + ((i : Nat) : Int).toNat * 1 = i by omega]; exact uvs_at' (by omega)))) ?_
  conv=>whnf
  refine LoopG.mk (fun mm e L => ∃ k, k ≤ 8 ∧ mm = 8 - k ∧ e = [(1, .pointer (some ⟨b1, 0, none⟩)), (3, .slice (some ⟨b3, 0, none⟩) 32 32), (4, .int .i64 i), (5, .int .u64 (ws.getD i 0 / 256 ^ k : Nat)), (6, .int .i64 k)] ∧ L = [cel b3 5 (bvs (tailN (wideB ws) (32 - (8 * i + k)))), cel b1 43 (uvs ws)]) 8
   [(1, .pointer (some ⟨b1, 0, none⟩)), (3, .slice (some ⟨b3, 0, none⟩) 32 32), (4, .int .i64 i), (5, .int .u64 (ws.getD i 0 : Nat)), (6, .int .i64 0)] _ ⟨rfl, rfl, rfl, rfl, rfl, trivial⟩ (Ent.refl _) ⟨0, by omega, rfl, by rw [Nat.pow_zero, Nat.div_one]; rfl, rfl⟩ ?_
  rintro mm e L ⟨k, hk, rfl, rfl, rfl⟩
  have hxx : ws.getD i 0 / 256 ^ k ≤ ws.getD i 0 := Nat.div_le_self _ _
  generalize hX : ws.getD i 0 / 256 ^ k = X at hxx
  have hX64 : X < 18446744073709551616 := Nat.lt_of_le_of_lt hxx hx
  conv=>whnf
  refine CondG.dec (fun h2 => ?_) (fun h2 => ?_)
  ·have hk8 : k < 8 := by omega
   conv=>whnf
   refine ArithG.i64 (by omega) ?_
   conv=>whnf
   refine ArithG.i64 (by omega) ?_
   conv=>whnf
   refine ArithG.i64' ((31 - (8 * i + k) : Nat) : Int) (by omega) (by omega) ?_
   conv=>whnf
   refine SideG.of (by decide) ?_
   conv=>whnf
   have er : (X : Int).tmod 256 = ((X % 256 : Nat) : Int) := by rw [Int.tmod_eq_emod_of_nonneg (by omega)]; omega
   rw [er]
   refine ArithG.u8 (by omega) ?_
   conv=>whnf
   refine ⟨b3, 0, 32, 32, rfl, by omega, ?_⟩
   conv=>whnf
   have hg := wideB_get ws hi4 hk8
   have hget : (wideB ws)[31 - (8 * i + k)]'(by omega) = X % 256 := by
    rw [(List.getElem?_eq_some_iff.1 hg).2, hX]
   refine StoreG.at (cs := [_]) rfl (Upd.here (by rw [bvs_len, tailN_len (by omega), h32]; omega) rfl) ?_
   have es : (bvs (tailN (wideB ws) (32 - (8 * i + k)))).set (0 + ((31 - (8 * i + k) : Nat) : Int).toNat * 1) (.int .u8 ((X % 256 : Nat) : Int)) = bvs (tailN (wideB ws) (32 - (8 * i + (k + 1)))) := by
    rw [show 0 + ((31 - (8 * i + k) : Nat) : Int).toNat * 1 = 31 - (8 * i + k) by omega, ← hget, show 32 - (8 * i + k) = 31 - (8 * i + k) + 1 by omega, show 32 - (8 * i + (k + 1)) = 31 - (8 * i + k) by omega]
    exact tailN_set (by omega)
   rw [es]
   conv=>whnf
   refine SideG.of (by decide) ?_
   conv=>whnf
   have eq : (X : Int).tdiv 256 = ((X / 256 : Nat) : Int) := by rw [Int.tdiv_eq_ediv_of_nonneg (by omega)]; omega
   rw [eq]
   refine ArithG.u64 (by omega) ?_
   conv=>whnf
   refine ArithG.i64 (by omega) ?_
   conv=>whnf
   have ed : X / 256 = ws.getD i 0 / 256 ^ (k + 1) := by rw [← hX, Nat.div_div_eq_div_mul, ← Nat.pow_succ]
   refine ⟨8 - (k + 1), [(1, .pointer (some ⟨b1, 0, none⟩)), (3, .slice (some ⟨b3, 0, none⟩) 32 32), (4, .int .i64 i), (5, .int .u64 (ws.getD i 0 / 256 ^ (k + 1) : Nat)), (6, .int .i64 ((k + 1 : Nat) : Int))], _, by omega, ?_, Ent.refl _, k + 1, by omega, rfl, rfl, rfl⟩
   rw [← ed]
   exact ⟨rfl, rfl, rfl, rfl, rfl, trivial⟩
  ·obtain rfl : k = 8 := by omega
   conv=>whnf
   refine ArithG.i64 (by omega) ?_
   conv=>whnf
   rw [show 32 - (8 * i + 8) = 32 - 8 * (i + 1) by omega]
   refine ⟨4 - (i + 1), _, _, by omega, ?_, Ent.refl _, i + 1, by omega, rfl, rfl, rfl⟩
   exact ⟨rfl, rfl, rfl, trivial⟩
 ·obtain rfl : i = 4 := by omega
  rw [show 32 - 8 * 4 = 0 by omega, tailN_zero]
  conv=>whnf
  exact ⟨_, Ent.sel (T := []) (A := [_, _]) [0] rfl, b3, rfl, rfl⟩
theorem rwide_spec (F : List HP) (ws : List Nat) (hw : wOk ws) : SpecF Tryz.prog 97 [.agg ⟨uvs ws⟩] F [] (fun r L => ∃ k, k = (shortL (wideB ws)).length ∧ SlV r k ∧ L = [own 1 r k (bvs (shortL (wideB ws)))]) := by
 have h32 := wide_len ws
 have h4 : (uvs ws).length = 4 := by rw [uvs_len, hw.len]
 refine fun97.spec rfl ?_
 conv=>whnf
 intro b1
 conv=>whnf
 refine LoadNG.at (vs := uvs ws) h4 .all ?_
 conv=>whnf
 refine CallG.pure (plain_spec _ ws hw) ?_
 rintro _ _ ⟨b3, rfl, rfl⟩
 conv=>whnf
 have hrd : RdS ([cel b3 5 (bvs (wideB ws)), cel b1 43 (uvs ws)] ++ F) (.slice (some ⟨b3, 0, none⟩) 32 32) (wideB ws).length (bvs (wideB ws)) := by
  rw [h32]
  exact .mk _ _ _ _ _ (Nat.le_refl _) (.left .all F)
 refine CallG.pure (bare_spec _ _ (wideB ws) (by omega) hrd) ?_
 rintro r _ ⟨hr, rfl⟩
 have hsl := strip_len (wideB ws)
 conv=>whnf
 refine LenG.rd hr ?_
 conv=>whnf
 refine ArithG.u8 (by omega) ?_
 conv=>whnf
 refine BuildG.of (cs := bvs [(strip (wideB ws)).length]) rfl ?_
 conv=>whnf
 intro b9
 conv=>whnf
 refine DoesG.ent (own_of_cel (n := 1) (sz := 1) rfl (by decide)) ?_
 refine app_own bytesT 22 (m := (strip (wideB ws)).length) (ys := bvs (strip (wideB ws))) (.tl hr) (by rw [bvs_len, Nat.mul_one]) (bvs_one _) (by simp only [maxLen]; omega) (by omega) fun q hq hql _ => ?_
 conv=>whnf
 have el : 1 + (strip (wideB ws)).length = (shortL (wideB ws)).length := by simp [shortL]; omega
 rw [el] at hq hql ⊢
 exact ⟨_, Ent.sel (T := []) (A := [_, _, _]) [0] rfl, _, rfl, hq, rfl⟩
theorem wlay_spec (F : List HP) (p : Nat) (u v : Value) (bs xs : List Nat) (hb : bs.length + xs.length ≤ 4194304) (hv : RdS (own 1 u bs.length (bvs bs) :: cel p 150 [u, .int .i64 0] :: F) v xs.length (bvs xs)) :
 SpecF Tryz.prog 95 [.pointer (some ⟨p, 0, none⟩), v] F [own 1 u bs.length (bvs bs), cel p 150 [u, .int .i64 0]] (fun _ L => ∃ u', SlV u' (bs ++ xs).length ∧ L = [own 1 u' (bs ++ xs).length (bvs (bs ++ xs)), cel p 150 [u', .int .i64 0]]) := by
 refine SpecF.ownV 0 rfl fun hu hul => ?_
 refine fun95.spec rfl ?_
 conv=>whnf
 refine LoadG.at (v := .int .i64 0) (.tl (.here rfl)) ?_
 conv=>whnf
 refine CondG.ff ?_
 conv=>whnf
 refine LoadG.at (v := u) (.tl (.here rfl)) ?_
 conv=>whnf
 refine LenG.sl hu ?_
 conv=>whnf
 refine LenG.rd hv ?_
 conv=>whnf
 refine ArithG.i64 (by omega) ?_
 conv=>whnf
 refine CondG.decF (by omega) ?_
 conv=>whnf
 refine LoadG.at (v := u) (.tl (.here rfl)) ?_
 conv=>whnf
 refine app_own bytesT 22 (m := xs.length) (ys := bvs xs) hv (by rw [bvs_len, Nat.mul_one]) (bvs_one _) (by simp only [maxLen]; omega) (by omega) fun q hq hql _ => ?_
 obtain ⟨qa, qc, rfl⟩ := hq.len
 conv=>whnf
 refine StoreG.at rfl (Upd.tl (Upd.here (by simp) rfl)) ?_
 conv=>whnf
 have el : bs.length + xs.length = (bs ++ xs).length := by simp
 rw [el] at hq ⊢
 rw [bvs_append]
 exact ret_here ⟨_, hq, rfl⟩
theorem wbyte_spec (F : List HP) (p : Nat) (u : Value) (bs : List Nat) (x : Nat) (hb : bs.length ≤ 4194303) :
 SpecF Tryz.prog 75 [.pointer (some ⟨p, 0, none⟩), .int .u8 x] F [own 1 u bs.length (bvs bs), cel p 150 [u, .int .i64 0]] (fun _ L => ∃ u', SlV u' (bs ++ [x]).length ∧ L = [own 1 u' (bs ++ [x]).length (bvs (bs ++ [x])), cel p 150 [u', .int .i64 0]]) := by
 refine fun75.spec rfl ?_
 conv=>whnf
 refine BuildG.of (cs := bvs [x]) rfl ?_
 conv=>whnf
 intro b6
 conv=>whnf
 refine CallG.of (rest := [cel b6 5 (bvs [x])]) (wlay_spec _ p u _ bs [x] (by simp; omega) (.tl (.tl (.mk _ _ _ _ _ (Nat.le_refl _) (.left .all _))))) (Ent.sel (T := []) (A := [_, _, _]) [1, 2, 0] rfl) ?_
 rintro _ _ ⟨u', hu', rfl⟩
 conv=>whnf
 exact ⟨_, Ent.sel (T := []) (A := [_, _, _]) [0, 1] rfl, u', hu', rfl⟩
theorem wnumber_spec (F : List HP) (p : Nat) (u : Value) (bs : List Nat) (n : Nat) (hn : n < 9223372036854775808) (hb : bs.length ≤ 4194000) :
 SpecF Tryz.prog 76 [.pointer (some ⟨p, 0, none⟩), .int .i64 n] F [own 1 u bs.length (bvs bs), cel p 150 [u, .int .i64 0]] (fun _ L => ∃ u', SlV u' (bs ++ shortL (be n 8)).length ∧ L = [own 1 u' (bs ++ shortL (be n 8)).length (bvs (bs ++ shortL (be n 8))), cel p 150 [u', .int .i64 0]]) := by
 have hs := short_len (be n 8)
 rw [be_len] at hs
 refine fun76.spec rfl ?_
 conv=>whnf
 refine LoadG.at (v := .int .i64 0) (.tl (.here rfl)) ?_
 conv=>whnf
 refine CondG.ff ?_
 conv=>whnf
 refine CondG.decF (by omega) ?_
 conv=>whnf
 refine CallG.pure (rnumber_spec _ n hn) ?_
 rintro r _ ⟨_, rfl, hr, rfl⟩
 conv=>whnf
 refine CallG.of (rest := [own 1 r (shortL (be n 8)).length (bvs (shortL (be n 8)))]) (wlay_spec _ p u r bs (shortL (be n 8)) (by omega) (.tl (.tl (.left (own_rd hr (by rw [bvs_len, Nat.mul_one])) _)))) (Ent.sel (T := []) (A := [_, _, _]) [1, 2, 0] rfl) ?_
 rintro _ _ ⟨u', hu', rfl⟩
 conv=>whnf
 exact ⟨_, Ent.sel (T := []) (A := [_, _, _]) [0, 1] rfl, u', hu', rfl⟩
theorem waddress_spec (F : List HP) (p : Nat) (u : Value) (bs : List Nat) (a : List Nat) (ha : a.length = 20) (hb : bs.length ≤ 4194000) :
 SpecF Tryz.prog 77 [.pointer (some ⟨p, 0, none⟩), .agg ⟨bvs a⟩] F [own 1 u bs.length (bvs bs), cel p 150 [u, .int .i64 0]] (fun _ L => ∃ u', SlV u' (bs ++ a).length ∧ L = [own 1 u' (bs ++ a).length (bvs (bs ++ a)), cel p 150 [u', .int .i64 0]]) := by
 refine fun77.spec rfl ?_
 conv=>whnf
 intro b3
 conv=>whnf
 refine SideG.of (by decide) ?_
 conv=>whnf
 refine SliceG.zero ?_
 conv=>whnf
 refine CallG.of (rest := [cel b3 40 (bvs a)]) (wlay_spec _ p u _ bs a (by omega) (by rw [ha]; exact .tl (.tl (.mk _ _ _ _ _ (Nat.le_refl _) (.left .all _))))) (Ent.sel (T := []) (A := [_, _, _]) [1, 2, 0] rfl) ?_
 rintro _ _ ⟨u', hu', rfl⟩
 conv=>whnf
 exact ⟨_, Ent.sel (T := []) (A := [_, _, _]) [0, 1] rfl, u', hu', rfl⟩
theorem wwide_spec (F : List HP) (p : Nat) (u : Value) (bs : List Nat) (ws : List Nat) (hw : wOk ws) (hb : bs.length ≤ 4194000) :
 SpecF Tryz.prog 78 [.pointer (some ⟨p, 0, none⟩), .agg ⟨uvs ws⟩] F [own 1 u bs.length (bvs bs), cel p 150 [u, .int .i64 0]] (fun _ L => ∃ u', SlV u' (bs ++ shortL (wideB ws)).length ∧ L = [own 1 u' (bs ++ shortL (wideB ws)).length (bvs (bs ++ shortL (wideB ws))), cel p 150 [u', .int .i64 0]]) := by
 have hs := short_len (wideB ws)
 rw [wide_len] at hs
 have h4 : (uvs ws).length = 4 := by rw [uvs_len, hw.len]
 refine fun78.spec rfl ?_
 conv=>whnf
 intro b3
 conv=>whnf
 refine LoadNG.at (vs := uvs ws) h4 .all ?_
 conv=>whnf
 refine CallG.pure (rwide_spec _ ws hw) ?_
 rintro r _ ⟨_, rfl, hr, rfl⟩
 conv=>whnf
 refine CallG.of (rest := [own 1 r (shortL (wideB ws)).length (bvs (shortL (wideB ws))), cel b3 43 (uvs ws)]) (wlay_spec _ p u r bs (shortL (wideB ws)) (by omega) (.tl (.tl (.left (own_rd hr (by rw [bvs_len, Nat.mul_one])) _)))) (Ent.sel (T := []) (A := [_, _, _, _]) [2, 3, 0, 1] rfl) ?_
 rintro _ _ ⟨u', hu', rfl⟩
 conv=>whnf
 exact ⟨_, Ent.sel (T := []) (A := [_, _, _, _]) [0, 1] rfl, u', hu', rfl⟩
theorem form_of (F : List HP) (l : LeafD) (hl : l.wf) (hm : l.may) (hw : wOk l.amt) : SpecF Tryz.prog 45 [.agg ⟨l.cells⟩] F [] (fun r L => SlV r l.bytes.length ∧ L = [own 1 r l.bytes.length (bvs l.bytes)]) := by
 obtain ⟨⟨i1, i2⟩, ⟨e1, e2⟩, ⟨t1, t2⟩, _⟩ := hm
 obtain ⟨ni, hni⟩ : ∃ n : Nat, l.idx = n := ⟨l.idx.toNat, (Int.toNat_of_nonneg i1).symm⟩
 obtain ⟨ne, hne⟩ : ∃ n : Nat, l.ent = n := ⟨l.ent.toNat, (Int.toNat_of_nonneg e1).symm⟩
 obtain ⟨nt, hnt⟩ : ∃ n : Nat, l.tok = n := ⟨l.tok.toNat, (Int.toNat_of_nonneg t1).symm⟩
 have s1 := short_len (be ni 8)
 have s2 := short_len (be ne 8)
 have s3 := short_len (be nt 8)
 rw [be_len] at s1 s2 s3
 have hto := hl.to
 have h20 : (bvs l.to).length = 20 := by rw [bvs_len, hto]
 have h4 : (uvs l.amt).length = 4 := by rw [uvs_len, hl.amt]
 have hb : l.bytes = [76] ++ shortL (be ni 8) ++ shortL (be ne 8) ++ shortL (be nt 8) ++ l.to ++ shortL (wideB l.amt) := by
  rw [LeafD.bytes, hni, hne, hnt]
  simp only [Int.toNat_natCast]
 refine fun45.spec rfl ?_
 conv=>whnf
 intro b1
 conv=>whnf
 refine BuildG.of rfl ?_
 conv=>whnf
 intro b5
 conv=>whnf
 refine CallG.of (pre := [own 1 (.slice none 0 0) 0 [], cel b5 150 [.slice none 0 0, .int .i64 0]]) (rest := [cel b1 45 l.cells]) (wbyte_spec _ b5 (.slice none 0 0) [] 76 (by simp)) (fun w G hs => Sat.own_nil hs) ?_
 rintro _ _ ⟨u1, hu1, rfl⟩
 conv=>whnf
 refine LoadG.at (v := .int .i64 l.idx) (.tl (.tl (.here rfl))) ?_
 conv=>whnf
 rw [hni]
 refine CallG.of (rest := [cel b1 45 l.cells]) (wnumber_spec _ b5 u1 ([] ++ [76]) ni (by omega) (by simp)) (Ent.refl _) ?_
 rintro _ _ ⟨u2, hu2, rfl⟩
 conv=>whnf
 refine LoadG.at (v := .int .i64 l.ent) (.tl (.tl (.here rfl))) ?_
 conv=>whnf
 rw [hne]
 refine CallG.of (rest := [cel b1 45 l.cells]) (wnumber_spec _ b5 u2 ([] ++ [76] ++ shortL (be ni 8)) ne (by omega) (by simp only [List.length_append, List.length_cons, List.length_nil]; omega)) (Ent.refl _) ?_
 rintro _ _ ⟨u3, hu3, rfl⟩
 conv=>whnf
 refine LoadG.at (v := .int .i64 l.tok) (.tl (.tl (.here rfl))) ?_
 conv=>whnf
 rw [hnt]
 refine CallG.of (rest := [cel b1 45 l.cells]) (wnumber_spec _ b5 u3 ([] ++ [76] ++ shortL (be ni 8) ++ shortL (be ne 8)) nt (by omega) (by simp only [List.length_append, List.length_cons, List.length_nil]; omega)) (Ent.refl _) ?_
 rintro _ _ ⟨u4, hu4, rfl⟩
 conv=>whnf
 refine LoadNG.at (vs := bvs l.to) h20 (.tl (.tl (.here LeafD.to_at))) ?_
 conv=>whnf
 refine CallG.of (rest := [cel b1 45 l.cells]) (waddress_spec _ b5 u4 ([] ++ [76] ++ shortL (be ni 8) ++ shortL (be ne 8) ++ shortL (be nt 8)) l.to hto (by simp only [List.length_append, List.length_cons, List.length_nil]; omega)) (Ent.refl _) ?_
 rintro _ _ ⟨u5, hu5, rfl⟩
 conv=>whnf
 refine LoadNG.at (vs := uvs l.amt) h4 (.tl (.tl (.here (LeafD.amt_at hl)))) ?_
 conv=>whnf
 refine CallG.of (rest := [cel b1 45 l.cells]) (wwide_spec _ b5 u5 ([] ++ [76] ++ shortL (be ni 8) ++ shortL (be ne 8) ++ shortL (be nt 8) ++ l.to) l.amt hw (by simp only [List.length_append, List.length_cons, List.length_nil]; omega)) (Ent.refl _) ?_
 rintro _ _ ⟨u6, hu6, rfl⟩
 rw [List.nil_append, ← hb] at hu6 ⊢
 conv=>whnf
 refine LoadG.at (v := u6) (.tl (.here rfl)) ?_
 conv=>whnf
 exact ⟨_, Ent.sel (T := []) (A := [_, _, _]) [0] rfl, hu6, rfl⟩
end Go.Proofs.YtmfonkklmndhjaaGreatDoor
