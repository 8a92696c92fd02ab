import Derived.Test.YtjkldhalmglkpaaDoorRc
import Derived.Test.YtjkldhalmglkpaaDoorZWl
import Derived.Test.YtjkldhalmglkpaaDoorZCp
import Derived.Test.YtjkldhalmglkpaaDoorZLv
namespace Go.Proofs.YtjkldhalmglkpaaDoor
open Go Go.Sl
theorem bytesT : ElT Tryd.prog 30 5 1 1 := .of (by kernel_rfl)
theorem clone_spec (F : List HP) (v : Value) (bs : List Nat) (hm : bs.length ≤ 4398046511104) (hv : RdS F v bs.length (bvs bs)) :
 SpecF Tryd.prog 47 [v] F [] (fun r L => SlV r bs.length ∧ L = [own 1 r bs.length (bvs bs)] ∧ (r = .slice none 0 0 ↔ v = .slice none 0 0)) := by
 refine fun47.spec rfl ?_
 conv=>whnf
 refine NilG.rd hv fun b hb => ?_
 conv=>whnf
 refine CondG.split (fun h => ?_) (fun h => ?_)
 ·have e := hb.1 h
  subst e
  have hz : bs = [] := by
   exact List.eq_nil_of_length_eq_zero (hv.nilE rfl).1
  subst hz
  conv=>whnf
  refine ⟨[own 1 (.slice none 0 0) 0 []], fun w G hs => Sat.own_nil hs, ?_⟩
  exact ⟨.inl ⟨rfl, rfl⟩, rfl, by simp [retV]⟩
 ·conv=>whnf
  refine BuildG.of rfl ?_
  conv=>whnf
  intro b1
  conv=>whnf
  refine DoesG.ent (own_of_cel (sz := 1) (n := 0) rfl (by decide)) ?_
  refine app_own bytesT 30 (hv.tl) (by simp [bvs]) (bvs_one _) (by simp only [maxLen]; omega) (by omega) fun r hr hlen hnil => ?_
  conv=>whnf
  refine ret_here ⟨?_, ?_, ?_⟩
  ·simpa [retV] using hr
  ·simp [retV]
  ·have : ¬ v = .slice none 0 0 := fun e => by rw [hb.2 e] at h; cases h
   simp [retV, this, hnil]
structure RdParts (F : List HP) (v : Value) (ps : List (List Nat)) : Prop where
 out : ∃ us : List Value, RdS F v ps.length us ∧ us.length = ps.length ∧ ∀ i (h : i < ps.length), ∃ u, us[i]? = some u ∧ RdS F u (ps[i].length) (bvs ps[i])
theorem RdParts.one {F : List HP} {b : Nat} {t : TypeId} {u : Value} {bs : List Nat} (hu : RdS F u bs.length (bvs bs)) : RdParts (cel b t [u] :: F) (.slice (some ⟨b, 0, none⟩) 1 1) [bs] :=
 ⟨[u], .mk _ _ _ _ _ (Nat.le_refl _) .all, rfl, fun i h => by
  obtain rfl : i = 0 := by simpa using h
  exact ⟨u, rfl, hu.tl⟩⟩
def sumL (ps : List (List Nat)) : Nat := ps.flatten.length
theorem sum_take {ps : List (List Nat)} {i : Nat} (h : i < ps.length) : sumL (ps.take (i + 1)) = sumL (ps.take i) + ps[i].length := by
 simp only [sumL, List.take_succ_eq_append_getElem h, List.flatten_append, List.flatten_cons, List.flatten_nil, List.append_nil, List.length_append]
theorem sum_le (ps : List (List Nat)) (i : Nat) : sumL (ps.take i) ≤ sumL ps := by
 have : ps.flatten = (ps.take i).flatten ++ (ps.drop i).flatten := by rw [← List.flatten_append, List.take_append_drop]
 simp only [sumL, this, List.length_append]; omega
end Go.Proofs.YtjkldhalmglkpaaDoor
namespace Go.Proofs.YtjkldhalmglkpaaDoor
open Go Go.Sl
theorem rot_spec (F : List HP) (x : W32) (k : Int) (s : Nat) (hk : IntKind.u64.wrap ((BitVec.ofInt IntKind.u64.bits (IntKind.u64.wrap k) &&& BitVec.ofInt IntKind.u64.bits (31 : Int)).toNat : Int) = (s : Int)) (hs : s ≤ 32) :
 SpecF Tryd.prog 145 [wv x, .int .i64 k] F [] (fun v L => v = wv (rotl x s) ∧ L = []) := by
 refine fun145.spec rfl ?_
 conv=>whnf
 refine ArithG.all ?_
 conv=>whnf
 rw [hk]
 refine SideG.of (by omega) ?_
 have e1 : min ((s : Int)).toNat 32 = s := by omega
 refine ArithG.w (x <<< s) (by
  show IntKind.u32.wrap ((x.toNat : Int) * 2 ^ (min ((s : Int)).toNat 32)) = _
  rw [e1]; exact w32_shl x s) ?_
 conv=>whnf
 refine ArithG.u64 (by omega) ?_
 conv=>whnf
 refine SideG.of (by omega) ?_
 conv=>whnf
 have e2 : min (32 - (s : Int)).toNat 32 = 32 - s := by omega
 have e3 : (x.toNat : Int).fdiv (2 ^ (min (32 - (s : Int)).toNat IntKind.u32.bits)) = ((x >>> (32 - s)).toNat : Int) := by
  show (x.toNat : Int).fdiv (2 ^ (min (32 - (s : Int)).toNat 32)) = _
  rw [e2]; exact w32_shr x (32 - s)
 rw [e3]
 refine ret_here ⟨?_, rfl⟩
 show Value.int .u32 _ = _
 rw [w32_or]
 rfl
theorem words_spec (F : List HP) (p : List Nat) (hp : p.length = 64) (hq : ∀ b ∈ p, b < 256) : SpecF Tryd.prog 144 [.agg ⟨bvs p⟩] F [] (fun v L => v = .agg ⟨wvs (wl p 64)⟩ ∧ L = []) := by
 have hb : ∀ i, i < 64 → p.getD i 0 < 256 := fun i hi => by
  rw [List.getD_eq_getElem?_getD, List.getElem?_eq_getElem (by omega)]
  exact hq _ (List.getElem_mem _)
 refine fun144.spec rfl ?_
 conv=>whnf
 intro b1
 conv=>whnf
 intro b2
 conv=>whnf
 intro b3
 conv=>whnf
 refine LoopG.mk (fun m e L => ∃ i, i ≤ 16 ∧ m = 16 - i ∧ e = [(1, .pointer (some ⟨b1, 0, none⟩)), (2, .pointer (some ⟨b2, 0, none⟩)), (3, .pointer (some ⟨b3, 0, none⟩)), (8, .int .i64 i)] ∧ L = [cel b3 191 (wvs (padW (wl p i) 64)), cel b2 191 (wvs (padW [] 64)), cel b1 176 (bvs p)]) 16
  [(1, .pointer (some ⟨b1, 0, none⟩)), (2, .pointer (some ⟨b2, 0, none⟩)), (3, .pointer (some ⟨b3, 0, none⟩)), (8, .int .i64 0)] _ ⟨rfl, rfl, rfl, rfl, trivial⟩ (Ent.refl _) ⟨0, by omega, rfl, rfl, rfl⟩ ?_
 rintro m e L ⟨i, hi, rfl, rfl, rfl⟩
 conv=>whnf
 refine CondG.dec (fun h => ?_) (fun h => ?_)
 ·have hi16 : i < 16 := by omega
  conv=>whnf
  refine DrawG.mk 32 [cel b1 176 (bvs p)] [cel b3 191 (wvs (padW (wl p i) 64)), cel b2 191 (wvs (padW [] 64))] (Ent.refl _) ?_
  conv=>whnf
  refine .take 0 ?_
  conv=>whnf
  refine ⟨rfl, ?_⟩
  conv=>whnf
  refine .take 1 ?_
  conv=>whnf
  refine ⟨rfl, ?_⟩
  conv=>whnf
  refine .take 2 ?_
  conv=>whnf
  refine ⟨rfl, ?_⟩
  conv=>whnf
  refine ArithG.i64 (by omega) ?_
  conv=>whnf
  refine .take 3 ?_
  conv=>whnf
  refine ⟨rfl, ?_⟩
  conv=>whnf
  refine SideG.of (by omega) ?_
  conv=>whnf
  refine .take 4 ?_
  conv=>whnf
  refine ⟨rfl, ?_⟩
  conv=>whnf
  refine LoadG.at (v := bv (p.getD (4 * i) 0)) (.here (by rw [show 0 + (4 * (i : Int)).toNat * 1 = 4 * i by omega]; exact rd_byte (by omega))) ?_
  conv=>whnf
  refine .take 5 ?_
  conv=>whnf
  refine ⟨rfl, ?_⟩
  conv=>whnf
  refine ArithG.cv (hb _ (by omega)) ?_
  conv=>whnf
  refine .take 6 ?_
  conv=>whnf
  refine ⟨rfl, ?_⟩
  conv=>whnf
  refine SideG.of (by decide) ?_
  conv=>whnf
  refine ArithG.shl _ 24 (by decide) ?_
  conv=>whnf
  refine .take 7 ?_
  conv=>whnf
  refine ⟨rfl, ?_⟩
  conv=>whnf
  refine .take 8 ?_
  conv=>whnf
  refine ⟨rfl, ?_⟩
  conv=>whnf
  refine ArithG.i64 (by omega) ?_
  conv=>whnf
  refine .take 9 ?_
  conv=>whnf
  refine ⟨rfl, ?_⟩
  conv=>whnf
  refine ArithG.i64 (by omega) ?_
  conv=>whnf
  refine .take 10 ?_
  conv=>whnf
  refine ⟨rfl, ?_⟩
  conv=>whnf
  refine SideG.of (by omega) ?_
  conv=>whnf
  refine .take 11 ?_
  conv=>whnf
  refine ⟨rfl, ?_⟩
  conv=>whnf
  refine LoadG.at (v := bv (p.getD (4 * i + 1) 0)) (.here (by rw [show 0 + (4 * (i : Int) + 1).toNat * 1 = 4 * i + 1 by omega]; exact rd_byte (by omega))) ?_
  conv=>whnf
  refine .take 12 ?_
  conv=>whnf
  refine ⟨rfl, ?_⟩
  conv=>whnf
  refine ArithG.cv (hb _ (by omega)) ?_
  conv=>whnf
  refine .take 13 ?_
  conv=>whnf
  refine ⟨rfl, ?_⟩
  conv=>whnf
  refine SideG.of (by decide) ?_
  conv=>whnf
  refine ArithG.shl _ 16 (by decide) ?_
  conv=>whnf
  refine .take 14 ?_
  conv=>whnf
  refine ⟨rfl, ?_⟩
  conv=>whnf
  refine .take 15 ?_
  conv=>whnf
  refine ⟨rfl, ?_⟩
  conv=>whnf
  refine .take 16 ?_
  conv=>whnf
  refine ⟨rfl, ?_⟩
  conv=>whnf
  refine ArithG.i64 (by omega) ?_
  conv=>whnf
  refine .take 17 ?_
  conv=>whnf
  refine ⟨rfl, ?_⟩
  conv=>whnf
  refine ArithG.i64 (by omega) ?_
  conv=>whnf
  refine .take 18 ?_
  conv=>whnf
  refine ⟨rfl, ?_⟩
  conv=>whnf
  refine SideG.of (by omega) ?_
  conv=>whnf
  refine .take 19 ?_
  conv=>whnf
  refine ⟨rfl, ?_⟩
  conv=>whnf
  refine LoadG.at (v := bv (p.getD (4 * i + 2) 0)) (.here (by rw [show 0 + (4 * (i : Int) + 2).toNat * 1 = 4 * i + 2 by omega]; exact rd_byte (by omega))) ?_
  conv=>whnf
  refine .take 20 ?_
  conv=>whnf
  refine ⟨rfl, ?_⟩
  conv=>whnf
  refine ArithG.cv (hb _ (by omega)) ?_
  conv=>whnf
  refine .take 21 ?_
  conv=>whnf
  refine ⟨rfl, ?_⟩
  conv=>whnf
  refine SideG.of (by decide) ?_
  conv=>whnf
  refine ArithG.shl _ 8 (by decide) ?_
  conv=>whnf
  refine .take 22 ?_
  conv=>whnf
  refine ⟨rfl, ?_⟩
  conv=>whnf
  refine .take 23 ?_
  conv=>whnf
  refine ⟨rfl, ?_⟩
  conv=>whnf
  refine .take 24 ?_
  conv=>whnf
  refine ⟨rfl, ?_⟩
  conv=>whnf
  refine ArithG.i64 (by omega) ?_
  conv=>whnf
  refine .take 25 ?_
  conv=>whnf
  refine ⟨rfl, ?_⟩
  conv=>whnf
  refine ArithG.i64 (by omega) ?_
  conv=>whnf
  refine .take 26 ?_
  conv=>whnf
  refine ⟨rfl, ?_⟩
  conv=>whnf
  refine SideG.of (by omega) ?_
  conv=>whnf
  refine .take 27 ?_
  conv=>whnf
  refine ⟨rfl, ?_⟩
  conv=>whnf
  refine LoadG.at (v := bv (p.getD (4 * i + 3) 0)) (.here (by rw [show 0 + (4 * (i : Int) + 3).toNat * 1 = 4 * i + 3 by omega]; exact rd_byte (by omega))) ?_
  conv=>whnf
  refine .take 28 ?_
  conv=>whnf
  refine ⟨rfl, ?_⟩
  conv=>whnf
  refine ArithG.cv (hb _ (by omega)) ?_
  conv=>whnf
  refine .take 29 ?_
  conv=>whnf
  refine ⟨rfl, ?_⟩
  conv=>whnf
  refine .take 30 ?_
  conv=>whnf
  refine ⟨rfl, ?_⟩
  conv=>whnf
  refine SideG.of (by omega) ?_
  conv=>whnf
  refine .all ?_
  conv=>whnf
  refine ⟨by decide, ?_⟩
  conv=>whnf
  simp only [w32_or]
  have hl : (wl p i).length < 64 := by rw [wl_len]; omega
  refine StoreG.at rfl (Upd.here (by rw [wvs_len, padW_len (by omega)]; omega) rfl) ?_
  conv=>whnf
  refine ⟨rfl, ?_⟩
  conv=>whnf
  refine ArithG.i64 (by omega) ?_
  conv=>whnf
  refine ⟨16 - (i + 1), _, _, by omega, ?_, Ent.refl _, i + 1, by omega, rfl, rfl, ?_⟩
  ·exact ⟨rfl, rfl, rfl, rfl, trivial⟩
  have e2 : (0 : Nat) + (i : Int).toNat * 1 = (wl p i).length := by rw [wl_len]; simp
  have e3 : nextW p (wl p i) i = w16 p i := if_pos hi16
  rw [e2]
  show [cel b3 191 ((wvs (padW (wl p i) 64)).set (wl p i).length (wv (w16 p i))), _, _] = _
  rw [padW_set hl, ← e3]
  rfl
 obtain rfl : i = 16 := by omega
 conv=>whnf
 refine LoopG.mk (fun m e L => ∃ i, 16 ≤ i ∧ i ≤ 64 ∧ m = 64 - i ∧ e = [(2, .pointer (some ⟨b2, 0, none⟩)), (3, .pointer (some ⟨b3, 0, none⟩)), (5, .int .i64 i)] ∧ L = [cel b3 191 (wvs (padW (wl p i) 64)), cel b2 191 (wvs (padW [] 64)), cel b1 176 (bvs p)]) 48
  [(2, .pointer (some ⟨b2, 0, none⟩)), (3, .pointer (some ⟨b3, 0, none⟩)), (5, .int .i64 16)] _ ⟨rfl, rfl, rfl, trivial⟩ (Ent.refl _) ⟨16, by omega, by omega, rfl, rfl, rfl⟩ ?_
 rintro m e L ⟨i, h16, h64, rfl, rfl, rfl⟩
 conv=>whnf
 refine CondG.dec (fun h => ?_) (fun h => ?_)
 ·have hi64 : i < 64 := by omega
  have hg : ∀ k, k < i → (wvs (padW (wl p i) 64))[k]? = some (wv ((wl p i).getD k 0)) := fun k hk => padW_get (by rw [wl_len]; exact hk)
  conv=>whnf
  refine DrawG.mk 10 [cel b3 191 (wvs (padW (wl p i) 64)), cel b2 191 (wvs (padW [] 64)), cel b1 176 (bvs p)] [] (Ent.refl _) ?_
  conv=>whnf
  refine .take 0 ?_
  conv=>whnf
  refine ⟨rfl, ?_⟩
  conv=>whnf
  refine .take 1 ?_
  conv=>whnf
  refine ⟨rfl, ?_⟩
  conv=>whnf
  refine ArithG.i64 (by omega) ?_
  conv=>whnf
  refine .take 2 ?_
  conv=>whnf
  refine ⟨rfl, ?_⟩
  conv=>whnf
  refine SideG.of (by omega) ?_
  conv=>whnf
  refine .take 3 ?_
  conv=>whnf
  refine ⟨rfl, ?_⟩
  conv=>whnf
  refine LoadG.at (.here (by rw [show 0 + ((i : Int) - 2).toNat * 1 = i - 2 by omega]; exact hg _ (by omega))) ?_
  conv=>whnf
  refine .take 4 ?_
  conv=>whnf
  refine ⟨rfl, ?_⟩
  conv=>whnf
  refine .take 5 ?_
  conv=>whnf
  refine ⟨rfl, ?_⟩
  conv=>whnf
  refine ArithG.i64 (by omega) ?_
  conv=>whnf
  refine .take 6 ?_
  conv=>whnf
  refine ⟨rfl, ?_⟩
  conv=>whnf
  refine SideG.of (by omega) ?_
  conv=>whnf
  refine .take 7 ?_
  conv=>whnf
  refine ⟨rfl, ?_⟩
  conv=>whnf
  refine LoadG.at (.here (by rw [show 0 + ((i : Int) - 15).toNat * 1 = i - 15 by omega]; exact hg _ (by omega))) ?_
  conv=>whnf
  refine .take 8 ?_
  conv=>whnf
  refine ⟨rfl, ?_⟩
  conv=>whnf
  refine .take 9 ?_
  conv=>whnf
  refine ⟨rfl, ?_⟩
  conv=>whnf
  refine ⟨rfl, ?_⟩
  have hs10 : ∀ x : W32, (x.toNat : Int).fdiv (2 ^ (min (10 : Int).toNat IntKind.u32.bits)) = ((x >>> 10).toNat : Int) := fun x => w32_shr' x 10 (by decide)
  have hs3 : ∀ x : W32, (x.toNat : Int).fdiv (2 ^ (min (3 : Int).toNat IntKind.u32.bits)) = ((x >>> 3).toNat : Int) := fun x => w32_shr' x 3 (by decide)
  conv=>whnf
  refine CallG.pure (rot_spec _ ((wl p i).getD (i - 2) 0) (-17) 15 (by decide +kernel) (by decide)) ?_
  rintro _ _ ⟨rfl, rfl⟩
  conv=>whnf
  refine CallG.pure (rot_spec _ ((wl p i).getD (i - 2) 0) (-19) 13 (by decide +kernel) (by decide)) ?_
  rintro _ _ ⟨rfl, rfl⟩
  conv=>whnf
  refine SideG.of (by decide) ?_
  conv=>whnf
  refine CallG.pure (rot_spec _ ((wl p i).getD (i - 15) 0) (-7) 25 (by decide +kernel) (by decide)) ?_
  rintro _ _ ⟨rfl, rfl⟩
  conv=>whnf
  refine CallG.pure (rot_spec _ ((wl p i).getD (i - 15) 0) (-18) 14 (by decide +kernel) (by decide)) ?_
  rintro _ _ ⟨rfl, rfl⟩
  conv=>whnf
  refine SideG.of (by decide) ?_
  conv=>whnf
  refine DrawG.mk 15 [cel b3 191 (wvs (padW (wl p i) 64)), cel b2 191 (wvs (padW [] 64)), cel b1 176 (bvs p)] [] (Ent.refl _) ?_
  conv=>whnf
  refine .take 0 ?_
  conv=>whnf
  refine ⟨rfl, ?_⟩
  conv=>whnf
  refine .take 1 ?_
  conv=>whnf
  refine ⟨rfl, ?_⟩
  conv=>whnf
  refine .take 2 ?_
  conv=>whnf
  refine ⟨rfl, ?_⟩
  conv=>whnf
  refine .take 3 ?_
  conv=>whnf
  refine ⟨rfl, ?_⟩
  conv=>whnf
  refine ArithG.i64 (by omega) ?_
  conv=>whnf
  refine .take 4 ?_
  conv=>whnf
  refine ⟨rfl, ?_⟩
  conv=>whnf
  refine SideG.of (by omega) ?_
  conv=>whnf
  refine .take 5 ?_
  conv=>whnf
  refine ⟨rfl, ?_⟩
  conv=>whnf
  refine LoadG.at (.here (by rw [show 0 + ((i : Int) - 7).toNat * 1 = i - 7 by omega]; exact hg _ (by omega))) ?_
  conv=>whnf
  refine .take 6 ?_
  conv=>whnf
  refine ⟨rfl, ?_⟩
  conv=>whnf
  refine ArithG.w (sig1 ((wl p i).getD (i - 2) 0) + (wl p i).getD (i - 7) 0) (by rw [hs10, w32_xor, w32_xor]; exact w32_add _ _) ?_
  conv=>whnf
  refine .take 7 ?_
  conv=>whnf
  refine ⟨rfl, ?_⟩
  conv=>whnf
  refine .take 8 ?_
  conv=>whnf
  refine ⟨rfl, ?_⟩
  conv=>whnf
  refine ArithG.w ((sig1 ((wl p i).getD (i - 2) 0) + (wl p i).getD (i - 7) 0) + sig0 ((wl p i).getD (i - 15) 0)) (by rw [hs3, w32_xor, w32_xor]; exact w32_add _ _) ?_
  conv=>whnf
  refine .take 9 ?_
  conv=>whnf
  refine ⟨rfl, ?_⟩
  conv=>whnf
  refine .take 10 ?_
  conv=>whnf
  refine ⟨rfl, ?_⟩
  conv=>whnf
  refine ArithG.i64 (by omega) ?_
  conv=>whnf
  refine .take 11 ?_
  conv=>whnf
  refine ⟨rfl, ?_⟩
  conv=>whnf
  refine SideG.of (by omega) ?_
  conv=>whnf
  refine .take 12 ?_
  conv=>whnf
  refine ⟨rfl, ?_⟩
  conv=>whnf
  refine LoadG.at (.here (by rw [show 0 + ((i : Int) - 16).toNat * 1 = i - 16 by omega]; exact hg _ (by omega))) ?_
  conv=>whnf
  refine .take 13 ?_
  conv=>whnf
  refine ⟨rfl, ?_⟩
  conv=>whnf
  refine ArithG.w (((sig1 ((wl p i).getD (i - 2) 0) + (wl p i).getD (i - 7) 0) + sig0 ((wl p i).getD (i - 15) 0)) + (wl p i).getD (i - 16) 0) (w32_add _ _) ?_
  conv=>whnf
  refine .take 14 ?_
  conv=>whnf
  refine ⟨rfl, ?_⟩
  conv=>whnf
  refine SideG.of (by omega) ?_
  conv=>whnf
  refine .all ?_
  conv=>whnf
  refine ⟨by decide, ?_⟩
  conv=>whnf
  refine ⟨rfl, ?_⟩
  conv=>whnf
  have hl : (wl p i).length < 64 := by rw [wl_len]; omega
  refine StoreG.at rfl (Upd.here (by rw [wvs_len, padW_len (by omega)]; omega) rfl) ?_
  conv=>whnf
  refine ⟨rfl, ?_⟩
  conv=>whnf
  refine ArithG.i64 (by omega) ?_
  conv=>whnf
  refine ⟨64 - (i + 1), _, _, by omega, ?_, Ent.refl _, i + 1, by omega, by omega, rfl, rfl, ?_⟩
  ·exact ⟨rfl, rfl, rfl, trivial⟩
  have e2 : (0 : Nat) + (i : Int).toNat * 1 = (wl p i).length := by rw [wl_len]; simp
  have e3 : nextW p (wl p i) i = (((sig1 ((wl p i).getD (i - 2) 0) + (wl p i).getD (i - 7) 0) + sig0 ((wl p i).getD (i - 15) 0)) + (wl p i).getD (i - 16) 0) := if_neg (by omega)
  rw [e2]
  show [cel b3 191 ((wvs (padW (wl p i) 64)).set (wl p i).length (wv _)), _, _] = _
  rw [padW_set hl, ← e3]
  rfl
 ·obtain rfl : i = 64 := by omega
  have e64 : padW (wl p 64) 64 = wl p 64 := by
   have := padW_full (l := wl p 64)
   rw [wl_len] at this
   exact this
  rw [e64]
  conv=>whnf
  refine LoadNG.at (vs := wvs (wl p 64)) (by rw [wvs_len, wl_len]) .all ?_
  conv=>whnf
  refine StoreG.at (by rw [wvs_len, wl_len]) (Upd.tl (Upd.whole (by rw [wvs_len, wvs_len, wl_len, padW_len (by simp)]) (wvs_one _))) ?_
  conv=>whnf
  refine LoadNG.at (vs := wvs (wl p 64)) (by rw [wvs_len, wl_len]) (.tl .all) ?_
  conv=>whnf
  exact ⟨[], Ent.nil _, rfl, rfl⟩
theorem take_spec (F : List HP) (K s : List W32) (p : List Nat) (hK : CelN F 0 0 (wvs K)) (hk : K.length = 64) (hs : s.length = 8) (hp : p.length = 64) (hq : ∀ b ∈ p, b < 256) :
 SpecF Tryd.prog 129 [.agg ⟨wvs s⟩, .agg ⟨bvs p⟩] F [] (fun v L => v = .agg ⟨wvs (takeS K s p)⟩ ∧ L = []) := by
 have hget : ∀ k, k < 8 → (wvs s)[k]? = some (wv (s.getD k 0)) := fun k hk => by
  simp [wvs, List.getD, List.getElem?_eq_getElem (by omega : k < s.length)]
 refine fun129.spec rfl ?_
 conv=>whnf
 intro b2
 conv=>whnf
 intro b3
 conv=>whnf
 intro b4
 conv=>whnf
 refine LoadNG.at (vs := bvs p) (by rw [bvs_len, hp]) (.tl .all) ?_
 conv=>whnf
 refine CallG.pure (words_spec _ p hp hq) ?_
 rintro _ _ ⟨rfl, rfl⟩
 conv=>whnf
 intro b5
 conv=>whnf
 refine StoreG.at (by rw [wvs_len, wl_len]) (Upd.whole (by rw [wvs_len, wl_len]; rfl) (wvs_one _)) ?_
 conv=>whnf
 refine DrawG.mk 24 [cel b5 191 (wvs (wl p 64)), cel b4 174 (wvs (List.replicate 8 0)), cel b3 176 (bvs p), cel b2 174 (wvs s)] [] (Ent.refl _) ?_
 conv=>whnf
 refine .take 0 ?_
 conv=>whnf
 refine ⟨rfl, ?_⟩
 conv=>whnf
 refine SideG.of (by decide) ?_
 conv=>whnf
 refine .take 1 ?_
 conv=>whnf
 refine ⟨rfl, ?_⟩
 conv=>whnf
 refine LoadG.at (v := wv (s.getD 0 0)) (.tl (.tl (.tl (.here (hget 0 (by decide)))))) ?_
 conv=>whnf
 refine .take 2 ?_
 conv=>whnf
 refine ⟨rfl, ?_⟩
 conv=>whnf
 refine SideG.of (by decide) ?_
 conv=>whnf
 refine .take 3 ?_
 conv=>whnf
 refine ⟨rfl, ?_⟩
 conv=>whnf
 refine LoadG.at (v := wv (s.getD 1 0)) (.tl (.tl (.tl (.here (hget 1 (by decide)))))) ?_
 conv=>whnf
 refine .take 4 ?_
 conv=>whnf
 refine ⟨rfl, ?_⟩
 conv=>whnf
 refine SideG.of (by decide) ?_
 conv=>whnf
 refine .take 5 ?_
 conv=>whnf
 refine ⟨rfl, ?_⟩
 conv=>whnf
 refine LoadG.at (v := wv (s.getD 2 0)) (.tl (.tl (.tl (.here (hget 2 (by decide)))))) ?_
 conv=>whnf
 refine .take 6 ?_
 conv=>whnf
 refine ⟨rfl, ?_⟩
 conv=>whnf
 refine SideG.of (by decide) ?_
 conv=>whnf
 refine .take 7 ?_
 conv=>whnf
 refine ⟨rfl, ?_⟩
 conv=>whnf
 refine LoadG.at (v := wv (s.getD 3 0)) (.tl (.tl (.tl (.here (hget 3 (by decide)))))) ?_
 conv=>whnf
 refine .take 8 ?_
 conv=>whnf
 refine ⟨rfl, ?_⟩
 conv=>whnf
 refine SideG.of (by decide) ?_
 conv=>whnf
 refine .take 9 ?_
 conv=>whnf
 refine ⟨rfl, ?_⟩
 conv=>whnf
 refine LoadG.at (v := wv (s.getD 4 0)) (.tl (.tl (.tl (.here (hget 4 (by decide)))))) ?_
 conv=>whnf
 refine .take 10 ?_
 conv=>whnf
 refine ⟨rfl, ?_⟩
 conv=>whnf
 refine SideG.of (by decide) ?_
 conv=>whnf
 refine .take 11 ?_
 conv=>whnf
 refine ⟨rfl, ?_⟩
 conv=>whnf
 refine LoadG.at (v := wv (s.getD 5 0)) (.tl (.tl (.tl (.here (hget 5 (by decide)))))) ?_
 conv=>whnf
 refine .take 12 ?_
 conv=>whnf
 refine ⟨rfl, ?_⟩
 conv=>whnf
 refine SideG.of (by decide) ?_
 conv=>whnf
 refine .take 13 ?_
 conv=>whnf
 refine ⟨rfl, ?_⟩
 conv=>whnf
 refine LoadG.at (v := wv (s.getD 6 0)) (.tl (.tl (.tl (.here (hget 6 (by decide)))))) ?_
 conv=>whnf
 refine .take 14 ?_
 conv=>whnf
 refine ⟨rfl, ?_⟩
 conv=>whnf
 refine SideG.of (by decide) ?_
 conv=>whnf
 refine .take 15 ?_
 conv=>whnf
 refine ⟨rfl, ?_⟩
 conv=>whnf
 refine LoadG.at (v := wv (s.getD 7 0)) (.tl (.tl (.tl (.here (hget 7 (by decide)))))) ?_
 conv=>whnf
 refine .take 16 ?_
 conv=>whnf
 refine ⟨rfl, ?_⟩
 conv=>whnf
 refine .take 17 ?_
 conv=>whnf
 refine ⟨rfl, ?_⟩
 conv=>whnf
 refine .take 18 ?_
 conv=>whnf
 refine ⟨rfl, ?_⟩
 conv=>whnf
 refine .take 19 ?_
 conv=>whnf
 refine ⟨rfl, ?_⟩
 conv=>whnf
 refine .take 20 ?_
 conv=>whnf
 refine ⟨rfl, ?_⟩
 conv=>whnf
 refine .take 21 ?_
 conv=>whnf
 refine ⟨rfl, ?_⟩
 conv=>whnf
 refine .take 22 ?_
 conv=>whnf
 refine ⟨rfl, ?_⟩
 conv=>whnf
 refine .take 23 ?_
 conv=>whnf
 refine ⟨rfl, ?_⟩
 conv=>whnf
 refine ⟨rfl, ?_⟩
 conv=>whnf
 refine LoadNG.atF (vs := wvs K) (by rw [wvs_len, hk]) hK ?_
 conv=>whnf
 refine LoopG.mk (fun m e L => ∃ i r, r = rounds K (wl p 64) (R8.of s) i ∧ i ≤ 64 ∧ m = 64 - i ∧ e = [(2, .pointer (some ⟨b2, 0, none⟩)), (4, .pointer (some ⟨b4, 0, none⟩)), (5, .pointer (some ⟨b5, 0, none⟩)), (6, wv r.a), (7, wv r.b), (8, wv r.c), (9, wv r.d), (10, wv r.e), (11, wv r.f), (12, wv r.g), (13, wv r.h), (38, .agg ⟨wvs K⟩), (39, .int .i64 i)] ∧
  L = [cel b5 191 (wvs (wl p 64)), cel b4 174 (wvs (List.replicate 8 0)), cel b3 176 (bvs p), cel b2 174 (wvs s)]) 64
  [(2, .pointer (some ⟨b2, 0, none⟩)), (4, .pointer (some ⟨b4, 0, none⟩)), (5, .pointer (some ⟨b5, 0, none⟩)), (6, wv (s.getD 0 0)), (7, wv (s.getD 1 0)), (8, wv (s.getD 2 0)), (9, wv (s.getD 3 0)), (10, wv (s.getD 4 0)), (11, wv (s.getD 5 0)), (12, wv (s.getD 6 0)), (13, wv (s.getD 7 0)), (38, .agg ⟨wvs K⟩), (39, .int .i64 0)] _
  ⟨rfl, rfl, rfl, rfl, rfl, rfl, rfl, rfl, rfl, rfl, rfl, rfl, rfl, trivial⟩ (Ent.refl _) ⟨0, R8.of s, rfl, by omega, rfl, rfl, rfl⟩ ?_
 rintro m e L ⟨i, r, hr, hi, rfl, rfl, rfl⟩
 conv=>whnf
 refine CondG.dec (fun h => ?_) (fun h => ?_)
 ·have hi64 : i < 64 := by omega
  have hw : (wvs (wl p 64))[i]? = some (wv ((wl p 64).getD i 0)) := by
   simp [wvs, List.getD, List.getElem?_eq_getElem (by rw [wl_len]; exact hi64 : i < (wl p 64).length)]
  have hkk : (wvs K)[(i : Int).toNat]? = some (wv (K.getD i 0)) := by
   rw [Int.toNat_natCast]
   simp [wvs, List.getD, List.getElem?_eq_getElem (by omega : i < K.length)]
  conv=>whnf
  refine DoesG.idx1 (e := 157) (n := 64) (by kernel_rfl) (by kernel_rfl) (by kernel_rfl) (by omega) hkk ?_
  conv=>whnf
  refine CallG.pure (rot_spec _ r.e (-6) 26 (by decide +kernel) (by decide)) ?_
  rintro _ _ ⟨rfl, rfl⟩
  conv=>whnf
  refine CallG.pure (rot_spec _ r.e (-11) 21 (by decide +kernel) (by decide)) ?_
  rintro _ _ ⟨rfl, rfl⟩
  conv=>whnf
  refine CallG.pure (rot_spec _ r.e (-25) 7 (by decide +kernel) (by decide)) ?_
  rintro _ _ ⟨rfl, rfl⟩
  conv=>whnf
  rw [w32_xor, w32_xor]
  conv=>whnf
  refine ArithG.w (r.h + ((r.e &&& r.f) ^^^ (~~~r.e &&& r.g))) (by rw [w32_and, w32_not, w32_and, w32_xor]; exact w32_add _ _) ?_
  conv=>whnf
  refine ArithG.w ((r.h + ((r.e &&& r.f) ^^^ (~~~r.e &&& r.g))) + K.getD i 0) (w32_add _ _) ?_
  conv=>whnf
  refine SideG.of (by omega) ?_
  conv=>whnf
  refine LoadG.at (v := wv ((wl p 64).getD i 0)) (.here (by rw [show 0 + (i : Int).toNat * 1 = i by omega]; exact hw)) ?_
  conv=>whnf
  refine ArithG.w (((r.h + ((r.e &&& r.f) ^^^ (~~~r.e &&& r.g))) + K.getD i 0) + (wl p 64).getD i 0) (w32_add _ _) ?_
  conv=>whnf
  refine ArithG.w (rndX (K.getD i 0) ((wl p 64).getD i 0) r) (w32_add _ _) ?_
  conv=>whnf
  refine CallG.pure (rot_spec _ r.a (-2) 30 (by decide +kernel) (by decide)) ?_
  rintro _ _ ⟨rfl, rfl⟩
  conv=>whnf
  refine CallG.pure (rot_spec _ r.a (-13) 19 (by decide +kernel) (by decide)) ?_
  rintro _ _ ⟨rfl, rfl⟩
  conv=>whnf
  refine CallG.pure (rot_spec _ r.a (-22) 10 (by decide +kernel) (by decide)) ?_
  rintro _ _ ⟨rfl, rfl⟩
  conv=>whnf
  refine ArithG.w (rndY r) (by simp only [w32_and, w32_xor]; exact w32_add _ _) ?_
  conv=>whnf
  refine ArithG.w (rndX (K.getD i 0) ((wl p 64).getD i 0) r + rndY r) (w32_add _ _) ?_
  conv=>whnf
  refine ArithG.w (r.d + rndX (K.getD i 0) ((wl p 64).getD i 0) r) (w32_add _ _) ?_
  conv=>whnf
  refine ArithG.i64 (by omega) ?_
  conv=>whnf
  refine ⟨64 - (i + 1), _, _, by omega, ?_, Ent.refl _, i + 1, rnd (K.getD i 0) ((wl p 64).getD i 0) r, (by rw [rounds_succ, hr]), by omega, rfl, rfl, rfl⟩
  exact ⟨rfl, rfl, rfl, rfl, rfl, rfl, rfl, rfl, rfl, rfl, rfl, rfl, rfl, trivial⟩
 obtain rfl : i = 64 := by omega
 have hlen := takeS_len (K := K) (p := p) hs
 conv=>whnf
 refine BuildG.of (cs := wvs r.list) (by simp [fillL, Value.cells, wvs, R8.list, wv]) ?_
 conv=>whnf
 refine LoopG.mk (fun m e L => ∃ i, i ≤ 8 ∧ m = 8 - i ∧ e = [(2, .pointer (some ⟨b2, 0, none⟩)), (4, .pointer (some ⟨b4, 0, none⟩)), (111, .agg ⟨wvs r.list⟩), (112, .int .i64 i)] ∧
  L = [cel b5 191 (wvs (wl p 64)), cel b4 174 (wvs (List.replicate 8 0)), cel b3 176 (bvs p), cel b2 174 (wvs (mixW (takeS K s p) s i))]) 8
  [(2, .pointer (some ⟨b2, 0, none⟩)), (4, .pointer (some ⟨b4, 0, none⟩)), (111, .agg ⟨wvs r.list⟩), (112, .int .i64 0)] _ ⟨rfl, rfl, rfl, rfl, trivial⟩ (Ent.refl _) ⟨0, by omega, rfl, rfl, rfl⟩ ?_
 rintro m e L ⟨j, hj, rfl, rfl, rfl⟩
 conv=>whnf
 refine CondG.dec (fun h2 => ?_) (fun h2 => ?_)
 ·have hj8 : j < 8 := by omega
  have hll : r.list.length = 8 := rfl
  have hrl : (wvs r.list)[(j : Int).toNat]? = some (wv (r.list.getD j 0)) := by
   rw [Int.toNat_natCast]
   simp [wvs, List.getD, List.getElem?_eq_getElem (by omega : j < r.list.length)]
  have hz : (0 : Nat) + (j : Int).toNat * 1 = j := by simp
  conv=>whnf
  refine DoesG.idx1 (e := 157) (n := 8) (by kernel_rfl) (by kernel_rfl) (by kernel_rfl) (by omega) hrl ?_
  conv=>whnf
  refine SideG.of (by omega) ?_
  conv=>whnf
  refine LoadG.at (v := wv (s.getD j 0)) (.tl (.tl (.tl (.here (by rw [hz]; exact mixW_get (by omega) (by omega)))))) ?_
  conv=>whnf
  refine ArithG.w (s.getD j 0 + r.list.getD j 0) (w32_add _ _) ?_
  conv=>whnf
  refine SideG.of (by omega) ?_
  conv=>whnf
  refine StoreG.at rfl (Upd.tl (Upd.tl (Upd.tl (Upd.here (by rw [hz, wvs_len, mixW_len (by omega) (by omega)]; omega) rfl)))) ?_
  conv=>whnf
  refine ArithG.i64 (by omega) ?_
  conv=>whnf
  refine ⟨8 - (j + 1), _, _, by omega, ?_, Ent.refl _, j + 1, by omega, rfl, rfl, ?_⟩
  ·exact ⟨rfl, rfl, rfl, rfl, trivial⟩
  rw [hz]
  have e1 : s.getD j 0 + r.list.getD j 0 = (takeS K s p).getD j 0 := by rw [takeS_get hs hj8, hr]
  show [_, _, _, cel b2 174 ((wvs (mixW (takeS K s p) s j)).set j (wv (s.getD j 0 + r.list.getD j 0)))] = _
  rw [e1, mixW_set (by omega) (by omega)]
 obtain rfl : j = 8 := by omega
 have e8 : mixW (takeS K s p) s 8 = takeS K s p := by
  simp only [mixW]
  rw [List.take_of_length_le (by omega), List.drop_eq_nil_of_le (by omega), List.append_nil]
 rw [e8]
 conv=>whnf
 refine LoadNG.at (vs := wvs (takeS K s p)) (by rw [wvs_len, hlen]) (.tl (.tl (.tl .all))) ?_
 conv=>whnf
 refine StoreG.at (by rw [wvs_len, hlen]) (Upd.tl (Upd.whole (by rw [wvs_len, hlen]; rfl) (wvs_one _))) ?_
 conv=>whnf
 refine LoadNG.at (vs := wvs (takeS K s p)) (by rw [wvs_len, hlen]) (.tl .all) ?_
 conv=>whnf
 exact ⟨[], Ent.nil _, rfl, rfl⟩
theorem begin_spec (F : List HP) : SpecF Tryd.prog 128 [] F [] (fun v L => v = .agg ⟨wvs ivW⟩ ∧ L = []) := by
 refine fun128.spec rfl ?_
 conv=>whnf
 intro b
 conv=>whnf
 refine BuildG.of (cs := wvs ivW) (by simp [fillL, Value.cells, wvs, ivW, wv]) ?_
 conv=>whnf
 refine StoreG.at rfl (Upd.whole rfl (wvs_one _)) ?_
 conv=>whnf
 refine LoadNG.at (vs := wvs ivW) rfl .all ?_
 conv=>whnf
 exact ⟨[], Ent.nil _, rfl, rfl⟩
theorem hnew_spec (F : List HP) : SpecF Tryd.prog 95 [] F [] (fun v L => ∃ h, v = .pointer (some ⟨h, 0, none⟩) ∧ L = [cel h 178 (hC ivW (List.replicate 64 0) 0)]) := by
 refine fun95.spec rfl ?_
 conv=>whnf
 refine CallG.pure (begin_spec _) ?_
 rintro _ _ ⟨rfl, rfl⟩
 conv=>whnf
 refine BuildG.of (cs := hC ivW (List.replicate 64 0) 0) rfl ?_
 conv=>whnf
 intro h
 conv=>whnf
 exact ret_here ⟨h, rfl, rfl⟩
theorem write_spec (F : List HP) (K : List W32) (hK : CelN F 0 0 (wvs K)) (hk : K.length = 64) (h : Nat) (m data : List Nat) (s : List W32) (wait : List Nat) (v : Value) (hH : Hs K m s wait) (hv : RdS F v data.length (bvs data)) (hb : ∀ b ∈ data, b < 256) (hm : m.length + data.length ≤ 1152921504606846976) :
 SpecF Tryd.prog 96 [.pointer (some ⟨h, 0, none⟩), v] F [cel h 178 (hC s wait m.length)] (fun _ L => ∃ s' wait', Hs K (m ++ data) s' wait' ∧ L = [cel h 178 (hC s' wait' (m ++ data).length)]) := by
 refine fun96.spec rfl ?_
 conv=>whnf
 refine LoopG.mk (fun mm e L => ∃ j v s wait, j ≤ data.length ∧ RdS F v (data.length - j) (bvs (data.drop j)) ∧ Hs K (m ++ data.take j) s wait ∧ mm = data.length - j ∧ e = [(0, .pointer (some ⟨h, 0, none⟩)), (1, v)] ∧ L = [cel h 178 (hC s wait (m.length + j))]) data.length
  [(0, .pointer (some ⟨h, 0, none⟩)), (1, v)] _ ⟨rfl, rfl, trivial⟩ (Ent.refl _) ⟨0, v, s, wait, by omega, by simpa using hv, by simpa using hH, rfl, rfl, rfl⟩ ?_
 rintro mm e L ⟨j, v, s, wait, hj, hv, hH, rfl, rfl, rfl⟩
 have hs : s.length = 8 := by rw [hH.st]; exact stN_len _ _ _
 conv=>whnf
 refine LenG.rd hv ?_
 conv=>whnf
 refine CondG.dec (fun h1 => ?_) (fun h1 => ?_)
 ·have hlm : (m ++ data.take j).length = m.length + j := by simp; omega
  have hmod : ((m.length + j : Nat) : Int).tmod 64 = (((m.length + j) % 64 : Nat) : Int) := rfl
  have hat : (m.length + j) % 64 < 64 := Nat.mod_lt _ (by decide)
  conv=>whnf
  refine LoadG.at (v := .int .i64 ((m.length + j : Nat))) (.here (hC_n hs hH.len)) ?_
  conv=>whnf
  refine SideG.of (by decide) ?_
  conv=>whnf
  rw [hmod]
  refine SideG.of (by omega) ?_
  conv=>whnf
  refine SliceG.ne (by omega) ?_
  conv=>whnf
  have hcl := hC_len (n := m.length + j) hs hH.len
  have ho : 0 + 8 + (((m.length + j) % 64 : Nat) : Int).toNat * 1 = 8 + (m.length + j) % 64 := by omega
  have hdl : ((64 : Nat) : Int).toNat - (((m.length + j) % 64 : Nat) : Int).toNat = 64 - (m.length + j) % 64 := by omega
  refine DoesG.copy1 (elem := 5) (n := data.length - j) (cs := bvs (data.drop j)) (by kernel_rfl) (by kernel_rfl) (.tl (.right hv [])) (by simp [bvs]) (by rw [ho, hdl, hcl]; omega) (bvs_one _) ?_
  rw [ho, hdl]
  obtain ⟨k, hk0⟩ : ∃ k, k = min (data.length - j) (64 - (m.length + j) % 64) := ⟨_, rfl⟩
  rw [← hk0]
  have hkl : ((data.drop j).take k).length = k := by simp; omega
  have hkp : 0 < k := by omega
  have ec : (hC s wait (m.length + j)).take (8 + (m.length + j) % 64) ++ (bvs (data.drop j)).take k ++ (hC s wait (m.length + j)).drop (8 + (m.length + j) % 64 + k) = hC s (wait.take ((m.length + j) % 64) ++ (data.drop j).take k ++ wait.drop ((m.length + j) % 64 + k)) (m.length + j) := by
   have e1 := hC_copy (n := m.length + j) hs hH.len (a := (m.length + j) % 64) (d := (data.drop j).take k) (by omega)
   rw [hkl] at e1
   have e2 : (bvs (data.drop j)).take k = bvs ((data.drop j).take k) := by simp [bvs]
   rw [e2, e1]
  rw [ec]
  have hbd : ∀ b ∈ (data.drop j).take k, b < 256 := fun b h => hb b (List.mem_of_mem_drop (List.mem_of_mem_take h))
  have hst := Hs.step hH (d := (data.drop j).take k) (by rw [hlm, hkl]; omega) hbd (wait' := wait.take ((m.length + j) % 64) ++ (data.drop j).take k ++ wait.drop ((m.length + j) % 64 + k)) (by rw [hlm, hkl])
  rw [hlm, hkl] at hst
  have hmd : m ++ data.take j ++ (data.drop j).take k = m ++ data.take (j + k) := by
   rw [List.append_assoc, ← List.take_add]
  rw [hmd] at hst
  generalize hwe : wait.take ((m.length + j) % 64) ++ (data.drop j).take k ++ wait.drop ((m.length + j) % 64 + k) = wait' at hst ⊢
  have hwl : wait'.length = 64 := by
   rw [← hwe]; simp [hH.len, hkl]; omega
  have hwb : ∀ b ∈ wait', b < 256 := by
   split at hst
   ·exact hst.byte
   ·exact hst.byte
  conv=>whnf
  refine SlcG.rd hv fun a cap ha hc => ?_
  subst ha
  conv=>whnf
  refine SideG.of (by omega) ?_
  conv=>whnf
  refine SliceG.rd (n := data.length - j) hv (by simp; omega) (by simp) (by simp; omega) (by simp) fun v2 hv2 _ => ?_
  have hv3 : RdS F v2 (data.length - (j + k)) (bvs (data.drop (j + k))) := by
   have e1 : ((data.length - j : Nat) : Int).toNat - (k : Int).toNat = data.length - (j + k) := by omega
   have e2 : ((bvs (data.drop j)).drop ((k : Int).toNat * 1)).take ((((data.length - j : Nat) : Int).toNat - (k : Int).toNat) * 1) = bvs (data.drop (j + k)) := by
    rw [e1]
    simp only [Int.toNat_natCast, Nat.mul_one, bvs, ← List.map_drop, List.drop_drop]
    rw [List.take_of_length_le (by simp)]
   rw [e2, e1] at hv2
   exact hv2
  conv=>whnf
  refine LoadG.at (v := .int .i64 ((m.length + j : Nat))) (.here (hC_n hs hwl)) ?_
  conv=>whnf
  refine ArithG.i64 (by omega) ?_
  conv=>whnf
  refine StoreG.at rfl (Upd.here (by rw [hC_len hs hwl]; decide) rfl) ?_
  have en : ((m.length + j : Nat) : Int) + (k : Int) = ((m.length + (j + k) : Nat) : Int) := by omega
  rw [en, show 0 + 72 = 72 from rfl, hC_set_n hs hwl]
  conv=>whnf
  refine ArithG.i64 (by omega) ?_
  conv=>whnf
  refine CondG.dec (fun h6 => ?_) (fun h6 => ?_)
  ·rw [if_pos (by omega)] at hst
   conv=>whnf
   refine DrawG.mk 10 [cel h 178 (hC s wait' (m.length + (j + k)))] [] (Ent.refl _) ?_
   conv=>whnf
   refine .take 0 ?_
   conv=>whnf
   refine ⟨rfl, ?_⟩
   conv=>whnf
   refine .take 1 ?_
   conv=>whnf
   refine ⟨rfl, ?_⟩
   conv=>whnf
   refine .take 2 ?_
   conv=>whnf
   refine ⟨rfl, ?_⟩
   conv=>whnf
   refine .take 3 ?_
   conv=>whnf
   refine ⟨rfl, ?_⟩
   conv=>whnf
   refine .take 4 ?_
   conv=>whnf
   refine ⟨rfl, ?_⟩
   conv=>whnf
   refine LoadNG.at (vs := wvs s) (by rw [wvs_len, hs]) (CelN.here hC_s) ?_
   conv=>whnf
   refine .take 5 ?_
   conv=>whnf
   refine ⟨rfl, ?_⟩
   conv=>whnf
   refine .take 6 ?_
   conv=>whnf
   refine ⟨rfl, ?_⟩
   conv=>whnf
   refine .take 7 ?_
   conv=>whnf
   refine ⟨rfl, ?_⟩
   conv=>whnf
   refine .take 8 ?_
   conv=>whnf
   refine ⟨rfl, ?_⟩
   conv=>whnf
   refine LoadNG.at (vs := bvs wait') (by rw [bvs_len, hwl]) (CelN.here (hC_wait hs)) ?_
   conv=>whnf
   refine .all ?_
   conv=>whnf
   refine ⟨by decide, ?_⟩
   conv=>whnf
   refine CallG.pure (take_spec _ K s wait' (.right (.right hK _) _) hk hs hwl hwb) ?_
   rintro _ _ ⟨rfl, rfl⟩
   conv=>whnf
   refine .all ?_
   conv=>whnf
   refine ⟨by decide, ?_⟩
   conv=>whnf
   refine ⟨rfl, ?_⟩
   conv=>whnf
   refine .all ?_
   conv=>whnf
   refine ⟨by decide, ?_⟩
   conv=>whnf
   refine .all ?_
   conv=>whnf
   refine ⟨by decide, ?_⟩
   conv=>whnf
   have hts := takeS_len (K := K) (p := wait') hs
   refine StoreG.at (by rw [wvs_len, hts]) (Upd.hereN (by rw [wvs_len, hts, hC_len hs hwl]; decide) (wvs_one _) (hC_set_s hs hts)) ?_
   conv=>whnf
   refine ⟨rfl, ?_⟩
   conv=>whnf
   refine ⟨data.length - (j + k), _, _, by omega, ?_, Ent.refl _, j + k, v2, takeS K s wait', wait', by omega, hv3, hst, rfl, rfl, rfl⟩
   exact ⟨rfl, rfl, trivial⟩
  ·rw [if_neg (by omega)] at hst
   conv=>whnf
   refine ⟨data.length - (j + k), _, _, by omega, ?_, Ent.refl _, j + k, v2, s, wait', by omega, hv3, hst, rfl, rfl, rfl⟩
   exact ⟨rfl, rfl, trivial⟩
 ·obtain rfl : j = data.length := by omega
  conv=>whnf
  refine ret_here ⟨s, wait, by simpa using hH, by simp⟩
end Go.Proofs.YtjkldhalmglkpaaDoor
namespace Go.Proofs.YtjkldhalmglkpaaDoor
open Go Go.Sl
theorem end_spec (F : List HP) (K : List W32) (hK : CelN F 0 0 (wvs K)) (hk : K.length = 64) (h : Nat) (m : List Nat) (s : List W32) (wait : List Nat) (hH : Hs K m s wait) (hm : m.length ≤ 1152921504606846976) (hb : ∀ b ∈ m, b < 256) :
 SpecF Tryd.prog 130 [.pointer (some ⟨h, 0, none⟩), .int .u8 0, .int .i64 0] F [cel h 178 (hC s wait m.length)] (fun v L => v = .agg ⟨bvs (dig K m)⟩ ∧ L = [cel h 178 (hC s wait m.length)]) := by
 have hs : s.length = 8 := by rw [hH.st]; exact stN_len _ _ _
 have hat : m.length % 64 < 64 := Nat.mod_lt _ (by decide)
 have hmod : ((m.length : Nat) : Int).tmod 64 = ((m.length % 64 : Nat) : Int) := rfl
 refine fun130.spec rfl ?_
 conv=>whnf
 intro b6
 conv=>whnf
 refine DrawG.mk 12 [cel h 178 (hC s wait m.length)] [cel b6 46 (bvs (List.replicate 32 0))] (Ent.refl _) ?_
 conv=>whnf
 refine .take 0 ?_
 conv=>whnf
 refine ⟨rfl, ?_⟩
 conv=>whnf
 refine .take 1 ?_
 conv=>whnf
 refine ⟨rfl, ?_⟩
 conv=>whnf
 refine .take 2 ?_
 conv=>whnf
 refine ⟨rfl, ?_⟩
 conv=>whnf
 refine .take 3 ?_
 conv=>whnf
 refine ⟨rfl, ?_⟩
 conv=>whnf
 refine LoadNG.at (vs := wvs s) (by rw [wvs_len, hs]) (CelN.here hC_s) ?_
 conv=>whnf
 refine .take 4 ?_
 conv=>whnf
 refine ⟨rfl, ?_⟩
 conv=>whnf
 refine .take 5 ?_
 conv=>whnf
 refine ⟨rfl, ?_⟩
 conv=>whnf
 refine .take 6 ?_
 conv=>whnf
 refine ⟨rfl, ?_⟩
 conv=>whnf
 refine .take 7 ?_
 conv=>whnf
 refine ⟨rfl, ?_⟩
 conv=>whnf
 refine LoadNG.at (vs := bvs wait) (by rw [bvs_len, hH.len]) (CelN.here (hC_wait hs)) ?_
 conv=>whnf
 refine .all ?_
 conv=>whnf
 refine ⟨by decide, ?_⟩
 conv=>whnf
 refine ⟨?_, ?_⟩
 conv=>whnf
 intro b7
 conv=>whnf
 refine .all ?_
 conv=>whnf
 refine ⟨by decide, ?_⟩
 conv=>whnf
 intro b8
 conv=>whnf
 refine .all ?_
 conv=>whnf
 refine ⟨by decide, ?_⟩
 conv=>whnf
 refine StoreG.ent (M := [cel b7 174 (wvs (List.replicate 8 0)), cel b8 176 (bvs (List.replicate 64 0)), cel b6 46 (bvs (List.replicate 32 0))]) (Ent.perm (List.Perm.swap _ _ _)) ?_
 refine StoreG.at (by rw [wvs_len, hs]) (Upd.whole (by rw [wvs_len, hs]; rfl) (wvs_one _)) ?_
 rotate_left
 conv=>whnf
 intro b8
 conv=>whnf
 refine .all ?_
 conv=>whnf
 refine ⟨by decide, ?_⟩
 conv=>whnf
 intro b7
 conv=>whnf
 refine .all ?_
 conv=>whnf
 refine ⟨by decide, ?_⟩
 conv=>whnf
 refine StoreG.ent (M := [cel b7 174 (wvs (List.replicate 8 0)), cel b8 176 (bvs (List.replicate 64 0)), cel b6 46 (bvs (List.replicate 32 0))]) (Ent.refl _) ?_
 refine StoreG.at (by rw [wvs_len, hs]) (Upd.whole (by rw [wvs_len, hs]; rfl) (wvs_one _)) ?_
 all_goals
  conv=>whnf
  refine .all ?_
  conv=>whnf
  refine ⟨by decide, ?_⟩
  conv=>whnf
  refine StoreG.at (by rw [bvs_len, hH.len]) (Upd.tl (Upd.whole (by rw [bvs_len, hH.len]; rfl) (bvs_one _))) ?_
  conv=>whnf
  refine ⟨rfl, ?_⟩
  conv=>whnf
  refine LoadG.at (v := .int .i64 (m.length : Nat)) (.tl (.tl (.tl (.here (hC_n hs hH.len))))) ?_
  conv=>whnf
  refine SideG.of (by decide) ?_
  conv=>whnf
  rw [hmod]
  refine SideG.of (by omega) ?_
  conv=>whnf
  refine SliceG.ne (by omega) ?_
  conv=>whnf
  have ho : 0 + ((m.length % 64 : Nat) : Int).toNat * 1 = m.length % 64 := by omega
  have hdl : ((64 : Nat) : Int).toNat - ((m.length % 64 : Nat) : Int).toNat = 64 - m.length % 64 := by omega
  refine DoesG.ent (Ent.front 1 rfl) ?_
  refine DoesG.clear1 (elem := 5) (zv := bv 0) (by kernel_rfl) (by kernel_rfl) (by rw [ho, hdl, bvs_len, hH.len]; omega) rfl ?_
  rw [ho, hdl]
  have hrl : (m.drop (64 * (m.length / 64))).length = m.length % 64 := by simp; have := Nat.div_add_mod m.length 64; omega
  have e1 : (bvs wait).take (m.length % 64) ++ List.replicate (64 - m.length % 64) (bv 0) ++ (bvs wait).drop (m.length % 64 + (64 - m.length % 64)) = bvs (m.drop (64 * (m.length / 64)) ++ List.replicate (64 - m.length % 64) 0) := by
   rw [← hH.rem, List.drop_eq_nil_of_le (by rw [bvs_len, hH.len]; omega)]
   simp [bvs]
  rw [e1]
  conv=>whnf
  refine DrawG.mk 10 [cel b7 174 (wvs s), cel b6 46 (bvs (List.replicate 32 0)), cel h 178 (hC s wait m.length)] [cel b8 176 (bvs (m.drop (64 * (m.length / 64)) ++ List.replicate (64 - m.length % 64) 0))] (Ent.refl _) ?_
  conv=>whnf
  refine .take 0 ?_
  conv=>whnf
  refine ⟨rfl, ?_⟩
  conv=>whnf
  refine .take 1 ?_
  conv=>whnf
  refine ⟨rfl, ?_⟩
  conv=>whnf
  refine .take 2 ?_
  conv=>whnf
  refine ⟨rfl, ?_⟩
  conv=>whnf
  refine .take 3 ?_
  conv=>whnf
  refine ⟨rfl, ?_⟩
  conv=>whnf
  refine SideG.of (by decide) ?_
  conv=>whnf
  refine .take 4 ?_
  conv=>whnf
  refine ⟨rfl, ?_⟩
  conv=>whnf
  refine .take 5 ?_
  conv=>whnf
  refine ⟨rfl, ?_⟩
  conv=>whnf
  refine .take 6 ?_
  conv=>whnf
  refine ⟨rfl, ?_⟩
  conv=>whnf
  refine SideG.of (by decide) ?_
  conv=>whnf
  refine .take 7 ?_
  conv=>whnf
  refine ⟨rfl, ?_⟩
  conv=>whnf
  refine .take 8 ?_
  conv=>whnf
  refine ⟨rfl, ?_⟩
  conv=>whnf
  refine SideG.of (by omega) ?_
  conv=>whnf
  refine .all ?_
  conv=>whnf
  refine ⟨by decide, ?_⟩
  conv=>whnf
  refine StoreG.at (cs := [bv 128]) rfl (Upd.here (v := bv 128) (by rw [ho, bvs_len]; simp [hrl]; omega) rfl) ?_
  rw [ho, pad_set hrl hat]
  have ep : m.drop (64 * (m.length / 64)) ++ 128 :: List.replicate (63 - m.length % 64) 0 = padP m := rfl
  rw [ep]
  have hpb : ∀ b ∈ padP m, b < 256 := by
   intro b hbm
   simp only [padP, List.mem_append, List.mem_cons, List.mem_replicate] at hbm
   rcases hbm with h1 | h1 | h1
   ·exact hb b (List.mem_of_mem_drop h1)
   ·omega
   ·omega
  conv=>whnf
  refine ⟨rfl, ?_⟩
  conv=>whnf
  refine CondG.dec (fun h5 => ?_) (fun h5 => ?_)
  rotate_left
  ·skip
   have h56 : ¬ 56 ≤ m.length % 64 := by omega
   have q1 : cel b7 174 (wvs s) = cel b7 174 (wvs (endS K m)) := by unfold endS; rw [if_neg h56, hH.st]
   have q2 : padP m = endP m := by unfold endP; rw [if_neg h56]
   rw [q1, q2]
   conv=>whnf
   have hel := endS_len K m
   refine LoadG.at (v := .int .i64 (m.length : Nat)) (.tl (.tl (.tl (.here (hC_n hs hH.len))))) ?_
   conv=>whnf
   refine ArithG.u64 (by omega) ?_
   conv=>whnf
   refine ArithG.u64 (by omega) ?_
   conv=>whnf
   refine ArithG.u64 (by omega) ?_
   conv=>whnf
   refine ArithG.u64 (by omega) ?_
   have eN : (m.length : Int) * 8 + 0 = ((m.length * 8 : Nat) : Int) := by omega
   rw [eN]
   conv=>whnf
   refine LoopG.mk (fun mm e L => ∃ i, i ≤ 8 ∧ mm = 8 - i ∧ e = [(6, .pointer (some ⟨b6, 0, none⟩)), (7, .pointer (some ⟨b7, 0, none⟩)), (8, .pointer (some ⟨b8, 0, none⟩)), (10, .int .u64 (m.length * 8 : Nat)), (53, .int .i64 i)] ∧
    L = [cel b8 176 (bvs (tailQ (endP m) (m.length * 8) i)), cel b7 174 (wvs (endS K m)), cel b6 46 (bvs (List.replicate 32 0)), cel h 178 (hC s wait m.length)]) 8
    [(6, .pointer (some ⟨b6, 0, none⟩)), (7, .pointer (some ⟨b7, 0, none⟩)), (8, .pointer (some ⟨b8, 0, none⟩)), (10, .int .u64 (m.length * 8 : Nat)), (53, .int .i64 0)] _ ⟨rfl, rfl, rfl, rfl, rfl, trivial⟩ (Ent.refl _) ⟨0, by omega, rfl, rfl, by have ez := tailQ_zero (N := m.length * 8) (endP_len m); first | (rw [ez]; done) | (rw [ez]; rfl)⟩ ?_
   rintro mm e L ⟨i, hi, rfl, rfl, rfl⟩
   conv=>whnf
   refine CondG.dec (fun h9 => ?_) (fun h9 => ?_)
   ·have hi8 : i < 8 := by omega
    conv=>whnf
    refine ArithG.i64 (by omega) ?_
    conv=>whnf
    refine ArithG.i64 (by omega) ?_
    conv=>whnf
    refine SideG.of (by omega) ?_
    conv=>whnf
    refine ArithG.all ?_
    conv=>whnf
    refine SideG.of (by omega) ?_
    conv=>whnf
    have ex := shr_b (m.length * 8) i hi8
    refine StoreG.at rfl (Upd.here (by rw [bvs_len, tailQ_len (endP_len m) (by omega)]; omega) rfl) ?_
    conv=>whnf
    refine ArithG.i64 (by omega) ?_
    conv=>whnf
    refine ⟨8 - (i + 1), _, _, by omega, ?_, Ent.refl _, i + 1, by omega, rfl, rfl, ?_⟩
    ·exact ⟨rfl, rfl, rfl, rfl, rfl, trivial⟩
    rw [show 0 + (63 - (i : Int)).toNat * 1 = 63 - i by omega, ← tailQ_set (endP_len m) hi8]
    show [cel b8 176 ((bvs (tailQ (endP m) (m.length * 8) i)).set (63 - i) (.int .u8 (IntKind.u8.wrap (((m.length * 8 : Nat) : Int).fdiv (2 ^ (min (8 * (i : Int)).toNat 64)))))), _, _, _] = _
    rw [ex]
    rfl
   obtain rfl : i = 8 := by omega
   rw [tailQ_end]
   conv=>whnf
   refine LoadNG.at (vs := wvs (endS K m)) (by rw [wvs_len, hel]) (.tl .all) ?_
   conv=>whnf
   refine LoadNG.at (vs := bvs (endQ m)) (by rw [bvs_len, endQ_len]) .all ?_
   conv=>whnf
   refine CallG.pure (take_spec _ K (endS K m) (endQ m) (.right hK _) hk hel (endQ_len m) (endQ_byte hb)) ?_
   rintro _ _ ⟨rfl, rfl⟩
   conv=>whnf
   have hfl := takeS_len (K := K) (p := endQ m) hel
   refine StoreG.at (by rw [wvs_len, hfl]) (Upd.tl (Upd.whole (by rw [wvs_len, hfl, wvs_len, hel]) (wvs_one _))) ?_
   conv=>whnf
   intro b12
   conv=>whnf
   refine LoopG.mk (fun mm e L => ∃ i, i ≤ 32 ∧ mm = 32 - i ∧ e = [(6, .pointer (some ⟨b6, 0, none⟩)), (7, .pointer (some ⟨b7, 0, none⟩)), (12, .pointer (some ⟨b12, 0, none⟩)), (68, .int .i64 i)] ∧
    L = [cel b12 46 (bvs (fillB (fun i => ((takeS K (endS K m) (endQ m)).getD (i / 4) 0 >>> (24 - 8 * (i % 4))).toNat % 256) 32 i)), cel b8 176 (bvs (endQ m)), cel b7 174 (wvs (takeS K (endS K m) (endQ m))), cel b6 46 (bvs (List.replicate 32 0)), cel h 178 (hC s wait m.length)]) 32
    [(6, .pointer (some ⟨b6, 0, none⟩)), (7, .pointer (some ⟨b7, 0, none⟩)), (12, .pointer (some ⟨b12, 0, none⟩)), (68, .int .i64 0)] _ ⟨rfl, rfl, rfl, rfl, trivial⟩ (Ent.refl _) ⟨0, by omega, rfl, rfl, by rw [fillB_zero]; rfl⟩ ?_
   rintro mm e L ⟨i, hi, rfl, rfl, rfl⟩
   conv=>whnf
   refine CondG.dec (fun h9 => ?_) (fun h9 => ?_)
   ·have hi8 : i < 32 := by omega
    have hq : (i : Int).tdiv 4 = ((i / 4 : Nat) : Int) := rfl
    have hr : (i : Int).tmod 4 = ((i % 4 : Nat) : Int) := rfl
    conv=>whnf
    refine SideG.of (by decide) ?_
    conv=>whnf
    refine ArithG.i64' _ hq (by omega) ?_
    conv=>whnf
    refine SideG.of (by omega) ?_
    conv=>whnf
    have hg : (wvs (takeS K (endS K m) (endQ m)))[0 + ((i / 4 : Nat) : Int).toNat * 1]? = some (wv ((takeS K (endS K m) (endQ m)).getD (i / 4) 0)) := by
     rw [show 0 + ((i / 4 : Nat) : Int).toNat * 1 = i / 4 by omega]
     simp [wvs, List.getD, List.getElem?_eq_getElem (by omega : i / 4 < (takeS K (endS K m) (endQ m)).length)]
    refine LoadG.at (.tl (.tl (.here hg))) ?_
    conv=>whnf
    refine SideG.of (by decide) ?_
    conv=>whnf
    rw [hr]
    refine ArithG.i64 (by omega) ?_
    conv=>whnf
    refine ArithG.i64 (by omega) ?_
    conv=>whnf
    refine SideG.of (by omega) ?_
    conv=>whnf
    refine ArithG.all ?_
    conv=>whnf
    refine SideG.of (by omega) ?_
    conv=>whnf
    have ex := shr_d ((takeS K (endS K m) (endQ m)).getD (i / 4) 0) i
    refine StoreG.at rfl (Upd.here (by simp [bvs_len, fillB_len]; omega) rfl) ?_
    conv=>whnf
    refine ArithG.i64 (by omega) ?_
    conv=>whnf
    refine ⟨32 - (i + 1), _, _, by omega, ?_, Ent.refl _, i + 1, by omega, rfl, rfl, ?_⟩
    ·exact ⟨rfl, rfl, rfl, rfl, trivial⟩
    rw [show 0 + (i : Int).toNat * 1 = i by omega, ← fillB_set _ hi8]
    show [cel b12 46 ((bvs (fillB _ 32 i)).set i (.int .u8 (IntKind.u8.wrap ((((takeS K (endS K m) (endQ m)).getD (i / 4) 0).toNat : Int).fdiv (2 ^ (min (24 - 8 * ((i % 4 : Nat) : Int)).toNat 32)))))), _, _, _, _] = _
    rw [ex]
    rfl
   obtain rfl : i = 32 := by omega
   rw [fillB_all]
   conv=>whnf
   refine LoadNG.at (vs := bvs (dig K m)) (by rw [bvs_len, dig_len]) .all ?_
   conv=>whnf
   refine StoreG.at (by rw [bvs_len, dig_len]) (Upd.tl (Upd.tl (Upd.tl (Upd.whole (by rw [bvs_len, dig_len]; rfl) (bvs_one _))))) ?_
   conv=>whnf
   refine LoadNG.at (vs := bvs (dig K m)) (by rw [bvs_len, dig_len]) (.tl (.tl (.tl .all))) ?_
   conv=>whnf
   exact ⟨_, Ent.sel (T := []) (A := [_, _, _, _, _]) [4] rfl, rfl, rfl⟩
  have h56 : 56 ≤ m.length % 64 := by omega
  conv=>whnf
  refine LoadNG.at (vs := wvs s) (by rw [wvs_len, hs]) (.tl .all) ?_
  conv=>whnf
  refine LoadNG.at (vs := bvs (padP m)) (by rw [bvs_len, padP_len]) .all ?_
  conv=>whnf
  refine CallG.pure (take_spec _ K s (padP m) (.right hK _) hk hs (padP_len m) hpb) ?_
  rintro _ _ ⟨rfl, rfl⟩
  conv=>whnf
  refine BuildG.of (cs := bvs (List.replicate 64 0)) rfl ?_
  conv=>whnf
  have hts := takeS_len (K := K) (p := padP m) hs
  refine StoreG.at (by rw [wvs_len, hts]) (Upd.tl (Upd.whole (by rw [wvs_len, hts, wvs_len, hs]) (wvs_one _))) ?_
  conv=>whnf
  refine StoreG.at rfl (Upd.whole (by rw [bvs_len, bvs_len, padP_len]; rfl) (bvs_one _)) ?_
  have q1 : takeS K s (padP m) = endS K m := by unfold endS; rw [if_pos h56, hH.st]
  have q2 : List.replicate 64 0 = endP m := by unfold endP; rw [if_pos h56]
  rw [q1, q2]
  conv=>whnf
  have hel := endS_len K m
  refine LoadG.at (v := .int .i64 (m.length : Nat)) (.tl (.tl (.tl (.here (hC_n hs hH.len))))) ?_
  conv=>whnf
  refine ArithG.u64 (by omega) ?_
  conv=>whnf
  refine ArithG.u64 (by omega) ?_
  conv=>whnf
  refine ArithG.u64 (by omega) ?_
  conv=>whnf
  refine ArithG.u64 (by omega) ?_
  have eN : (m.length : Int) * 8 + 0 = ((m.length * 8 : Nat) : Int) := by omega
  rw [eN]
  conv=>whnf
  refine LoopG.mk (fun mm e L => ∃ i, i ≤ 8 ∧ mm = 8 - i ∧ e = [(6, .pointer (some ⟨b6, 0, none⟩)), (7, .pointer (some ⟨b7, 0, none⟩)), (8, .pointer (some ⟨b8, 0, none⟩)), (10, .int .u64 (m.length * 8 : Nat)), (53, .int .i64 i)] ∧
   L = [cel b8 176 (bvs (tailQ (endP m) (m.length * 8) i)), cel b7 174 (wvs (endS K m)), cel b6 46 (bvs (List.replicate 32 0)), cel h 178 (hC s wait m.length)]) 8
   [(6, .pointer (some ⟨b6, 0, none⟩)), (7, .pointer (some ⟨b7, 0, none⟩)), (8, .pointer (some ⟨b8, 0, none⟩)), (10, .int .u64 (m.length * 8 : Nat)), (53, .int .i64 0)] _ ⟨rfl, rfl, rfl, rfl, rfl, trivial⟩ (Ent.refl _) ⟨0, by omega, rfl, rfl, by have ez := tailQ_zero (N := m.length * 8) (endP_len m); first | (rw [ez]; done) | (rw [ez]; rfl)⟩ ?_
  rintro mm e L ⟨i, hi, rfl, rfl, rfl⟩
  conv=>whnf
  refine CondG.dec (fun h9 => ?_) (fun h9 => ?_)
  ·have hi8 : i < 8 := by omega
   conv=>whnf
   refine ArithG.i64 (by omega) ?_
   conv=>whnf
   refine ArithG.i64 (by omega) ?_
   conv=>whnf
   refine SideG.of (by omega) ?_
   conv=>whnf
   refine ArithG.all ?_
   conv=>whnf
   refine SideG.of (by omega) ?_
   conv=>whnf
   have ex := shr_b (m.length * 8) i hi8
   refine StoreG.at rfl (Upd.here (by rw [bvs_len, tailQ_len (endP_len m) (by omega)]; omega) rfl) ?_
   conv=>whnf
   refine ArithG.i64 (by omega) ?_
   conv=>whnf
   refine ⟨8 - (i + 1), _, _, by omega, ?_, Ent.refl _, i + 1, by omega, rfl, rfl, ?_⟩
   ·exact ⟨rfl, rfl, rfl, rfl, rfl, trivial⟩
   rw [show 0 + (63 - (i : Int)).toNat * 1 = 63 - i by omega, ← tailQ_set (endP_len m) hi8]
   show [cel b8 176 ((bvs (tailQ (endP m) (m.length * 8) i)).set (63 - i) (.int .u8 (IntKind.u8.wrap (((m.length * 8 : Nat) : Int).fdiv (2 ^ (min (8 * (i : Int)).toNat 64)))))), _, _, _] = _
   rw [ex]
   rfl
  obtain rfl : i = 8 := by omega
  rw [tailQ_end]
  conv=>whnf
  refine LoadNG.at (vs := wvs (endS K m)) (by rw [wvs_len, hel]) (.tl .all) ?_
  conv=>whnf
  refine LoadNG.at (vs := bvs (endQ m)) (by rw [bvs_len, endQ_len]) .all ?_
  conv=>whnf
  refine CallG.pure (take_spec _ K (endS K m) (endQ m) (.right hK _) hk hel (endQ_len m) (endQ_byte hb)) ?_
  rintro _ _ ⟨rfl, rfl⟩
  conv=>whnf
  have hfl := takeS_len (K := K) (p := endQ m) hel
  refine StoreG.at (by rw [wvs_len, hfl]) (Upd.tl (Upd.whole (by rw [wvs_len, hfl, wvs_len, hel]) (wvs_one _))) ?_
  conv=>whnf
  intro b12
  conv=>whnf
  refine LoopG.mk (fun mm e L => ∃ i, i ≤ 32 ∧ mm = 32 - i ∧ e = [(6, .pointer (some ⟨b6, 0, none⟩)), (7, .pointer (some ⟨b7, 0, none⟩)), (12, .pointer (some ⟨b12, 0, none⟩)), (68, .int .i64 i)] ∧
   L = [cel b12 46 (bvs (fillB (fun i => ((takeS K (endS K m) (endQ m)).getD (i / 4) 0 >>> (24 - 8 * (i % 4))).toNat % 256) 32 i)), cel b8 176 (bvs (endQ m)), cel b7 174 (wvs (takeS K (endS K m) (endQ m))), cel b6 46 (bvs (List.replicate 32 0)), cel h 178 (hC s wait m.length)]) 32
   [(6, .pointer (some ⟨b6, 0, none⟩)), (7, .pointer (some ⟨b7, 0, none⟩)), (12, .pointer (some ⟨b12, 0, none⟩)), (68, .int .i64 0)] _ ⟨rfl, rfl, rfl, rfl, trivial⟩ (Ent.refl _) ⟨0, by omega, rfl, rfl, by rw [fillB_zero]; rfl⟩ ?_
  rintro mm e L ⟨i, hi, rfl, rfl, rfl⟩
  conv=>whnf
  refine CondG.dec (fun h9 => ?_) (fun h9 => ?_)
  ·have hi8 : i < 32 := by omega
   have hq : (i : Int).tdiv 4 = ((i / 4 : Nat) : Int) := rfl
   have hr : (i : Int).tmod 4 = ((i % 4 : Nat) : Int) := rfl
   conv=>whnf
   refine SideG.of (by decide) ?_
   conv=>whnf
   refine ArithG.i64' _ hq (by omega) ?_
   conv=>whnf
   refine SideG.of (by omega) ?_
   conv=>whnf
   have hg : (wvs (takeS K (endS K m) (endQ m)))[0 + ((i / 4 : Nat) : Int).toNat * 1]? = some (wv ((takeS K (endS K m) (endQ m)).getD (i / 4) 0)) := by
    rw [show 0 + ((i / 4 : Nat) : Int).toNat * 1 = i / 4 by omega]
    simp [wvs, List.getD, List.getElem?_eq_getElem (by omega : i / 4 < (takeS K (endS K m) (endQ m)).length)]
   refine LoadG.at (.tl (.tl (.here hg))) ?_
   conv=>whnf
   refine SideG.of (by decide) ?_
   conv=>whnf
   rw [hr]
   refine ArithG.i64 (by omega) ?_
   conv=>whnf
   refine ArithG.i64 (by omega) ?_
   conv=>whnf
   refine SideG.of (by omega) ?_
   conv=>whnf
   refine ArithG.all ?_
   conv=>whnf
   refine SideG.of (by omega) ?_
   conv=>whnf
   have ex := shr_d ((takeS K (endS K m) (endQ m)).getD (i / 4) 0) i
   refine StoreG.at rfl (Upd.here (by simp [bvs_len, fillB_len]; omega) rfl) ?_
   conv=>whnf
   refine ArithG.i64 (by omega) ?_
   conv=>whnf
   refine ⟨32 - (i + 1), _, _, by omega, ?_, Ent.refl _, i + 1, by omega, rfl, rfl, ?_⟩
   ·exact ⟨rfl, rfl, rfl, rfl, trivial⟩
   rw [show 0 + (i : Int).toNat * 1 = i by omega, ← fillB_set _ hi8]
   show [cel b12 46 ((bvs (fillB _ 32 i)).set i (.int .u8 (IntKind.u8.wrap ((((takeS K (endS K m) (endQ m)).getD (i / 4) 0).toNat : Int).fdiv (2 ^ (min (24 - 8 * ((i % 4 : Nat) : Int)).toNat 32)))))), _, _, _, _] = _
   rw [ex]
   rfl
  obtain rfl : i = 32 := by omega
  rw [fillB_all]
  conv=>whnf
  refine LoadNG.at (vs := bvs (dig K m)) (by rw [bvs_len, dig_len]) .all ?_
  conv=>whnf
  refine StoreG.at (by rw [bvs_len, dig_len]) (Upd.tl (Upd.tl (Upd.tl (Upd.whole (by rw [bvs_len, dig_len]; rfl) (bvs_one _))))) ?_
  conv=>whnf
  refine LoadNG.at (vs := bvs (dig K m)) (by rw [bvs_len, dig_len]) (.tl (.tl (.tl .all))) ?_
  conv=>whnf
  exact ⟨_, Ent.sel (T := []) (A := [_, _, _, _, _]) [4] rfl, rfl, rfl⟩
theorem hsum_spec (F : List HP) (K : List W32) (hK : CelN F 0 0 (wvs K)) (hk : K.length = 64) (h : Nat) (m : List Nat) (s : List W32) (wait : List Nat) (hH : Hs K m s wait) (hm : m.length ≤ 1152921504606846976) (hb : ∀ b ∈ m, b < 256) :
 SpecF Tryd.prog 97 [.pointer (some ⟨h, 0, none⟩)] F [cel h 178 (hC s wait m.length)] (fun v L => v = .agg ⟨bvs (dig K m)⟩ ∧ L = [cel h 178 (hC s wait m.length)]) := by
 refine fun97.spec rfl ?_
 conv=>whnf
 intro b2
 conv=>whnf
 refine CallG.of (rest := [cel b2 46 (bvs (List.replicate 32 0))]) (end_spec _ K (.right hK _) hk h m s wait hH hm hb) (Ent.perm (List.Perm.swap _ _ _)) ?_
 rintro _ _ ⟨rfl, rfl⟩
 conv=>whnf
 refine StoreG.at (by rw [bvs_len, dig_len]) (Upd.tl (Upd.whole (by rw [bvs_len, dig_len]; rfl) (bvs_one _))) ?_
 conv=>whnf
 refine LoadNG.at (vs := bvs (dig K m)) (by rw [bvs_len, dig_len]) (.tl .all) ?_
 conv=>whnf
 exact ⟨_, Ent.sel (T := []) (A := [_, _]) [0] rfl, rfl, rfl⟩
theorem dparts_spec (F : List HP) (K : List W32) (hK : CelN F 0 0 (wvs K)) (hk : K.length = 64) (v : Value) (ps : List (List Nat)) (hp : RdParts F v ps) (hn : ps.length ≤ 1152921504606846976) (hm : sumL ps ≤ 1152921504606846976) (hb : ∀ l ∈ ps, ∀ b ∈ l, b < 256) :
 SpecF Tryd.prog 81 [v] F [] (fun r L => r = .agg ⟨bvs (dig K ps.flatten)⟩ ∧ L = []) := by
 obtain ⟨us, hus, hul, hps⟩ := hp.out
 have hbf : ∀ b ∈ ps.flatten, b < 256 := fun b h => by
  obtain ⟨l, hl, hbl⟩ := List.mem_flatten.1 h
  exact hb l hl b hbl
 refine fun81.spec rfl ?_
 conv=>whnf
 intro b2
 conv=>whnf
 refine CallG.pure (hnew_spec _) ?_
 rintro _ _ ⟨h, rfl, rfl⟩
 conv=>whnf
 refine LenG.rd hus ?_
 conv=>whnf
 refine LoopG.mk (fun mm e L => ∃ i s wait, i ≤ ps.length ∧ Hs K (ps.take i).flatten s wait ∧ mm = ps.length - i ∧ e = [(2, .pointer (some ⟨b2, 0, none⟩)), (3, .pointer (some ⟨h, 0, none⟩)), (7, v), (8, .int .i64 ps.length), (9, .int .i64 i)] ∧
  L = [cel h 178 (hC s wait (ps.take i).flatten.length), cel b2 46 (bvs (List.replicate 32 0))]) ps.length
  [(2, .pointer (some ⟨b2, 0, none⟩)), (3, .pointer (some ⟨h, 0, none⟩)), (7, v), (8, .int .i64 ps.length), (9, .int .i64 0)] _ ⟨rfl, rfl, rfl, rfl, rfl, trivial⟩ (Ent.refl _) ⟨0, ivW, List.replicate 64 0, by omega, Hs.begin K, rfl, rfl, rfl⟩ ?_
 rintro mm e L ⟨i, s, wait, hi, hH, rfl, rfl, rfl⟩
 conv=>whnf
 refine CondG.dec (fun h1 => ?_) (fun h1 => ?_)
 ·have hi' : i < ps.length := by omega
  obtain ⟨x, hx, hxr⟩ := hps i hi'
  have hle := sum_le ps (i + 1)
  have hst := sum_take hi'
  conv=>whnf
  refine IdxG.rd hus (by omega) fun c o hc => ?_
  conv=>whnf
  refine LoadG.atF (v := x) (hc.one (i := (i : Int).toNat * 1) (by simpa using hx)) ?_
  conv=>whnf
  refine CallG.of (pre := [cel h 178 (hC s wait (ps.take i).flatten.length)]) (rest := [cel b2 46 (bvs (List.replicate 32 0))]) (write_spec _ K (.right hK _) hk h _ ps[i] s wait x hH (.right hxr _) (hb _ (List.getElem_mem hi')) (by simp only [sumL] at hle hst hm; omega)) (Ent.refl _) ?_
  rintro _ _ ⟨s', wait', hH', rfl⟩
  conv=>whnf
  refine ArithG.i64 (by omega) ?_
  conv=>whnf
  have ef : (ps.take i).flatten ++ ps[i] = (ps.take (i + 1)).flatten := by
   rw [List.take_succ_eq_append_getElem hi', List.flatten_append]; simp
  rw [ef] at hH' ⊢
  refine ⟨ps.length - (i + 1), _, _, by omega, ?_, Ent.refl _, i + 1, s', wait', by omega, hH', rfl, rfl, rfl⟩
  exact ⟨rfl, rfl, rfl, rfl, rfl, trivial⟩
 ·obtain rfl : i = ps.length := by omega
  rw [List.take_length] at hH ⊢
  conv=>whnf
  refine CallG.of (pre := [cel h 178 (hC s wait ps.flatten.length)]) (rest := [cel b2 46 (bvs (List.replicate 32 0))]) (hsum_spec _ K (.right hK _) hk h _ s wait hH hm hbf) (Ent.refl _) ?_
  rintro _ _ ⟨rfl, rfl⟩
  conv=>whnf
  refine StoreG.at (by rw [bvs_len, dig_len]) (Upd.tl (Upd.whole (by rw [bvs_len, dig_len]; rfl) (bvs_one _))) ?_
  conv=>whnf
  refine LoadNG.at (vs := bvs (dig K ps.flatten)) (by rw [bvs_len, dig_len]) (.tl .all) ?_
  conv=>whnf
  exact ⟨[], Ent.nil _, rfl, rfl⟩
theorem dsum_spec (F : List HP) (K : List W32) (hK : CelN F 0 0 (wvs K)) (hk : K.length = 64) (v : Value) (bs : List Nat) (hv : RdS F v bs.length (bvs bs)) (hm : bs.length ≤ 1152921504606846976) (hb : ∀ b ∈ bs, b < 256) :
 SpecF Tryd.prog 63 [v] F [] (fun r L => r = .agg ⟨bvs (dig K bs)⟩ ∧ L = []) := by
 obtain ⟨va, vc, hve⟩ := hv.len
 subst hve
 refine fun63.spec rfl ?_
 conv=>whnf
 intro b2
 conv=>whnf
 refine BuildG.of rfl ?_
 conv=>whnf
 intro b3
 conv=>whnf
 refine CallG.pure (dparts_spec _ K (.right hK _) hk _ [bs] (RdParts.one (.tl (hv))) (by simp) (by simpa [sumL] using hm) (by simpa using hb)) ?_
 rintro _ _ ⟨rfl, rfl⟩
 simp only [List.flatten_cons, List.flatten_nil, List.append_nil]
 conv=>whnf
 refine StoreG.at (by rw [bvs_len, dig_len]) (Upd.tl (Upd.whole (by rw [bvs_len, dig_len]; rfl) (bvs_one _))) ?_
 conv=>whnf
 refine LoadNG.at (vs := bvs (dig K bs)) (by rw [bvs_len, dig_len]) (.tl .all) ?_
 conv=>whnf
 exact ⟨[], Ent.nil _, rfl, rfl⟩
end Go.Proofs.YtjkldhalmglkpaaDoor
