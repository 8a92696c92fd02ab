import Derived.Test.YtmfonkklmndhjaaGreatDoorSd
import Derived.Test.YtmfonkklmndhjaaGreatDoorZBk
namespace Go.Proofs.YtmfonkklmndhjaaGreatDoor
open Go Go.Sl
theorem shr64 (x k : Nat) (hk : k ≤ 64) : (x : Int).fdiv (2 ^ (min ((k : Nat) : Int).toNat IntKind.u64.bits)) = ((x / 2 ^ k : Nat) : Int) := by
 have e : min ((k : Nat) : Int).toNat IntKind.u64.bits = k := by
  rw [Int.toNat_natCast]
  exact Nat.min_eq_left hk
 rw [e, Int.fdiv_eq_ediv_of_nonneg _ (by exact_mod_cast Nat.zero_le _)]
 norm_cast
theorem digsT : ElT Tryz.prog 109 81 32 32 := .of (by kernel_rfl)
theorem digs_len {ds : List (List Nat)} (h : ∀ d ∈ ds, d.length = 32) : (digsC ds).length = ds.length * 32 := flat_len fun d hd => by rw [bvs_len, h d hd]
section
variable (K : List W32) (hk : K.length = 64)
include hk
theorem tleaf_spec (F : List HP) (hK : CelN F 4 0 (wvs K)) (v : Value) (bs : List Nat) (hv : RdS F v bs.length (bvs bs)) (hl : bs.length ≤ 1099511627776) (hb : ∀ b ∈ bs, b < 256) :
 SpecF Tryz.prog 65 [v] F [] (fun r L => r = .agg ⟨bvs (leafT K bs)⟩ ∧ L = []) := by
 obtain ⟨va, vc, hve⟩ := hv.len
 subst hve
 refine fun65.spec rfl ?_
 conv=>whnf
 intro b2
 conv=>whnf
 refine BuildG.of rfl ?_
 conv=>whnf
 intro b3
 conv=>whnf
 refine BuildG.of rfl ?_
 conv=>whnf
 intro b5
 conv=>whnf
 refine CallG.pure (dparts_spec _ K (.right hK _) hk _ [[0], bs] ?_ (by simp) (by simp [sumL]; omega) ?_) ?_
 ·refine ⟨[_, _], .mk _ _ _ _ _ (Nat.le_refl _) (.left .all F), rfl, fun i h => ?_⟩
  match i, h with
  | 0, _ => exact ⟨_, rfl, .mk _ _ _ _ _ (Nat.le_refl _) (.left (.tl .all) F)⟩
  | 1, _ => exact ⟨_, rfl, .right hv _⟩
 ·intro l hl b hbl
  simp only [List.mem_cons, List.not_mem_nil, or_false] at hl
  rcases hl with rfl | rfl
  ·simp at hbl; omega
  ·exact hb b hbl
 rintro _ _ ⟨rfl, rfl⟩
 have e : [[0], bs].flatten = 0 :: bs := by simp
 rw [e]
 conv=>whnf
 refine StoreG.at (by rw [bvs_len, dig_len]) (Upd.tl (Upd.tl (Upd.whole (by rw [bvs_len, dig_len]; rfl) (bvs_one _)))) ?_
 conv=>whnf
 refine LoadNG.at (vs := bvs (dig K (0 :: bs))) (by rw [bvs_len, dig_len]) (.tl (.tl .all)) ?_
 conv=>whnf
 exact ⟨[], Ent.nil _, rfl, rfl⟩
theorem none_spec (F : List HP) (hK : CelN F 4 0 (wvs K)) : SpecF Tryz.prog 81 [] F [] (fun r L => r = .agg ⟨bvs (dig K [])⟩ ∧ L = []) := by
 refine fun81.spec rfl ?_
 conv=>whnf
 intro b2
 conv=>whnf
 refine CallG.pure (dsum_spec _ K (.right hK _) hk _ [] .nil (by simp) (by simp)) ?_
 rintro _ _ ⟨rfl, rfl⟩
 conv=>whnf
 refine StoreG.at (by rw [bvs_len, dig_len]) (Upd.whole (by rw [bvs_len, dig_len]; rfl) (bvs_one _)) ?_
 conv=>whnf
 refine LoadNG.at (vs := bvs (dig K [])) (by rw [bvs_len, dig_len]) .all ?_
 conv=>whnf
 exact ⟨[], Ent.nil _, rfl, rfl⟩
theorem node_spec (F : List HP) (hK : CelN F 4 0 (wvs K)) (a b : List Nat) (ha : a.length = 32) (hb : b.length = 32) (ha' : ∀ x ∈ a, x < 256) (hb' : ∀ x ∈ b, x < 256) :
 SpecF Tryz.prog 67 [.agg ⟨bvs a⟩, .agg ⟨bvs b⟩] F [] (fun r L => r = .agg ⟨bvs (nodeD K a b)⟩ ∧ L = []) := by
 refine fun67.spec rfl ?_
 conv=>whnf
 intro b2
 conv=>whnf
 intro b3
 conv=>whnf
 intro b4
 conv=>whnf
 refine DrawG.mk 5 [cel b4 81 (bvs (List.replicate 32 0)), cel b3 81 (bvs b), cel b2 81 (bvs a)] [] (Ent.refl _) ?_
 conv=>whnf
 refine .take 1 ?_
 conv=>whnf
 refine ⟨rfl, ?_⟩
 conv=>whnf
 refine SideG.of (by decide) ?_
 conv=>whnf
 refine SliceG.zero ?_
 conv=>whnf
 refine .take 2 ?_
 conv=>whnf
 refine ⟨rfl, ?_⟩
 conv=>whnf
 refine SideG.of (by decide) ?_
 conv=>whnf
 refine SliceG.zero ?_
 conv=>whnf
 refine .all ?_
 conv=>whnf
 refine ⟨by decide, ?_⟩
 conv=>whnf
 refine BuildG.of rfl ?_
 conv=>whnf
 intro b5
 conv=>whnf
 refine .all ?_
 conv=>whnf
 refine ⟨by decide, ?_⟩
 conv=>whnf
 refine BuildG.of rfl ?_
 conv=>whnf
 intro b8
 conv=>whnf
 refine .all ?_
 conv=>whnf
 refine ⟨by decide, ?_⟩
 conv=>whnf
 refine CallG.pure (dparts_spec _ K (.right (.right hK _) _) hk _ [[1], a, b] ?_ (by simp) (by simp [sumL]; omega) ?_) ?_
 ·refine ⟨[_, _, _], .mk _ _ _ _ _ (Nat.le_refl _) (.left .all _), rfl, fun i h => ?_⟩
  match i, h with
  | 0, _ => exact ⟨_, rfl, .mk _ _ _ _ _ (Nat.le_refl _) (.left (.tl .all) _)⟩
  | 1, _ => exact ⟨_, rfl, by rw [show [[1], a, b][1] = a from rfl, ha]; exact .mk _ _ _ _ _ (Nat.le_refl _) (.right (.left (.tl (.tl .all)) F) _)⟩
  | 2, _ => exact ⟨_, rfl, by rw [show [[1], a, b][2] = b from rfl, hb]; exact .mk _ _ _ _ _ (Nat.le_refl _) (.right (.left (.tl .all) F) _)⟩
 ·intro l hl x hx
  simp only [List.mem_cons, List.not_mem_nil, or_false] at hl
  rcases hl with rfl | rfl | rfl
  ·simp at hx; omega
  ·exact ha' x hx
  ·exact hb' x hx
 rintro _ _ ⟨rfl, rfl⟩
 have e : [[1], a, b].flatten = 1 :: (a ++ b) := by simp
 rw [e]
 conv=>whnf
 refine .all ?_
 conv=>whnf
 refine ⟨by decide, ?_⟩
 conv=>whnf
 refine ⟨rfl, ?_⟩
 conv=>whnf
 refine StoreG.at (by rw [bvs_len, dig_len]) (Upd.tl (Upd.tl (Upd.whole (by rw [bvs_len, dig_len]; rfl) (bvs_one _)))) ?_
 conv=>whnf
 refine ⟨rfl, ?_⟩
 conv=>whnf
 refine LoadNG.at (vs := bvs (dig K (1 :: (a ++ b)))) (by rw [bvs_len, dig_len]) (.tl (.tl .all)) ?_
 conv=>whnf
 exact ⟨[], Ent.nil _, rfl, rfl⟩
end
end Go.Proofs.YtmfonkklmndhjaaGreatDoor
