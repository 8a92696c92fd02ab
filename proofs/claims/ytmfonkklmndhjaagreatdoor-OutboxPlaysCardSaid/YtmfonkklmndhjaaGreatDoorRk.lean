import Derived.Test.YtmfonkklmndhjaaGreatDoorOc
import Derived.Test.YtmfonkklmndhjaaGreatDoorZTt
namespace Go.Proofs.YtmfonkklmndhjaaGreatDoor
open Go Go.Sl
section
variable (K : List W32) (hk : K.length = 64)
include hk
theorem rleafT_spec (F : List HP) (hC' : CelN F 3 0 (wvs K)) (hB : CelN F 2 0 (wvs ivW)) (v : Value) (bs : List Nat) (hv : RdS F v bs.length (bvs bs)) (hl : bs.length ≤ 4096) (hb : ∀ b ∈ bs, b < 256) :
 SpecF Tryz.prog 73 [v] F [] (fun r L => r = .agg ⟨bvs (leafT K bs)⟩ ∧ L = []) := by
 refine fun73.spec rfl ?_
 conv=>whnf
 intro b2
 conv=>whnf
 refine CallG.pure (ltext_spec _ v bs (.right hv _) (by omega)) ?_
 rintro q _ ⟨hq, rfl⟩
 conv=>whnf
 refine CallG.pure (rsum_spec _ K (.right hC' _) (.right hB _) hk q (0 :: bs) (.left (own_rd hq (by rw [bvs_len, Nat.mul_one])) _) (by simp; omega) (by intro b h; rcases List.mem_cons.1 h with rfl | h; decide; exact hb b h)) ?_
 rintro _ _ ⟨rfl, rfl⟩
 conv=>whnf
 refine StoreG.at (by rw [bvs_len, dig_len]) (Upd.tl (Upd.whole (by rw [bvs_len, dig_len]; rfl) (bvs_one _))) ?_
 conv=>whnf
 refine LoadNG.at (vs := bvs (leafT K bs)) (by rw [bvs_len]; exact dig_len _ _) (.tl .all) ?_
 conv=>whnf
 exact ⟨[], Ent.nil _, rfl, rfl⟩
theorem rnodeT_spec (F : List HP) (hC' : CelN F 3 0 (wvs K)) (hB : CelN F 2 0 (wvs ivW)) (a b : List Nat) (ha : DigOk a) (hb : DigOk b) :
 SpecF Tryz.prog 74 [.agg ⟨bvs a⟩, .agg ⟨bvs b⟩] F [] (fun r L => r = .agg ⟨bvs (nodeD K a b)⟩ ∧ L = []) := by
 have ha32 : (bvs a).length = 32 := by rw [bvs_len, ha.len]
 have hb32 : (bvs b).length = 32 := by rw [bvs_len, hb.len]
 refine fun74.spec rfl ?_
 conv=>whnf
 intro b2
 conv=>whnf
 intro b3
 conv=>whnf
 intro b4
 conv=>whnf
 refine LoadNG.at (vs := bvs a) ha32 (.tl (.tl .all)) ?_
 conv=>whnf
 refine LoadNG.at (vs := bvs b) hb32 (.tl .all) ?_
 conv=>whnf
 refine CallG.pure (ntext_spec _ a b ha.len hb.len) ?_
 rintro q _ ⟨hq, rfl⟩
 conv=>whnf
 refine CallG.pure (rsum_spec _ K (.right hC' _) (.right hB _) hk q (1 :: (a ++ b)) (.left (own_rd hq (by rw [bvs_len, Nat.mul_one])) _) (by simp [ha.len, hb.len]) (by
  intro x h
  rcases List.mem_cons.1 h with rfl | h
  ·decide
  ·rcases List.mem_append.1 h with h | h
   ·exact ha.byte x h
   ·exact hb.byte x h)) ?_
 rintro _ _ ⟨rfl, rfl⟩
 conv=>whnf
 refine StoreG.at (by rw [bvs_len, dig_len]) (Upd.tl (Upd.whole (by rw [bvs_len, dig_len]; rfl) (bvs_one _))) ?_
 conv=>whnf
 refine LoadNG.at (vs := bvs (nodeD K a b)) (by rw [bvs_len]; exact dig_len _ _) (.tl .all) ?_
 conv=>whnf
 exact ⟨[], Ent.nil _, rfl, rfl⟩
end
end Go.Proofs.YtmfonkklmndhjaaGreatDoor
