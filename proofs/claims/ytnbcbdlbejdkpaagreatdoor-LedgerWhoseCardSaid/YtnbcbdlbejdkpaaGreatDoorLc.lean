import Derived.Test.YtnbcbdlbejdkpaaGreatDoorGp
import Derived.Test.YtnbcbdlbejdkpaaGreatDoorZLm
import Derived.Test.YtnbcbdlbejdkpaaGreatDoorZLp
import Derived.Test.YtnbcbdlbejdkpaaGreatDoorZGv
import Derived.Test.YtnbcbdlbejdkpaaGreatDoorZDg
import Derived.Test.YtnbcbdlbejdkpaaGreatDoorZKc
namespace Go.Proofs.YtnbcbdlbejdkpaaGreatDoor
open Go Go.Sl
theorem add_run0 (x y : Nat) (w : World) : (extSem Tryz.prog 129 #[.int .u64 (x : Nat), .int .u64 (y : Nat), .int .u64 (0 : Nat)]).run Tryz.prog w = .ok (.tuple #[.int .u64 (((x + y + 0) % m64 : Nat) : Int), .int .u64 (((x + y + 0) / m64 : Nat) : Int)]) w := by kernel_rfl
theorem add_run1 (x y : Nat) (w : World) : (extSem Tryz.prog 129 #[.int .u64 (x : Nat), .int .u64 (y : Nat), .int .u64 (1 : Nat)]).run Tryz.prog w = .ok (.tuple #[.int .u64 (((x + y + 1) % m64 : Nat) : Int), .int .u64 (((x + y + 1) / m64 : Nat) : Int)]) w := by kernel_rfl
theorem add_run (x y c : Nat) (hc : c ≤ 1) (w : World) : (extSem Tryz.prog 129 #[.int .u64 x, .int .u64 y, .int .u64 c]).run Tryz.prog w = .ok (.tuple #[.int .u64 (((x + y + c) % m64 : Nat) : Int), .int .u64 (((x + y + c) / m64 : Nat) : Int)]) w := by
 have : c = 0 ∨ c = 1 := by omega
 rcases this with rfl | rfl
 ·exact add_run0 x y w
 ·exact add_run1 x y w
theorem sub_run0 (x y : Nat) (w : World) : (extSem Tryz.prog 136 #[.int .u64 (x : Nat), .int .u64 (y : Nat), .int .u64 (0 : Nat)]).run Tryz.prog w = .ok (.tuple #[.int .u64 (((x + m64 - y - 0) % m64 : Nat) : Int), .int .u64 ((if x < y + 0 then 1 else 0 : Nat) : Int)]) w := by kernel_rfl
theorem sub_run1 (x y : Nat) (w : World) : (extSem Tryz.prog 136 #[.int .u64 (x : Nat), .int .u64 (y : Nat), .int .u64 (1 : Nat)]).run Tryz.prog w = .ok (.tuple #[.int .u64 (((x + m64 - y - 1) % m64 : Nat) : Int), .int .u64 ((if x < y + 1 then 1 else 0 : Nat) : Int)]) w := by kernel_rfl
theorem sub_run (x y c : Nat) (hc : c ≤ 1) (w : World) : (extSem Tryz.prog 136 #[.int .u64 x, .int .u64 y, .int .u64 c]).run Tryz.prog w = .ok (.tuple #[.int .u64 (((x + m64 - y - c) % m64 : Nat) : Int), .int .u64 ((if x < y + c then 1 else 0 : Nat) : Int)]) w := by
 have : c = 0 ∨ c = 1 := by omega
 rcases this with rfl | rfl
 ·exact sub_run0 x y w
 ·exact sub_run1 x y w
theorem uvs_at {a : List Nat} {i : Nat} (h : i < a.length) : (uvs a)[i]? = some (.int .u64 (a.getD i 0)) := by
 simp [uvs, uv, h]
def addR (a b : List Nat) : List Nat × Int := if m256 ≤ nat4 a + nat4 b then (z4, 22) else (addL a b, 0)
def subR (a b : List Nat) : List Nat × Int := if nat4 a < nat4 b then (z4, 23) else (subL a b, 0)
theorem add_spec (F : List HP) (a b : List Nat) (ha : wOk a) (hb : wOk b) : SpecF Tryz.prog 89 [.agg ⟨uvs a⟩, .agg ⟨uvs b⟩] F [] (fun r L => r = .tuple #[.agg ⟨uvs (addR a b).1⟩, .int .i64 (addR a b).2] ∧ L = []) := by
 have la := ha.len
 have lb := hb.len
 refine fun89.spec rfl ?_
 conv=>whnf
 intro b2
 conv=>whnf
 intro b3
 conv=>whnf
 intro b4
 conv=>whnf
 intro b6
 conv=>whnf
 refine LoopG.mk (fun mm e L => ∃ i, i ≤ 4 ∧ mm = 4 - i ∧ e = [(2, .pointer (some ⟨b2, 0, none⟩)), (3, .pointer (some ⟨b3, 0, none⟩)), (4, .pointer (some ⟨b4, 0, none⟩)), (6, .pointer (some ⟨b6, 0, none⟩)), (7, .int .u64 (sumC a b i)), (9, .int .i64 i)] ∧
   L = [cel b6 38 (uvs (outA (sumO a b) i)), cel b4 38 (uvs z4), cel b3 38 (uvs b), cel b2 38 (uvs a)]) 4
  [(2, .pointer (some ⟨b2, 0, none⟩)), (3, .pointer (some ⟨b3, 0, none⟩)), (4, .pointer (some ⟨b4, 0, none⟩)), (6, .pointer (some ⟨b6, 0, none⟩)), (7, .int .u64 (sumC a b 0)), (9, .int .i64 0)] _ ⟨rfl, rfl, rfl, rfl, rfl, rfl, trivial⟩ (Ent.refl _) ⟨0, by omega, rfl, rfl, rfl⟩ ?_
 rintro mm e L ⟨i, hi, rfl, rfl, rfl⟩
 conv=>whnf
 refine CondG.dec (fun h => ?_) (fun h => ?_)
 ·have hi4 : i < 4 := by omega
  have hc1 := sumC_le ha hb i
  conv=>whnf
  refine DrawG.mk 15 [cel b4 38 (uvs z4), cel b3 38 (uvs b), cel b2 38 (uvs a)] [cel b6 38 (uvs (outA (sumO a b) i))] (Ent.refl _) ?_
  conv=>whnf
  refine .take 0 ?_
  conv=>whnf
  refine ⟨rfl, ?_⟩
  conv=>whnf
  refine .take 1 ?_
  conv=>whnf
  refine ⟨rfl, ?_⟩
  conv=>whnf
  refine .take 2 ?_
  conv=>whnf
  refine ⟨rfl, ?_⟩
  conv=>whnf
  refine SideG.of (by omega) ?_
  conv=>whnf
  refine .take 3 ?_
  conv=>whnf
  refine ⟨rfl, ?_⟩
  conv=>whnf
  refine LoadG.at (v := .int .u64 (a.getD i 0)) (.tl (.tl (.here (by rw [show 0 + ((i : Nat) : Int).toNat * 1 = i by omega]; exact uvs_at (by omega))))) ?_
  conv=>whnf
  refine .take 4 ?_
  conv=>whnf
  refine ⟨rfl, ?_⟩
  conv=>whnf
  refine .take 5 ?_
  conv=>whnf
  refine ⟨rfl, ?_⟩
  conv=>whnf
  refine SideG.of (by omega) ?_
  conv=>whnf
  refine .take 6 ?_
  conv=>whnf
  refine ⟨rfl, ?_⟩
  conv=>whnf
  refine LoadG.at (v := .int .u64 (b.getD i 0)) (.tl (.here (by rw [show 0 + ((i : Nat) : Int).toNat * 1 = i by omega]; exact uvs_at (by omega)))) ?_
  conv=>whnf
  refine .take 7 ?_
  conv=>whnf
  refine ⟨rfl, ?_⟩
  conv=>whnf
  refine .all ?_
  conv=>whnf
  refine ⟨by decide, ?_⟩
  conv=>whnf
  refine ⟨fun w hs => ⟨_, _, w, add_run _ _ _ hc1 w, Ext.refl w, hs, ?_⟩⟩
  conv=>whnf
  refine .take 9 ?_
  conv=>whnf
  refine ⟨rfl, ?_⟩
  conv=>whnf
  refine .take 10 ?_
  conv=>whnf
  refine ⟨rfl, ?_⟩
  conv=>whnf
  refine .take 11 ?_
  conv=>whnf
  refine ⟨rfl, ?_⟩
  conv=>whnf
  refine .take 12 ?_
  conv=>whnf
  refine ⟨rfl, ?_⟩
  conv=>whnf
  refine SideG.of (by omega) ?_
  conv=>whnf
  refine .all ?_
  conv=>whnf
  refine ⟨by decide, ?_⟩
  conv=>whnf
  refine StoreG.at (cs := [_]) rfl (Upd.here (by rw [uvs_len, outA_len]; omega) rfl) ?_
  conv=>whnf
  refine .take 14 ?_
  conv=>whnf
  refine ⟨rfl, ?_⟩
  conv=>whnf
  refine ⟨rfl, ?_⟩
  conv=>whnf
  refine ArithG.i64 (by omega) ?_
  conv=>whnf
  have ex : (uvs (outA (sumO a b) i)).set i (.int .u64 (sumO a b i)) = uvs (outA (sumO a b) (i + 1)) := by
   rw [← outA_set (sumO a b) hi4]
   simp [uvs, uv, List.map_set]
  refine ⟨4 - (i + 1), _, [cel b6 38 (uvs (outA (sumO a b) (i + 1))), cel b4 38 (uvs z4), cel b3 38 (uvs b), cel b2 38 (uvs a)], by omega, ?_, ?_, i + 1, by omega, rfl, rfl, rfl⟩
  ·exact ⟨rfl, rfl, rfl, rfl, rfl, rfl, trivial⟩
  ·rw [← ex]
   rw [show 0 + ((i : Nat) : Int).toNat * 1 = i by omega]
   exact Ent.refl _
 obtain rfl : i = 4 := by omega
 conv=>whnf
 refine CondG.dec (fun h1 => ?_) (fun h1 => ?_)
 ·have hm : m256 ≤ nat4 a + nat4 b := (sum_carry ha hb).1 (by omega)
  conv=>whnf
  refine BuildG.of rfl ?_
  conv=>whnf
  refine StoreG.at rfl (Upd.tl (Upd.whole rfl (uvs_one z4))) ?_
  conv=>whnf
  refine LoadNG.at (vs := uvs z4) rfl (.tl .all) ?_
  conv=>whnf
  refine ⟨[], Ent.nil _, ?_, rfl⟩
  rw [addR, if_pos hm]
  rfl
 ·have hm : ¬ m256 ≤ nat4 a + nat4 b := fun h => by
   have := (sum_carry ha hb).2 h
   omega
  have ho := sum_out ha hb (by omega)
  conv=>whnf
  refine LoadNG.at (vs := uvs (outA (sumO a b) 4)) (by rw [uvs_len, outA_len]) .all ?_
  conv=>whnf
  refine StoreG.at (by rw [uvs_len, outA_len]) (Upd.tl (Upd.whole (by rw [uvs_len, outA_len]; rfl) (uvs_one _))) ?_
  conv=>whnf
  refine LoadNG.at (vs := uvs (outA (sumO a b) 4)) (by rw [uvs_len, outA_len]) (.tl .all) ?_
  conv=>whnf
  refine ⟨[], Ent.nil _, ?_, rfl⟩
  rw [addR, if_neg hm, addL, ← ho]
  rfl
theorem sub_spec (F : List HP) (a b : List Nat) (ha : wOk a) (hb : wOk b) : SpecF Tryz.prog 104 [.agg ⟨uvs a⟩, .agg ⟨uvs b⟩] F [] (fun r L => r = .tuple #[.agg ⟨uvs (subR a b).1⟩, .int .i64 (subR a b).2] ∧ L = []) := by
 have la := ha.len
 have lb := hb.len
 refine fun104.spec rfl ?_
 conv=>whnf
 intro b2
 conv=>whnf
 intro b3
 conv=>whnf
 intro b4
 conv=>whnf
 intro b6
 conv=>whnf
 refine LoopG.mk (fun mm e L => ∃ i, i ≤ 4 ∧ mm = 4 - i ∧ e = [(2, .pointer (some ⟨b2, 0, none⟩)), (3, .pointer (some ⟨b3, 0, none⟩)), (4, .pointer (some ⟨b4, 0, none⟩)), (6, .pointer (some ⟨b6, 0, none⟩)), (7, .int .u64 (difC a b i)), (9, .int .i64 i)] ∧
   L = [cel b6 38 (uvs (outA (difO a b) i)), cel b4 38 (uvs z4), cel b3 38 (uvs b), cel b2 38 (uvs a)]) 4
  [(2, .pointer (some ⟨b2, 0, none⟩)), (3, .pointer (some ⟨b3, 0, none⟩)), (4, .pointer (some ⟨b4, 0, none⟩)), (6, .pointer (some ⟨b6, 0, none⟩)), (7, .int .u64 (difC a b 0)), (9, .int .i64 0)] _ ⟨rfl, rfl, rfl, rfl, rfl, rfl, trivial⟩ (Ent.refl _) ⟨0, by omega, rfl, rfl, rfl⟩ ?_
 rintro mm e L ⟨i, hi, rfl, rfl, rfl⟩
 conv=>whnf
 refine CondG.dec (fun h => ?_) (fun h => ?_)
 ·have hi4 : i < 4 := by omega
  have hc1 := difC_le a b i
  conv=>whnf
  refine DrawG.mk 15 [cel b4 38 (uvs z4), cel b3 38 (uvs b), cel b2 38 (uvs a)] [cel b6 38 (uvs (outA (difO a b) i))] (Ent.refl _) ?_
  conv=>whnf
  refine .take 0 ?_
  conv=>whnf
  refine ⟨rfl, ?_⟩
  conv=>whnf
  refine .take 1 ?_
  conv=>whnf
  refine ⟨rfl, ?_⟩
  conv=>whnf
  refine .take 2 ?_
  conv=>whnf
  refine ⟨rfl, ?_⟩
  conv=>whnf
  refine SideG.of (by omega) ?_
  conv=>whnf
  refine .take 3 ?_
  conv=>whnf
  refine ⟨rfl, ?_⟩
  conv=>whnf
  refine LoadG.at (v := .int .u64 (a.getD i 0)) (.tl (.tl (.here (by rw [show 0 + ((i : Nat) : Int).toNat * 1 = i by omega]; exact uvs_at (by omega))))) ?_
  conv=>whnf
  refine .take 4 ?_
  conv=>whnf
  refine ⟨rfl, ?_⟩
  conv=>whnf
  refine .take 5 ?_
  conv=>whnf
  refine ⟨rfl, ?_⟩
  conv=>whnf
  refine SideG.of (by omega) ?_
  conv=>whnf
  refine .take 6 ?_
  conv=>whnf
  refine ⟨rfl, ?_⟩
  conv=>whnf
  refine LoadG.at (v := .int .u64 (b.getD i 0)) (.tl (.here (by rw [show 0 + ((i : Nat) : Int).toNat * 1 = i by omega]; exact uvs_at (by omega)))) ?_
  conv=>whnf
  refine .take 7 ?_
  conv=>whnf
  refine ⟨rfl, ?_⟩
  conv=>whnf
  refine .all ?_
  conv=>whnf
  refine ⟨by decide, ?_⟩
  conv=>whnf
  refine ⟨fun w hs => ⟨_, _, w, sub_run _ _ _ hc1 w, Ext.refl w, hs, ?_⟩⟩
  conv=>whnf
  refine .take 9 ?_
  conv=>whnf
  refine ⟨rfl, ?_⟩
  conv=>whnf
  refine .take 10 ?_
  conv=>whnf
  refine ⟨rfl, ?_⟩
  conv=>whnf
  refine .take 11 ?_
  conv=>whnf
  refine ⟨rfl, ?_⟩
  conv=>whnf
  refine .take 12 ?_
  conv=>whnf
  refine ⟨rfl, ?_⟩
  conv=>whnf
  refine SideG.of (by omega) ?_
  conv=>whnf
  refine .all ?_
  conv=>whnf
  refine ⟨by decide, ?_⟩
  conv=>whnf
  refine StoreG.at (cs := [_]) rfl (Upd.here (by rw [uvs_len, outA_len]; omega) rfl) ?_
  conv=>whnf
  refine .take 14 ?_
  conv=>whnf
  refine ⟨rfl, ?_⟩
  conv=>whnf
  refine ⟨rfl, ?_⟩
  conv=>whnf
  refine ArithG.i64 (by omega) ?_
  conv=>whnf
  have ex : (uvs (outA (difO a b) i)).set i (.int .u64 (difO a b i)) = uvs (outA (difO a b) (i + 1)) := by
   rw [← outA_set (difO a b) hi4]
   simp [uvs, uv, List.map_set]
  refine ⟨4 - (i + 1), _, [cel b6 38 (uvs (outA (difO a b) (i + 1))), cel b4 38 (uvs z4), cel b3 38 (uvs b), cel b2 38 (uvs a)], by omega, ?_, ?_, i + 1, by omega, rfl, rfl, rfl⟩
  ·exact ⟨rfl, rfl, rfl, rfl, rfl, rfl, trivial⟩
  ·rw [← ex]
   rw [show 0 + ((i : Nat) : Int).toNat * 1 = i by omega]
   exact Ent.refl _
 obtain rfl : i = 4 := by omega
 conv=>whnf
 refine CondG.dec (fun h1 => ?_) (fun h1 => ?_)
 ·have hm : nat4 a < nat4 b := (dif_borrow ha hb).1 (by omega)
  conv=>whnf
  refine BuildG.of rfl ?_
  conv=>whnf
  refine StoreG.at rfl (Upd.tl (Upd.whole rfl (uvs_one z4))) ?_
  conv=>whnf
  refine LoadNG.at (vs := uvs z4) rfl (.tl .all) ?_
  conv=>whnf
  refine ⟨[], Ent.nil _, ?_, rfl⟩
  rw [subR, if_pos hm]
  rfl
 ·have hm : ¬ nat4 a < nat4 b := fun h => by
   have := (dif_borrow ha hb).2 h
   omega
  have ho := dif_out ha hb (by omega)
  conv=>whnf
  refine LoadNG.at (vs := uvs (outA (difO a b) 4)) (by rw [uvs_len, outA_len]) .all ?_
  conv=>whnf
  refine StoreG.at (by rw [uvs_len, outA_len]) (Upd.tl (Upd.whole (by rw [uvs_len, outA_len]; rfl) (uvs_one _))) ?_
  conv=>whnf
  refine LoadNG.at (vs := uvs (outA (difO a b) 4)) (by rw [uvs_len, outA_len]) (.tl .all) ?_
  conv=>whnf
  refine ⟨[], Ent.nil _, ?_, rfl⟩
  rw [subR, if_neg hm, subL, ← ho]
  rfl
theorem wread_no (F : List HP) (v : Value) (bs : List Nat) (hb : bs.length ≠ 32) (hv : RdS F v bs.length (bvs bs)) : SpecF Tryz.prog 98 [v] F [] (fun r L => r = .tuple #[.agg ⟨uvs z4⟩, .int .i64 20] ∧ L = []) := by
 refine fun98.spec rfl ?_
 conv=>whnf
 intro b2
 conv=>whnf
 intro b4
 conv=>whnf
 refine LenG.rd hv ?_
 conv=>whnf
 refine CondG.ndec (fun h => ?_) (fun h => absurd (show bs.length = 32 by omega) hb)
 conv=>whnf
 refine LoadNG.at (vs := uvs z4) rfl .all ?_
 conv=>whnf
 refine StoreG.at rfl (Upd.tl (Upd.whole rfl (uvs_one z4))) ?_
 conv=>whnf
 refine LoadNG.at (vs := uvs z4) rfl (.tl .all) ?_
 conv=>whnf
 exact ⟨[], Ent.nil _, rfl, rfl⟩
theorem tokenKey_spec (F : List HP) (t : Nat) (ht : t < 64) : SpecF Tryz.prog 97 [.int .i64 t] F [] (fun r L => r = .string (tokKey t) ∧ L = []) := by
 refine fun97.spec rfl ?_
 conv=>whnf
 refine ArithG.u8 (by omega) ?_
 conv=>whnf
 refine BuildG.of rfl ?_
 conv=>whnf
 intro b5
 conv=>whnf
 refine DoesG.toStr (e := 5) (bs := [116, t]) (by kernel_rfl) (by kernel_rfl) (by kernel_rfl) (.mk _ _ _ _ _ (by simp) (.left .all F)) rfl ?_
 conv=>whnf
 exact ⟨[], Ent.nil _, rfl, rfl⟩
theorem balanceKey_spec (F : List HP) (t : Nat) (ht : t < 64) (a : List Nat) (ha : a.length = 20) : SpecF Tryz.prog 90 [.int .i64 t, .agg ⟨bvs a⟩] F [] (fun r L => r = .string (balKey t a) ∧ L = []) := by
 refine fun90.spec rfl ?_
 conv=>whnf
 intro b3
 conv=>whnf
 refine ArithG.u8 (by omega) ?_
 conv=>whnf
 refine BuildG.of (cs := [.int .u8 98, .int .u8 t]) rfl ?_
 conv=>whnf
 intro b7
 conv=>whnf
 refine SideG.of (by decide) ?_
 conv=>whnf
 refine SliceG.zero ?_
 conv=>whnf
 refine DoesG.ent (own_of_cel (n := 2) (sz := 1) rfl (by decide)) ?_
 refine app_own bytesT 74 (m := 20) (ys := bvs a) (.mk _ _ _ _ _ (by decide) (.tl (.left .all F))) (by rw [bvs_len, ha]) (bvs_one _) (by decide) (by decide) fun r hr hl _ => ?_
 conv=>whnf
 have e : [Value.int .u8 98, .int .u8 t] ++ bvs a = bvs (98 :: t :: a) := rfl
 rw [e] at hl ⊢
 refine DoesG.toStr (e := 5) (bs := 98 :: t :: a) (by kernel_rfl) (by kernel_rfl) (by kernel_rfl) (.left (own_rd hr hl) F) (by simp [ha]) ?_
 conv=>whnf
 exact ⟨[], Ent.nil _, rfl, rfl⟩
theorem allowanceKey_spec (F : List HP) (t : Nat) (ht : t < 64) (o s : List Nat) (ho : o.length = 20) (hs : s.length = 20) : SpecF Tryz.prog 102 [.int .i64 t, .agg ⟨bvs o⟩, .agg ⟨bvs s⟩] F [] (fun r L => r = .string (allKey t o s) ∧ L = []) := by
 refine fun102.spec rfl ?_
 conv=>whnf
 intro b4
 conv=>whnf
 intro b5
 conv=>whnf
 refine DrawG.mk 8 [cel b5 35 (bvs s), cel b4 35 (bvs o)] [] (Ent.refl _) ?_
 conv=>whnf
 refine .take 0 ?_
 conv=>whnf
 refine ⟨rfl, ?_⟩
 conv=>whnf
 refine .take 1 ?_
 conv=>whnf
 refine ⟨rfl, ?_⟩
 conv=>whnf
 refine ArithG.u8 (by omega) ?_
 conv=>whnf
 refine .take 3 ?_
 conv=>whnf
 refine ⟨rfl, ?_⟩
 conv=>whnf
 refine SideG.of (by decide) ?_
 conv=>whnf
 refine SliceG.zero ?_
 conv=>whnf
 refine .take 5 ?_
 conv=>whnf
 refine ⟨rfl, ?_⟩
 conv=>whnf
 refine SideG.of (by decide) ?_
 conv=>whnf
 refine SliceG.zero ?_
 conv=>whnf
 refine .all ?_
 conv=>whnf
 refine ⟨by decide, ?_⟩
 conv=>whnf
 refine BuildG.of (cs := [.int .u8 108, .int .u8 t]) rfl ?_
 conv=>whnf
 intro b9
 conv=>whnf
 refine .all ?_
 conv=>whnf
 refine ⟨by decide, ?_⟩
 conv=>whnf
 refine DoesG.ent (own_of_cel (n := 2) (sz := 1) rfl (by decide)) ?_
 refine app_own bytesT 74 (m := 20) (ys := bvs o) (.mk _ _ _ _ _ (by decide) (.tl (.right (.left (.tl .all) F) _))) (by rw [bvs_len, ho]) (bvs_one _) (by decide) (by decide) fun r hr hl _ => ?_
 conv=>whnf
 refine .all ?_
 conv=>whnf
 refine ⟨by decide, ?_⟩
 conv=>whnf
 refine app_own bytesT 74 (m := 20) (ys := bvs s) (.mk _ _ _ _ _ (by decide) (.tl (.right (.left .all F) _))) (by rw [bvs_len, hs]) (bvs_one _) (by decide) (by decide) fun r2 hr2 hl2 _ => ?_
 conv=>whnf
 refine .all ?_
 conv=>whnf
 refine ⟨by decide, ?_⟩
 conv=>whnf
 have e : ([Value.int .u8 108, .int .u8 t] ++ bvs o) ++ bvs s = bvs (108 :: t :: (o ++ s)) := by simp [bvs, bv]
 rw [e] at hl2 ⊢
 refine DoesG.toStr (e := 5) (bs := 108 :: t :: (o ++ s)) (by kernel_rfl) (by kernel_rfl) (by kernel_rfl) (.left (own_rd hr2 hl2) _) (by simp [ho, hs]) ?_
 conv=>whnf
 refine .all ?_
 conv=>whnf
 refine ⟨by decide, ?_⟩
 conv=>whnf
 refine ⟨rfl, ?_⟩
 conv=>whnf
 refine ⟨rfl, ?_⟩
 conv=>whnf
 exact ⟨[], Ent.nil _, rfl, rfl⟩
theorem begun_spec (F : List HP) (s : Nat) (t : Int) : SpecF Tryz.prog 96 [.pointer (some ⟨s, 0, none⟩), .int .i64 t] F [] (fun r L => r = .int .i64 (begE t) ∧ L = []) := by
 refine fun96.spec rfl ?_
 (conv=>whnf);repeat((with_reducible first|refine .tt ?_|refine .ff ?_);conv=>whnf)
 refine CondG.dec (fun h1 => ?_) (fun h1 => ?_)
 ·(conv=>whnf);repeat((with_reducible first|refine .tt ?_|refine .ff ?_);conv=>whnf)
  refine ret_here ⟨?_, rfl⟩
  rw [begE, if_pos (.inl h1)]
  rfl
 (conv=>whnf);repeat((with_reducible first|refine .tt ?_|refine .ff ?_);conv=>whnf)
 refine CondG.dec (fun h2 => ?_) (fun h2 => ?_)
 ·conv=>whnf
  refine ret_here ⟨?_, rfl⟩
  rw [begE, if_pos (.inr h2)]
  rfl
 conv=>whnf
 refine ret_here ⟨?_, rfl⟩
 rw [begE, if_neg (by omega)]
 rfl
end Go.Proofs.YtnbcbdlbejdkpaaGreatDoor
namespace Go.Proofs.YtnbcbdlbejdkpaaGreatDoor
open Go Go.Sl
theorem tokKey_size (t : Nat) : (tokKey t).size = 2 := strB_size _
theorem balKey_size {t : Nat} {a : List Nat} (ha : a.length = 20) : (balKey t a).size = 22 := by rw [balKey, strB_size]; simp [ha]
theorem allKey_size {t : Nat} {o s : List Nat} (ho : o.length = 20) (hs : s.length = 20) : (allKey t o s).size = 42 := by rw [allKey, strB_size]; simp [ho, hs]
theorem may_tok (t n : Nat) (hn : n ≤ 4096) : mayI (tokKey t) n = 0 := mayI_ok (by rw [tokKey_size]; decide) (by rw [tokKey_size]; decide) hn
theorem may_bal {t : Nat} {a : List Nat} (ha : a.length = 20) (n : Nat) (hn : n ≤ 4096) : mayI (balKey t a) n = 0 := mayI_ok (by rw [balKey_size ha]; decide) (by rw [balKey_size ha]; decide) hn
theorem may_all {t : Nat} {o s : List Nat} (ho : o.length = 20) (hs : s.length = 20) (n : Nat) (hn : n ≤ 4096) : mayI (allKey t o s) n = 0 := mayI_ok (by rw [allKey_size ho hs]; decide) (by rw [allKey_size ho hs]; decide) hn
section
variable {find : ByteArray → List Nat × Int}
theorem amount_spec (F : List HP) (s : Nat) (src : Value) (V : View) (n : Nat) (key : ByteArray) (hs : SrcG Tryz.prog F src find) (ho : SrcOk find) (hk : mayI key 0 = 0) :
  SpecF Tryz.prog 91 [.pointer (some ⟨s, 0, none⟩), .string key] F [stP 118 s src find V n] (fun r L => r = .tuple #[.agg ⟨uvs (amtR (V key)).1⟩, .int .i64 (amtR (V key)).2] ∧ L = [stP 118 s src find V n]) := by
 refine fun91.spec rfl ?_
 conv=>whnf
 intro b4
 conv=>whnf
 refine CallG.of (pre := [stP 118 s src find V n]) (rest := [cel b4 38 (uvs z4)]) (get_at _ s src V n key (hs.left _) ho hk) (Ent.perm (List.Perm.swap _ _ _)) ?_
 rintro _ _ ⟨x, hx, hl, rfl, rfl⟩
 conv=>whnf
 refine CondG.ff ?_
 (conv=>whnf);repeat((with_reducible first|refine .tt ?_|refine .ff ?_);conv=>whnf)
 refine LenG.sl hx ?_
 (conv=>whnf);repeat((with_reducible first|refine .tt ?_|refine .ff ?_);conv=>whnf)
 refine CondG.dec (fun h => ?_) (fun h => ?_)
 ·have e : V key = [] := List.eq_nil_of_length_eq_zero (by omega)
  conv=>whnf
  refine BuildG.of rfl ?_
  conv=>whnf
  refine StoreG.at rfl (Upd.tl (Upd.tl (Upd.whole rfl (uvs_one z4)))) ?_
  conv=>whnf
  refine LoadNG.at (vs := uvs z4) rfl (.tl (.tl .all)) ?_
  conv=>whnf
  refine ⟨_, Ent.sel (T := []) (A := [_, _, _]) [1] rfl, ?_, rfl⟩
  rw [e]
  rfl
 have hne : V key ≠ [] := fun e => h (by rw [e]; rfl)
 by_cases h32 : (V key).length = 32
 ·have hx32 : SlV x 32 := by rw [← h32]; exact hx
  conv=>whnf
  refine CallG.pure (wread_spec _ x (V key) h32 (.left (by rw [h32]; exact own_rd hx32 (by rw [bvs_len, h32])) F)) ?_
  rintro _ _ ⟨rfl, rfl⟩
  rw [ivs_words]
  have hwl := wordsN_len (V key)
  conv=>whnf
  intro b8
  conv=>whnf
  refine StoreG.at (by rw [uvs_len, hwl]) (Upd.whole (by rw [uvs_len, hwl]; rfl) (uvs_one _)) ?_
  conv=>whnf
  refine CondG.ff ?_
  conv=>whnf
  refine LoadNG.at (vs := uvs (wordsN (V key))) (by rw [uvs_len, hwl]) .all ?_
  (conv=>whnf);repeat((with_reducible first|refine .tt ?_|refine .ff ?_);conv=>whnf)
  refine CallG.pure (isZero_spec _ (wordsN (V key)) hwl) ?_
  rintro _ _ ⟨rfl, rfl⟩
  (conv=>whnf);repeat((with_reducible first|refine .tt ?_|refine .ff ?_);conv=>whnf)
  refine CondG.dec (fun hz => ?_) (fun hz => ?_)
  ·conv=>whnf
   refine BuildG.of rfl ?_
   conv=>whnf
   refine StoreG.at rfl (Upd.tl (Upd.tl (Upd.tl (Upd.whole rfl (uvs_one z4))))) ?_
   conv=>whnf
   refine LoadNG.at (vs := uvs z4) rfl (.tl (.tl (.tl .all))) ?_
   conv=>whnf
   refine ⟨_, Ent.sel (T := []) (A := [_, _, _, _]) [2] rfl, ?_, rfl⟩
   rw [amtR, if_neg hne, if_neg (fun hh => hh.2 hz)]
   rfl
  ·conv=>whnf
   refine LoadNG.at (vs := uvs (wordsN (V key))) (by rw [uvs_len, hwl]) .all ?_
   conv=>whnf
   refine StoreG.at (by rw [uvs_len, hwl]) (Upd.tl (Upd.tl (Upd.tl (Upd.whole (by rw [uvs_len, hwl]; rfl) (uvs_one _))))) ?_
   conv=>whnf
   refine LoadNG.at (vs := uvs (wordsN (V key))) (by rw [uvs_len, hwl]) (.tl (.tl (.tl .all))) ?_
   conv=>whnf
   refine ⟨_, Ent.sel (T := []) (A := [_, _, _, _]) [2] rfl, ?_, rfl⟩
   rw [amtR, if_neg hne, if_pos ⟨h32, hz⟩]
   rfl
 ·conv=>whnf
  refine CallG.pure (wread_no _ x (V key) h32 (.left (own_rd hx (by rw [bvs_len, Nat.mul_one])) F)) ?_
  rintro _ _ ⟨rfl, rfl⟩
  conv=>whnf
  intro b8
  conv=>whnf
  refine StoreG.at rfl (Upd.whole rfl (uvs_one z4)) ?_
  conv=>whnf
  refine CondG.tt ?_
  (conv=>whnf);repeat((with_reducible first|refine .tt ?_|refine .ff ?_);conv=>whnf)
  refine BuildG.of rfl ?_
  conv=>whnf
  refine StoreG.at rfl (Upd.tl (Upd.tl (Upd.tl (Upd.whole rfl (uvs_one z4))))) ?_
  conv=>whnf
  refine LoadNG.at (vs := uvs z4) rfl (.tl (.tl (.tl .all))) ?_
  conv=>whnf
  refine ⟨_, Ent.sel (T := []) (A := [_, _, _, _]) [2] rfl, ?_, rfl⟩
  rw [amtR, if_neg hne, if_neg (fun hh => h32 hh.1)]
  rfl
theorem lay_at (F : List HP) (s : Nat) (src : Value) (V : View) (n : Nat) (key : ByteArray) (a : List Nat) (ha : a.length = 4) (hs : SrcG Tryz.prog F src find) (ho : SrcOk find) (hk : ∀ m, m ≤ 4096 → mayI key m = 0) (hn : n ≤ 4398046511104) :
  SpecF Tryz.prog 93 [.pointer (some ⟨s, 0, none⟩), .string key, .agg ⟨uvs a⟩] F [stP 118 s src find V n] (fun r L => r = .int .i64 0 ∧ L = [stP 118 s src find (layA V key a) (n + 1)]) := by
 have hal : (uvs a).length = 4 := by rw [uvs_len, ha]
 refine fun93.spec rfl ?_
 conv=>whnf
 intro b5
 conv=>whnf
 refine LoadNG.at (vs := uvs a) hal .all ?_
 conv=>whnf
 refine CallG.pure (isZero_spec _ a ha) ?_
 rintro _ _ ⟨rfl, rfl⟩
 conv=>whnf
 refine CondG.dec (fun hz => ?_) (fun hz => ?_)
 ·conv=>whnf
  refine CallG.of (pre := [stP 118 s src find V n]) (rest := [cel b5 38 (uvs a)]) (put_at _ s src V n key (.slice none 0 0) [] (hs.left _) ho (hk 0 (by decide)) (.inl ⟨rfl, rfl⟩) .nil hn) (Ent.perm (List.Perm.swap _ _ _)) ?_
  rintro _ _ ⟨rfl, rfl⟩
  conv=>whnf
  refine ⟨_, Ent.sel (T := []) (A := [_, _]) [0] rfl, rfl, ?_⟩
  rw [layA, amtB, if_pos (show a = z4 from hz)]
  rfl
 ·conv=>whnf
  refine LoadNG.at (vs := uvs a) hal .all ?_
  conv=>whnf
  refine CallG.pure (wbytes_spec _ a ha) ?_
  rintro r _ ⟨hr, rfl⟩
  have hwl := wide_len a
  conv=>whnf
  refine CallG.of (pre := [stP 118 s src find V n]) (rest := [own 1 r 32 (bvs (wideB a)), cel b5 38 (uvs a)]) (put_at _ s src V n key r (wideB a) (hs.left _) ho (hk _ (by rw [hwl]; decide)) (by rw [hwl]; exact hr) (by rw [hwl]; exact .left (own_rd hr (by rw [bvs_len, hwl])) _) hn) (Ent.sel (T := []) (A := [_, _, _]) [2, 0, 1] rfl) ?_
  rintro _ _ ⟨rfl, rfl⟩
  conv=>whnf
  refine ⟨_, Ent.sel (T := []) (A := [_, _, _]) [0] rfl, rfl, ?_⟩
  rw [layA, amtB, if_neg (show ¬ a = z4 from hz)]
  rfl
theorem layToken_at (F : List HP) (s : Nat) (src : Value) (V : View) (n : Nat) (t : Nat) (ht : t < 64) (d : TokD) (hd : d.sup.length = 4) (hs : SrcG Tryz.prog F src find) (ho : SrcOk find) (hn : n ≤ 4398046511104) :
  SpecF Tryz.prog 87 [.pointer (some ⟨s, 0, none⟩), .int .i64 t, .agg ⟨d.cells⟩] F [stP 118 s src find V n] (fun r L => r = .int .i64 0 ∧ L = [stP 118 s src find (layTok V t d) (n + 1)]) := by
 have hdl : d.cells.length = 6 := TokD.cells_len hd
 have hsl : (uvs d.sup).length = 4 := by rw [uvs_len, hd]
 have hwl := wide_len d.sup
 have hsup : (d.cells.drop 2).take (uvs d.sup).length = uvs d.sup := by simp [TokD.cells]
 have htl := tokB_len d
 refine fun87.spec rfl ?_
 conv=>whnf
 intro b5
 conv=>whnf
 refine LoadG.at (v := .bool d.paused) (.here rfl) ?_
 conv=>whnf
 have key : ∀ (f : Nat), f = (if d.paused then 3 else 1) → bvs [f] ++ bvs (wideB d.sup) = bvs (tokB d) := fun f hf => by
  rw [hf]; rfl
 refine CondG.split (fun hp => ?_) (fun hp => ?_)
 all_goals
  conv=>whnf
  refine DrawG.mk 11 [cel b5 48 d.cells] [stP 118 s src find V n] (Ent.perm (List.Perm.swap _ _ _)) ?_
  conv=>whnf
  refine .take 0 ?_
  conv=>whnf
  refine ⟨rfl, ?_⟩
  conv=>whnf
  refine .take 1 ?_
  conv=>whnf
  refine ⟨rfl, ?_⟩
  conv=>whnf
  refine .take 3 ?_
  conv=>whnf
  refine ⟨rfl, ?_⟩
  conv=>whnf
  refine .take 5 ?_
  conv=>whnf
  refine ⟨rfl, ?_⟩
  conv=>whnf
  refine .take 6 ?_
  conv=>whnf
  refine ⟨rfl, ?_⟩
  conv=>whnf
  refine LoadNG.at (vs := uvs d.sup) hsl (.here hsup) ?_
  conv=>whnf
  refine .all ?_
  conv=>whnf
  refine ⟨by decide, ?_, ?_⟩
  conv=>whnf
  refine CallG.pure (tokenKey_spec _ t ht) ?_
  rintro _ _ ⟨rfl, rfl⟩
  conv=>whnf
  refine .all ?_
  conv=>whnf
  refine ⟨by decide, ?_, ?_⟩
  conv=>whnf
  refine BuildG.of (cs := bvs [_]) rfl ?_
  conv=>whnf
  intro b14
  conv=>whnf
  refine .all ?_
  conv=>whnf
  refine ⟨by decide, ?_⟩
  conv=>whnf
  refine CallG.pure (wbytes_spec _ d.sup hd) ?_
  rintro r _ ⟨hr, rfl⟩
  conv=>whnf
  refine .all ?_
  conv=>whnf
  refine ⟨by decide, ?_⟩
  conv=>whnf
  refine DoesG.ent (M := [cel b14 5 (bvs [_]), own 1 r 32 (bvs (wideB d.sup)), stP 118 s src find V n]) (Ent.sel (T := []) (A := [_, _, _]) [1, 0, 2] rfl) ?_
  rotate_left
  conv=>whnf
  refine CallG.pure (wbytes_spec _ d.sup hd) ?_
  rintro r _ ⟨hr, rfl⟩
  conv=>whnf
  refine .all ?_
  conv=>whnf
  refine ⟨by decide, ?_⟩
  conv=>whnf
  refine BuildG.of (cs := bvs [_]) rfl ?_
  conv=>whnf
  intro b14
  conv=>whnf
  refine .all ?_
  conv=>whnf
  refine ⟨by decide, ?_⟩
  conv=>whnf
  refine DoesG.ent (M := [cel b14 5 (bvs [_]), own 1 r 32 (bvs (wideB d.sup)), stP 118 s src find V n]) (Ent.refl _) ?_
  rotate_left
  conv=>whnf
  refine BuildG.of (cs := bvs [_]) rfl ?_
  conv=>whnf
  intro b14
  conv=>whnf
  refine .all ?_
  conv=>whnf
  refine ⟨by decide, ?_⟩
  conv=>whnf
  refine CallG.pure (tokenKey_spec _ t ht) ?_
  rintro _ _ ⟨rfl, rfl⟩
  conv=>whnf
  refine .all ?_
  conv=>whnf
  refine ⟨by decide, ?_⟩
  conv=>whnf
  refine CallG.pure (wbytes_spec _ d.sup hd) ?_
  rintro r _ ⟨hr, rfl⟩
  conv=>whnf
  refine .all ?_
  conv=>whnf
  refine ⟨by decide, ?_⟩
  conv=>whnf
  refine DoesG.ent (M := [cel b14 5 (bvs [_]), own 1 r 32 (bvs (wideB d.sup)), stP 118 s src find V n]) (Ent.sel (T := []) (A := [_, _, _]) [1, 0, 2] rfl) ?_
  all_goals
   refine DoesG.ent (own_of_cel (n := 1) (sz := 1) rfl (by decide)) ?_
   refine app_own bytesT 74 (m := 32) (ys := bvs (wideB d.sup)) (.tl (.left (own_rd hr (by rw [bvs_len, hwl])) _)) (by rw [bvs_len, hwl]) (bvs_one _) (by decide) (by decide) fun q hq hql _ => ?_
   rw [key _ (by rw [hp]; rfl)] at hql ⊢
   conv=>whnf
   refine .all ?_
   conv=>whnf
   refine ⟨by decide, ?_⟩
   conv=>whnf
   refine CallG.of (pre := [stP 118 s src find V n]) (rest := [own 1 q 33 (bvs (tokB d)), own 1 r 32 (bvs (wideB d.sup))]) (put_at _ s src V n (tokKey t) q (tokB d) ((hs.left _).left _) ho (may_tok t _ (by rw [htl]; decide)) (by rw [htl]; exact hq) (by rw [htl]; exact .left (own_rd hq hql) _) hn) (Ent.sel (T := []) (A := [_, _, _]) [2, 0, 1] rfl) ?_
   rintro _ _ ⟨rfl, rfl⟩
   conv=>whnf
   refine .take 10 ?_
   conv=>whnf
   refine ⟨rfl, ?_⟩
   conv=>whnf
   refine ⟨rfl, ?_⟩
   conv=>whnf
   exact ⟨_, Ent.sel (T := []) (A := [_, _, _, _]) [0] rfl, rfl, rfl⟩
end
end Go.Proofs.YtnbcbdlbejdkpaaGreatDoor
namespace Go.Proofs.YtnbcbdlbejdkpaaGreatDoor
open Go Go.Sl
section
variable {find : ByteArray → List Nat × Int}
theorem sup_at (d : TokD) : (d.cells.drop 2).take (uvs d.sup).length = uvs d.sup := by simp [TokD.cells]
theorem z4_len : z4.length = 4 := rfl
theorem token_at (F : List HP) (s : Nat) (src : Value) (V : View) (n : Nat) (t : Int) (hs : SrcG Tryz.prog F src find) (ho : SrcOk find) :
  SpecF Tryz.prog 40 [.pointer (some ⟨s, 0, none⟩), .int .i64 t] F [stP 118 s src find V n] (fun r L => r = .tuple #[.agg ⟨(tokenL V t).1.cells⟩, .int .i64 (tokenL V t).2] ∧ L = [stP 118 s src find V n]) := by
 refine fun40.spec rfl ?_
 conv=>whnf
 intro b4
 conv=>whnf
 refine CallG.pure (begun_spec _ s t) ?_
 rintro _ _ ⟨rfl, rfl⟩
 conv=>whnf
 refine CondG.ndec (fun h1 => ?_) (fun h1 => ?_)
 ·conv=>whnf
  refine BuildG.of rfl ?_
  conv=>whnf
  refine StoreG.at rfl (Upd.whole rfl (TokD.cells_one zTok)) ?_
  conv=>whnf
  refine LoadNG.at (vs := zTok.cells) rfl .all ?_
  conv=>whnf
  refine ⟨_, Ent.sel (T := []) (A := [_, _]) [1] rfl, ?_, rfl⟩
  rw [tokenL, if_pos h1]
  rfl
 obtain ⟨m, rfl, hm⟩ := begE_nat h1
 have et : tokenL V (m : Int) = tokR (V (tokKey m)) := by rw [tokenL, if_neg (by rw [h1]; decide), Int.toNat_natCast]
 rw [et]
 conv=>whnf
 refine CallG.pure (tokenKey_spec _ m hm) ?_
 rintro _ _ ⟨rfl, rfl⟩
 conv=>whnf
 refine CallG.of (pre := [stP 118 s src find V n]) (rest := [cel b4 48 zTok.cells]) (get_at _ s src V n (tokKey m) (hs.left _) ho (may_tok m 0 (by decide))) (Ent.perm (List.Perm.swap _ _ _)) ?_
 rintro _ _ ⟨x, hx, hl, rfl, rfl⟩
 conv=>whnf
 refine CondG.ff ?_
 (conv=>whnf);repeat((with_reducible first|refine .tt ?_|refine .ff ?_);conv=>whnf)
 refine LenG.sl hx ?_
 (conv=>whnf);repeat((with_reducible first|refine .tt ?_|refine .ff ?_);conv=>whnf)
 refine CondG.dec (fun h => ?_) (fun h => ?_)
 ·have e : V (tokKey m) = [] := List.eq_nil_of_length_eq_zero (by omega)
  conv=>whnf
  refine BuildG.of rfl ?_
  conv=>whnf
  refine StoreG.at rfl (Upd.tl (Upd.tl (Upd.whole rfl (TokD.cells_one zTok)))) ?_
  conv=>whnf
  refine LoadNG.at (vs := zTok.cells) rfl (.tl (.tl .all)) ?_
  conv=>whnf
  refine ⟨_, Ent.sel (T := []) (A := [_, _, _]) [1] rfl, ?_, rfl⟩
  rw [e]
  rfl
 have hrd : RdS (own 1 x (V (tokKey m)).length (bvs (V (tokKey m))) :: ([stP 118 s src find V n, cel b4 48 zTok.cells] ++ F)) x (V (tokKey m)).length (bvs (V (tokKey m))) := own_rd hx (by rw [bvs_len, Nat.mul_one])
 generalize hV : V (tokKey m) = bs at *
 obtain ⟨b, r, rfl⟩ : ∃ b r, bs = b :: r := by
  cases bs with
  | nil => exact absurd rfl h
  | cons b r => exact ⟨b, r, rfl⟩
 conv=>whnf
 refine SlcG.rd hrd fun a cap hva hcap => ?_
 conv=>whnf
 have hlen : (b :: r).length = r.length + 1 := rfl
 refine SideG.of (by omega) ?_
 conv=>whnf
 refine SliceG.rd (by rw [← hva]; exact hrd) (by show 1 ≤ _; omega) (by omega) (by omega) (by omega) fun v1 hv1 _ => ?_
 have e1 : (((b :: r).length : Nat) : Int).toNat - (1 : Int).toNat = r.length := by show _ - 1 = _; omega
 have e2 : ((bvs (b :: r)).drop ((1 : Int).toNat * 1)).take (((((b :: r).length : Nat) : Int).toNat - (1 : Int).toNat) * 1) = bvs r := by
  rw [e1]
  show ((bvs (b :: r)).drop 1).take _ = _
  show (bvs r).take _ = _
  rw [List.take_of_length_le (by rw [bvs_len]; omega)]
 rw [e2, e1] at hv1
 have bad : ∀ (hb : ¬ (r.length = 32 ∧ (b = 1 ∨ b = 3))), tokR (b :: r) = (zTok, 75) := fun hb => by rw [tokR, if_neg hb]
 by_cases h32 : r.length = 32
 ·have hwl := wordsN_len r
  have hwu : (uvs (wordsN r)).length = 4 := by rw [uvs_len, hwl]
  conv=>whnf
  refine CallG.pure (wread_spec _ v1 r h32 (by rw [← h32]; exact hv1)) ?_
  rintro _ _ ⟨rfl, rfl⟩
  rw [ivs_words]
  conv=>whnf
  intro b9
  conv=>whnf
  refine StoreG.at hwu (Upd.whole (by rw [hwu]; rfl) (uvs_one _)) ?_
  conv=>whnf
  refine CondG.ff ?_
  (conv=>whnf);repeat((with_reducible first|refine .tt ?_|refine .ff ?_);conv=>whnf)
  have hrd2 := RdS.tl (p := cel b9 38 (uvs (wordsN r))) hrd
  refine IdxG.rd hrd2 (by omega) fun c o hc => ?_
  (conv=>whnf);repeat((with_reducible first|refine .tt ?_|refine .ff ?_);conv=>whnf)
  refine LoadG.atG (v := bv b) (hc.one (i := 0) rfl) ?_
  (conv=>whnf);repeat((with_reducible first|refine .tt ?_|refine .ff ?_);conv=>whnf)
  have zero : ¬ (b = 1 ∨ b = 3) → tokR (b :: r) = (zTok, 75) := fun hb => bad fun hh => hb hh.2
  have right : (b = 1 ∨ b = 3) → tokR (b :: r) = (⟨true, decide (b = 3), wordsN r⟩, 0) := fun hb => by rw [tokR, if_pos ⟨h32, hb⟩]
  refine CondG.ndec (fun hb1 => ?_) (fun hb1 => ?_)
  (conv=>whnf);repeat((with_reducible first|refine .tt ?_|refine .ff ?_);conv=>whnf)
  refine IdxG.rd hrd2 (by omega) fun c2 o2 hc2 => ?_
  (conv=>whnf);repeat((with_reducible first|refine .tt ?_|refine .ff ?_);conv=>whnf)
  refine LoadG.atG (v := bv b) (hc2.one (i := 0) rfl) ?_
  (conv=>whnf);repeat((with_reducible first|refine .tt ?_|refine .ff ?_);conv=>whnf)
  refine CondG.ndec (fun hb3 => ?_) (fun hb3 => ?_)
  ·conv=>whnf
   refine BuildG.of rfl ?_
   conv=>whnf
   refine StoreG.at rfl (Upd.tl (Upd.tl (Upd.tl (Upd.whole rfl (TokD.cells_one zTok))))) ?_
   conv=>whnf
   refine LoadNG.at (vs := zTok.cells) rfl (.tl (.tl (.tl .all))) ?_
   conv=>whnf
   refine ⟨_, Ent.sel (T := []) (A := [_, _, _, _]) [2] rfl, ?_, rfl⟩
   rw [zero (by omega)]
   rfl
  rw [right (by omega)]
  rotate_left
  rw [right (by omega)]
  all_goals
   (conv=>whnf);repeat((with_reducible first|refine .tt ?_|refine .ff ?_);conv=>whnf)
   refine DrawG.mk 6 [cel b9 38 (uvs (wordsN r)), own 1 x (b :: r).length (bvs (b :: r)), stP 118 s src find V n, cel b4 48 zTok.cells] [] (Ent.refl _) ?_
   conv=>whnf
   refine .take 0 ?_
   conv=>whnf
   refine ⟨rfl, ?_⟩
   conv=>whnf
   refine .take 1 ?_
   conv=>whnf
   refine ⟨rfl, ?_⟩
   conv=>whnf
   refine IdxG.rd hrd2 (by omega) fun c2 o2 hc2 => ?_
   conv=>whnf
   refine .take 2 ?_
   conv=>whnf
   refine ⟨rfl, ?_⟩
   conv=>whnf
   refine LoadG.atG (v := bv b) (hc2.one (i := 0) rfl) ?_
   conv=>whnf
   refine .take 3 ?_
   conv=>whnf
   refine ⟨rfl, ?_⟩
   conv=>whnf
   refine .take 4 ?_
   conv=>whnf
   refine ⟨rfl, ?_⟩
   conv=>whnf
   refine LoadNG.at (vs := uvs (wordsN r)) hwu .all ?_
   conv=>whnf
   refine .take 5 ?_
   conv=>whnf
   refine ⟨rfl, ?_⟩
   conv=>whnf
   have ed : decide (((b : Nat) : Int) = 3) = decide (b = 3) := by
    by_cases h3 : b = 3
    ·subst h3; rfl
    ·have : ¬ (b : Int) = 3 := by omega
     simp [h3, this]
   rw [ed]
   refine BuildG.of (cs := (TokD.mk true (decide (b = 3)) (wordsN r)).cells) (by simp [fillL, Value.cells, hwu, TokD.cells]) ?_
   conv=>whnf
   refine .all ?_
   conv=>whnf
   refine ⟨by decide, ?_⟩
   conv=>whnf
   refine ⟨rfl, ?_⟩
   conv=>whnf
   refine StoreG.at (TokD.cells_len hwl) (Upd.tl (Upd.tl (Upd.tl (Upd.whole (by rw [TokD.cells_len hwl]; rfl) (TokD.cells_one _))))) ?_
   conv=>whnf
   refine .all ?_
   conv=>whnf
   refine ⟨by decide, ?_⟩
   conv=>whnf
   refine ⟨rfl, ?_⟩
   conv=>whnf
   refine LoadNG.at (vs := (TokD.mk true (decide (b = 3)) (wordsN r)).cells) (TokD.cells_len hwl) (.tl (.tl (.tl .all))) ?_
   conv=>whnf
   exact ⟨_, Ent.sel (T := []) (A := [_, _, _, _]) [2] rfl, rfl, rfl⟩
 ·conv=>whnf
  refine CallG.pure (wread_no _ v1 r h32 hv1) ?_
  rintro _ _ ⟨rfl, rfl⟩
  conv=>whnf
  intro b9
  conv=>whnf
  refine StoreG.at rfl (Upd.whole rfl (uvs_one z4)) ?_
  conv=>whnf
  refine CondG.tt ?_
  (conv=>whnf);repeat((with_reducible first|refine .tt ?_|refine .ff ?_);conv=>whnf)
  refine BuildG.of rfl ?_
  conv=>whnf
  refine StoreG.at rfl (Upd.tl (Upd.tl (Upd.tl (Upd.whole rfl (TokD.cells_one zTok))))) ?_
  conv=>whnf
  refine LoadNG.at (vs := zTok.cells) rfl (.tl (.tl (.tl .all))) ?_
  conv=>whnf
  refine ⟨_, Ent.sel (T := []) (A := [_, _, _, _]) [2] rfl, ?_, rfl⟩
  rw [bad (fun hb => h32 hb.1)]
  rfl
theorem there_at (F : List HP) (s : Nat) (src : Value) (V : View) (n : Nat) (t : Int) (hs : SrcG Tryz.prog F src find) (ho : SrcOk find) :
  SpecF Tryz.prog 103 [.pointer (some ⟨s, 0, none⟩), .int .i64 t] F [stP 118 s src find V n] (fun r L => r = .tuple #[.agg ⟨(thereL V t).1.cells⟩, .int .i64 (thereL V t).2] ∧ L = [stP 118 s src find V n]) := by
 have hok := (tokenL_ok V t).len
 have hl1 : (tokenL V t).1.cells.length = 6 := TokD.cells_len hok
 refine fun103.spec rfl ?_
 conv=>whnf
 intro b4
 conv=>whnf
 refine CallG.of (pre := [stP 118 s src find V n]) (rest := [cel b4 48 zTok.cells]) (token_at _ s src V n t (hs.left _) ho) (Ent.perm (List.Perm.swap _ _ _)) ?_
 rintro _ _ ⟨rfl, rfl⟩
 conv=>whnf
 intro b6
 conv=>whnf
 refine StoreG.at hl1 (Upd.whole (by rw [hl1]; rfl) (TokD.cells_one _)) ?_
 conv=>whnf
 refine CondG.ndec (fun h1 => ?_) (fun h1 => ?_)
 ·conv=>whnf
  refine BuildG.of rfl ?_
  conv=>whnf
  refine StoreG.at rfl (Upd.tl (Upd.tl (Upd.whole rfl (TokD.cells_one zTok)))) ?_
  conv=>whnf
  refine LoadNG.at (vs := zTok.cells) rfl (.tl (.tl .all)) ?_
  conv=>whnf
  refine ⟨_, Ent.sel (T := []) (A := [_, _, _]) [1] rfl, ?_, rfl⟩
  rw [thereL, if_pos h1]
  rfl
 conv=>whnf
 refine LoadNG.at (vs := (tokenL V t).1.cells) hl1 .all ?_
 conv=>whnf
 refine BuildG.of (cs := zTok.cells) rfl ?_
 conv=>whnf
 refine DoesG.eqv 8 tokK (by kernel_rfl) (by decide) (by kernel_rfl) (by kernel_rfl) (TokD.wt hok) (TokD.wt z4_len) ?_
 conv=>whnf
 refine CondG.split (fun h2 => ?_) (fun h2 => ?_)
 ·simp only [decide_eq_true_eq] at h2
  have hz := TokD.cells_inj.1 h2
  conv=>whnf
  refine LoadNG.at (vs := (tokenL V t).1.cells) hl1 .all ?_
  conv=>whnf
  refine StoreG.at hl1 (Upd.tl (Upd.tl (Upd.whole (by rw [hl1]; rfl) (TokD.cells_one _)))) ?_
  conv=>whnf
  refine LoadNG.at (vs := (tokenL V t).1.cells) hl1 (.tl (.tl .all)) ?_
  conv=>whnf
  refine ⟨_, Ent.sel (T := []) (A := [_, _, _]) [1] rfl, ?_, rfl⟩
  have h1' : (tokenL V t).2 = 0 := h1
  rw [thereL, if_neg (by rw [h1']; decide), if_pos hz, hz]
  rfl
 ·simp only [decide_eq_false_iff_not] at h2
  have hz : ¬ (tokenL V t).1 = zTok := fun e => h2 (by rw [e])
  have h1' : (tokenL V t).2 = 0 := h1
  conv=>whnf
  refine LoadNG.at (vs := (tokenL V t).1.cells) hl1 .all ?_
  conv=>whnf
  refine StoreG.at hl1 (Upd.tl (Upd.tl (Upd.whole (by rw [hl1]; rfl) (TokD.cells_one _)))) ?_
  conv=>whnf
  refine LoadNG.at (vs := (tokenL V t).1.cells) hl1 (.tl (.tl .all)) ?_
  conv=>whnf
  refine ⟨_, Ent.sel (T := []) (A := [_, _, _]) [1] rfl, ?_, rfl⟩
  rw [thereL, if_neg (by rw [h1']; decide), if_neg hz]
  rw [show tokenL V t = ((tokenL V t).1, (0 : Int)) from by rw [← h1']]
  rfl
theorem running_at (F : List HP) (s : Nat) (src : Value) (V : View) (n : Nat) (t : Int) (hs : SrcG Tryz.prog F src find) (ho : SrcOk find) :
  SpecF Tryz.prog 88 [.pointer (some ⟨s, 0, none⟩), .int .i64 t] F [stP 118 s src find V n] (fun r L => r = .tuple #[.agg ⟨(runL V t).1.cells⟩, .int .i64 (runL V t).2] ∧ L = [stP 118 s src find V n]) := by
 have hok := (thereL_ok V t).len
 have hl1 : (thereL V t).1.cells.length = 6 := TokD.cells_len hok
 refine fun88.spec rfl ?_
 conv=>whnf
 intro b4
 conv=>whnf
 refine CallG.of (pre := [stP 118 s src find V n]) (rest := [cel b4 48 zTok.cells]) (there_at _ s src V n t (hs.left _) ho) (Ent.perm (List.Perm.swap _ _ _)) ?_
 rintro _ _ ⟨rfl, rfl⟩
 conv=>whnf
 intro b6
 conv=>whnf
 refine StoreG.at hl1 (Upd.whole (by rw [hl1]; rfl) (TokD.cells_one _)) ?_
 conv=>whnf
 have other : ¬ ((thereL V t).2 = 0 ∧ (thereL V t).1.paused = true) → runL V t = thereL V t := fun h => by rw [runL, if_neg h]
 refine CondG.dec (fun h1 => ?_) (fun h1 => ?_)
 ·(conv=>whnf);repeat((with_reducible first|refine .tt ?_|refine .ff ?_);conv=>whnf)
  refine LoadG.at (v := .bool (thereL V t).1.paused) (.here rfl) ?_
  (conv=>whnf);repeat((with_reducible first|refine .tt ?_|refine .ff ?_);conv=>whnf)
  refine CondG.split (fun h2 => ?_) (fun h2 => ?_)
  ·conv=>whnf
   refine BuildG.of rfl ?_
   conv=>whnf
   refine StoreG.at rfl (Upd.tl (Upd.tl (Upd.whole rfl (TokD.cells_one zTok)))) ?_
   conv=>whnf
   refine LoadNG.at (vs := zTok.cells) rfl (.tl (.tl .all)) ?_
   conv=>whnf
   refine ⟨_, Ent.sel (T := []) (A := [_, _, _]) [1] rfl, ?_, rfl⟩
   rw [runL, if_pos ⟨h1, h2⟩]
   rfl
  ·rw [other (fun hh => by rw [h2] at hh; exact absurd hh.2 (by decide))]
   conv=>whnf
   refine LoadNG.at (vs := (thereL V t).1.cells) hl1 .all ?_
   conv=>whnf
   refine StoreG.at hl1 (Upd.tl (Upd.tl (Upd.whole (by rw [hl1]; rfl) (TokD.cells_one _)))) ?_
   conv=>whnf
   refine LoadNG.at (vs := (thereL V t).1.cells) hl1 (.tl (.tl .all)) ?_
   conv=>whnf
   exact ⟨_, Ent.sel (T := []) (A := [_, _, _]) [1] rfl, rfl, rfl⟩
 ·rw [other (fun hh => h1 hh.1)]
  (conv=>whnf);repeat((with_reducible first|refine .tt ?_|refine .ff ?_);conv=>whnf)
  refine LoadNG.at (vs := (thereL V t).1.cells) hl1 .all ?_
  conv=>whnf
  refine StoreG.at hl1 (Upd.tl (Upd.tl (Upd.whole (by rw [hl1]; rfl) (TokD.cells_one _)))) ?_
  conv=>whnf
  refine LoadNG.at (vs := (thereL V t).1.cells) hl1 (.tl (.tl .all)) ?_
  conv=>whnf
  exact ⟨_, Ent.sel (T := []) (A := [_, _, _]) [1] rfl, rfl, rfl⟩
theorem register_at (F : List HP) (s : Nat) (src : Value) (V : View) (n : Nat) (t : Int) (hs : SrcG Tryz.prog F src find) (ho : SrcOk find) (hn : n ≤ 4398046511104) :
  SpecF Tryz.prog 36 [.pointer (some ⟨s, 0, none⟩), .int .i64 t] F [stP 118 s src find V n] (fun r L => r = .int .i64 (registerL V t).1 ∧ L = [stP 118 s src find (registerL V t).2 (n + 2)]) := by
 have hok := (tokenL_ok V t).len
 have hl1 : (tokenL V t).1.cells.length = 6 := TokD.cells_len hok
 refine fun36.spec rfl ?_
 conv=>whnf
 refine CallG.of (pre := [stP 118 s src find V n]) (rest := []) (token_at _ s src V n t (hs.left _) ho) (Ent.refl _) ?_
 rintro _ _ ⟨rfl, rfl⟩
 conv=>whnf
 intro b5
 conv=>whnf
 refine StoreG.at hl1 (Upd.whole (by rw [hl1]; rfl) (TokD.cells_one _)) ?_
 conv=>whnf
 refine CondG.ndec (fun h1 => ?_) (fun h1 => ?_)
 ·conv=>whnf
  refine ⟨_, (Ent.sel (T := []) (A := [_, _]) [1] rfl).trans (stP_more (m := n + 2) (by omega)), ?_, ?_⟩
  ·rw [registerL, if_pos h1]; rfl
  ·rw [registerL, if_pos h1]; rfl
 obtain ⟨m, rfl, hm⟩ := tokenL_nat h1
 conv=>whnf
 refine LoadG.at (v := .bool (tokenL V m).1.there) (.here rfl) ?_
 conv=>whnf
 refine CondG.split (fun h2 => ?_) (fun h2 => ?_)
 ·conv=>whnf
  refine ⟨_, (Ent.sel (T := []) (A := [_, _]) [1] rfl).trans (stP_more (m := n + 2) (by omega)), ?_, ?_⟩
  ·rw [registerL, if_neg (by rw [h1]; decide), if_pos h2]; rfl
  ·rw [registerL, if_neg (by rw [h1]; decide), if_pos h2]; rfl
 ·conv=>whnf
  refine BuildG.of (cs := zTok.cells) rfl ?_
  conv=>whnf
  refine CallG.of (pre := [stP 118 s src find V n]) (rest := [cel b5 48 (tokenL V m).1.cells]) (layToken_at _ s src V n m hm zTok z4_len (hs.left _) ho hn) (Ent.perm (List.Perm.swap _ _ _)) ?_
  rintro _ _ ⟨rfl, rfl⟩
  conv=>whnf
  refine ⟨_, (Ent.sel (T := []) (A := [_, _]) [0] rfl).trans (stP_more (m := n + 2) (by omega)), ?_, ?_⟩
  ·rw [registerL, if_neg (by rw [h1]; decide), if_neg (by rw [h2]; decide)]; rfl
  ·rw [registerL, if_neg (by rw [h1]; decide), if_neg (by rw [h2]; decide)]; rfl
theorem pause_at (F : List HP) (s : Nat) (src : Value) (V : View) (n : Nat) (t : Int) (hs : SrcG Tryz.prog F src find) (ho : SrcOk find) (hn : n ≤ 4398046511104) :
  SpecF Tryz.prog 44 [.pointer (some ⟨s, 0, none⟩), .int .i64 t] F [stP 118 s src find V n] (fun r L => r = .int .i64 (pauseL V t).1 ∧ L = [stP 118 s src find (pauseL V t).2 (n + 2)]) := by
 have hok := (runL_ok V t).len
 have hl1 : (runL V t).1.cells.length = 6 := TokD.cells_len hok
 refine fun44.spec rfl ?_
 conv=>whnf
 refine CallG.of (pre := [stP 118 s src find V n]) (rest := []) (running_at _ s src V n t (hs.left _) ho) (Ent.refl _) ?_
 rintro _ _ ⟨rfl, rfl⟩
 conv=>whnf
 intro b5
 conv=>whnf
 refine StoreG.at hl1 (Upd.whole (by rw [hl1]; rfl) (TokD.cells_one _)) ?_
 conv=>whnf
 refine CondG.ndec (fun h1 => ?_) (fun h1 => ?_)
 ·conv=>whnf
  refine ⟨_, (Ent.sel (T := []) (A := [_, _]) [1] rfl).trans (stP_more (m := n + 2) (by omega)), ?_, ?_⟩
  ·rw [pauseL, if_pos h1]; rfl
  ·rw [pauseL, if_pos h1]; rfl
 obtain ⟨m, rfl, hm⟩ := runL_nat h1
 conv=>whnf
 refine StoreG.at (cs := [.bool true]) rfl (Upd.here (by rw [hl1]; decide) rfl) ?_
 have e : (runL V m).1.cells.set 1 (.bool true) = ({ (runL V m).1 with paused := true } : TokD).cells := rfl
 have hl2 : ({ (runL V m).1 with paused := true } : TokD).cells.length = 6 := TokD.cells_len hok
 conv=>whnf
 refine LoadNG.at (vs := ({ (runL V m).1 with paused := true } : TokD).cells) hl2 .all ?_
 conv=>whnf
 refine CallG.of (pre := [stP 118 s src find V n]) (rest := [cel b5 48 ({ (runL V m).1 with paused := true } : TokD).cells]) (layToken_at _ s src V n m hm { (runL V m).1 with paused := true } hok (hs.left _) ho hn) (Ent.perm (List.Perm.swap _ _ _)) ?_
 rintro _ _ ⟨rfl, rfl⟩
 conv=>whnf
 refine ⟨_, (Ent.sel (T := []) (A := [_, _]) [0] rfl).trans (stP_more (m := n + 2) (by omega)), ?_, ?_⟩
 ·rw [pauseL, if_neg (by rw [h1]; decide)]; rfl
 ·rw [pauseL, if_neg (by rw [h1]; decide)]; rfl
theorem resume_at (F : List HP) (s : Nat) (src : Value) (V : View) (n : Nat) (t : Int) (hs : SrcG Tryz.prog F src find) (ho : SrcOk find) (hn : n ≤ 4398046511104) :
  SpecF Tryz.prog 45 [.pointer (some ⟨s, 0, none⟩), .int .i64 t] F [stP 118 s src find V n] (fun r L => r = .int .i64 (resumeL V t).1 ∧ L = [stP 118 s src find (resumeL V t).2 (n + 2)]) := by
 have hok := (thereL_ok V t).len
 have hl1 : (thereL V t).1.cells.length = 6 := TokD.cells_len hok
 refine fun45.spec rfl ?_
 conv=>whnf
 refine CallG.of (pre := [stP 118 s src find V n]) (rest := []) (there_at _ s src V n t (hs.left _) ho) (Ent.refl _) ?_
 rintro _ _ ⟨rfl, rfl⟩
 conv=>whnf
 intro b5
 conv=>whnf
 refine StoreG.at hl1 (Upd.whole (by rw [hl1]; rfl) (TokD.cells_one _)) ?_
 conv=>whnf
 refine CondG.ndec (fun h1 => ?_) (fun h1 => ?_)
 ·conv=>whnf
  refine ⟨_, (Ent.sel (T := []) (A := [_, _]) [1] rfl).trans (stP_more (m := n + 2) (by omega)), ?_, ?_⟩
  ·rw [resumeL, if_pos h1]; rfl
  ·rw [resumeL, if_pos h1]; rfl
 obtain ⟨m, rfl, hm⟩ := thereL_nat h1
 conv=>whnf
 refine LoadG.at (v := .bool (thereL V m).1.paused) (.here rfl) ?_
 conv=>whnf
 refine CondG.split (fun h2 => ?_) (fun h2 => ?_)
 ·have h2' : (thereL V m).1.paused = false := by simpa using h2
  conv=>whnf
  refine ⟨_, (Ent.sel (T := []) (A := [_, _]) [1] rfl).trans (stP_more (m := n + 2) (by omega)), ?_, ?_⟩
  ·rw [resumeL, if_neg (by rw [h1]; decide), if_pos h2']; rfl
  ·rw [resumeL, if_neg (by rw [h1]; decide), if_pos h2']; rfl
 have h2' : ¬ (thereL V m).1.paused = false := by simpa using h2
 conv=>whnf
 refine StoreG.at (cs := [.bool false]) rfl (Upd.here (by rw [hl1]; decide) rfl) ?_
 have hl2 : ({ (thereL V m).1 with paused := false } : TokD).cells.length = 6 := TokD.cells_len hok
 conv=>whnf
 refine LoadNG.at (vs := ({ (thereL V m).1 with paused := false } : TokD).cells) hl2 .all ?_
 conv=>whnf
 refine CallG.of (pre := [stP 118 s src find V n]) (rest := [cel b5 48 ({ (thereL V m).1 with paused := false } : TokD).cells]) (layToken_at _ s src V n m hm { (thereL V m).1 with paused := false } hok (hs.left _) ho hn) (Ent.perm (List.Perm.swap _ _ _)) ?_
 rintro _ _ ⟨rfl, rfl⟩
 conv=>whnf
 refine ⟨_, (Ent.sel (T := []) (A := [_, _]) [0] rfl).trans (stP_more (m := n + 2) (by omega)), ?_, ?_⟩
 ·rw [resumeL, if_neg (by rw [h1]; decide), if_neg h2']; rfl
 ·rw [resumeL, if_neg (by rw [h1]; decide), if_neg h2']; rfl
theorem balance_at (F : List HP) (s : Nat) (src : Value) (V : View) (n : Nat) (t : Int) (a : List Nat) (ha : a.length = 20) (hs : SrcG Tryz.prog F src find) (ho : SrcOk find) :
  SpecF Tryz.prog 39 [.pointer (some ⟨s, 0, none⟩), .int .i64 t, .agg ⟨bvs a⟩] F [stP 118 s src find V n] (fun r L => r = .tuple #[.agg ⟨uvs (balL V t a).1⟩, .int .i64 (balL V t a).2] ∧ L = [stP 118 s src find V n]) := by
 refine fun39.spec rfl ?_
 conv=>whnf
 intro b5
 conv=>whnf
 intro b6
 conv=>whnf
 refine CallG.pure (begun_spec _ s t) ?_
 rintro _ _ ⟨rfl, rfl⟩
 conv=>whnf
 refine CondG.ndec (fun h1 => ?_) (fun h1 => ?_)
 ·conv=>whnf
  refine BuildG.of rfl ?_
  conv=>whnf
  refine StoreG.at rfl (Upd.whole rfl (uvs_one z4)) ?_
  conv=>whnf
  refine LoadNG.at (vs := uvs z4) rfl .all ?_
  conv=>whnf
  refine ⟨_, Ent.sel (T := []) (A := [_, _, _]) [2] rfl, ?_, rfl⟩
  rw [balL, if_pos h1]
  rfl
 obtain ⟨m, rfl, hm⟩ := begE_nat h1
 have hok := amtR_ok (V (balKey m a))
 have hl1 : (uvs (amtR (V (balKey m a))).1).length = 4 := by rw [uvs_len, hok.len]
 conv=>whnf
 refine LoadNG.at (vs := bvs a) (by rw [bvs_len, ha]) (.tl .all) ?_
 conv=>whnf
 refine CallG.pure (balanceKey_spec _ m hm a ha) ?_
 rintro _ _ ⟨rfl, rfl⟩
 conv=>whnf
 refine CallG.of (pre := [stP 118 s src find V n]) (rest := [cel b6 38 (uvs z4), cel b5 35 (bvs a)]) (amount_spec _ s src V n (balKey m a) (hs.left _) ho (may_bal ha 0 (by decide))) (Ent.sel (T := []) (A := [_, _, _]) [2, 0, 1] rfl) ?_
 rintro _ _ ⟨rfl, rfl⟩
 conv=>whnf
 refine StoreG.at hl1 (Upd.tl (Upd.whole (by rw [hl1]; rfl) (uvs_one _))) ?_
 conv=>whnf
 refine LoadNG.at (vs := uvs (amtR (V (balKey m a))).1) hl1 (.tl .all) ?_
 conv=>whnf
 refine ⟨_, Ent.sel (T := []) (A := [_, _, _]) [0] rfl, ?_, rfl⟩
 rw [balL, if_neg (by rw [h1]; decide)]
 rfl
theorem allowed_at (F : List HP) (s : Nat) (src : Value) (V : View) (n : Nat) (t : Int) (o p : List Nat) (hol : o.length = 20) (hpl : p.length = 20) (hs : SrcG Tryz.prog F src find) (ho : SrcOk find) :
  SpecF Tryz.prog 43 [.pointer (some ⟨s, 0, none⟩), .int .i64 t, .agg ⟨bvs o⟩, .agg ⟨bvs p⟩] F [stP 118 s src find V n] (fun r L => r = .tuple #[.agg ⟨uvs (allowedL V t o p).1⟩, .int .i64 (allowedL V t o p).2] ∧ L = [stP 118 s src find V n]) := by
 refine fun43.spec rfl ?_
 conv=>whnf
 intro b6
 conv=>whnf
 intro b7
 conv=>whnf
 intro b8
 conv=>whnf
 refine CallG.pure (begun_spec _ s t) ?_
 rintro _ _ ⟨rfl, rfl⟩
 conv=>whnf
 refine CondG.ndec (fun h1 => ?_) (fun h1 => ?_)
 ·conv=>whnf
  refine BuildG.of rfl ?_
  conv=>whnf
  refine StoreG.at rfl (Upd.whole rfl (uvs_one z4)) ?_
  conv=>whnf
  refine LoadNG.at (vs := uvs z4) rfl .all ?_
  conv=>whnf
  refine ⟨_, Ent.sel (T := []) (A := [_, _, _, _]) [3] rfl, ?_, rfl⟩
  rw [allowedL, if_pos h1]
  rfl
 obtain ⟨m, rfl, hm⟩ := begE_nat h1
 have hok := amtR_ok (V (allKey m o p))
 have hl1 : (uvs (amtR (V (allKey m o p))).1).length = 4 := by rw [uvs_len, hok.len]
 conv=>whnf
 refine LoadNG.at (vs := bvs o) (by rw [bvs_len, hol]) (.tl (.tl .all)) ?_
 conv=>whnf
 refine LoadNG.at (vs := bvs p) (by rw [bvs_len, hpl]) (.tl .all) ?_
 conv=>whnf
 refine CallG.pure (allowanceKey_spec _ m hm o p hol hpl) ?_
 rintro _ _ ⟨rfl, rfl⟩
 conv=>whnf
 refine CallG.of (pre := [stP 118 s src find V n]) (rest := [cel b8 38 (uvs z4), cel b7 35 (bvs p), cel b6 35 (bvs o)]) (amount_spec _ s src V n (allKey m o p) (hs.left _) ho (may_all hol hpl 0 (by decide))) (Ent.sel (T := []) (A := [_, _, _, _]) [3, 0, 1, 2] rfl) ?_
 rintro _ _ ⟨rfl, rfl⟩
 conv=>whnf
 refine StoreG.at hl1 (Upd.tl (Upd.whole (by rw [hl1]; rfl) (uvs_one _))) ?_
 conv=>whnf
 refine LoadNG.at (vs := uvs (amtR (V (allKey m o p))).1) hl1 (.tl .all) ?_
 conv=>whnf
 refine ⟨_, Ent.sel (T := []) (A := [_, _, _, _]) [0] rfl, ?_, rfl⟩
 rw [allowedL, if_neg (by rw [h1]; decide)]
 rfl
end
end Go.Proofs.YtnbcbdlbejdkpaaGreatDoor
namespace Go.Proofs.YtnbcbdlbejdkpaaGreatDoor
open Go Go.Sl
section
variable {find : ByteArray → List Nat × Int}
theorem set_sup {d : TokD} {ws : List Nat} (h : d.sup.length = 4) (hw : ws.length = 4) : d.cells.take 2 ++ uvs ws ++ d.cells.drop (2 + (uvs ws).length) = ({ d with sup := ws } : TokD).cells := by
 have e : d.cells = [.bool d.there, .bool d.paused] ++ (uvs d.sup ++ []) := by simp [TokD.cells]
 have h2 := splice (A := [.bool d.there, .bool d.paused]) (B := uvs d.sup) (B' := uvs ws) (C := []) (o := 2) (n := (uvs ws).length) rfl (by rw [uvs_len, uvs_len, h, hw])
 rw [e, h2]
 simp [TokD.cells]
theorem addR_ok {a b : List Nat} : (addR a b).1.length = 4 := by
 unfold addR
 split
 ·rfl
 ·rfl
theorem subR_ok {a b : List Nat} : (subR a b).1.length = 4 := by
 unfold subR
 split
 ·rfl
 ·rfl
theorem addR_no {a b : List Nat} (h : m256 ≤ nat4 a + nat4 b) : addR a b = (z4, 22) := by rw [addR, if_pos h]
theorem addR_yes {a b : List Nat} (h : ¬ m256 ≤ nat4 a + nat4 b) : addR a b = (addL a b, 0) := by rw [addR, if_neg h]
theorem subR_no {a b : List Nat} (h : nat4 a < nat4 b) : subR a b = (z4, 23) := by rw [subR, if_pos h]
theorem subR_yes {a b : List Nat} (h : ¬ nat4 a < nat4 b) : subR a b = (subL a b, 0) := by rw [subR, if_neg h]
theorem mint_at (F : List HP) (s : Nat) (src : Value) (V : View) (n : Nat) (t : Int) (to a : List Nat) (hto : to.length = 20) (ha : wOk a) (hs : SrcG Tryz.prog F src find) (ho : SrcOk find) (hn : n + 1 ≤ 4398046511104) :
  SpecF Tryz.prog 37 [.pointer (some ⟨s, 0, none⟩), .int .i64 t, .agg ⟨bvs to⟩, .agg ⟨uvs a⟩] F [stP 118 s src find V n] (fun r L => r = .int .i64 (mintL V t to a).1 ∧ L = [stP 118 s src find (mintL V t to a).2 (n + 2)]) := by
 have hok := runL_ok V t
 have hl1 : (runL V t).1.cells.length = 6 := TokD.cells_len hok.len
 have hal : (uvs a).length = 4 := by rw [uvs_len, ha.len]
 refine fun37.spec rfl ?_
 conv=>whnf
 intro b6
 conv=>whnf
 intro b7
 conv=>whnf
 refine CallG.of (pre := [stP 118 s src find V n]) (rest := [cel b7 38 (uvs a), cel b6 35 (bvs to)]) (running_at _ s src V n t (hs.left _) ho) (Ent.sel (T := []) (A := [_, _, _]) [2, 0, 1] rfl) ?_
 rintro _ _ ⟨rfl, rfl⟩
 conv=>whnf
 intro b9
 conv=>whnf
 refine StoreG.at hl1 (Upd.whole (by rw [hl1]; rfl) (TokD.cells_one _)) ?_
 conv=>whnf
 refine CondG.ndec (fun h1 => ?_) (fun h1 => ?_)
 ·conv=>whnf
  refine ⟨_, (Ent.sel (T := []) (A := [_, _, _, _]) [1] rfl).trans (stP_more (m := n + 2) (by omega)), ?_, ?_⟩
  ·rw [mintL, if_pos h1]; rfl
  ·rw [mintL, if_pos h1]; rfl
 obtain ⟨m, rfl, hm⟩ := runL_nat h1
 have h1' : ¬ (runL V m).2 ≠ 0 := by rw [show (runL V m).2 = 0 from h1]; decide
 have hsl : (uvs (runL V m).1.sup).length = 4 := by rw [uvs_len, hok.len]
 conv=>whnf
 refine LoadNG.at (vs := uvs (runL V m).1.sup) hsl (.here (sup_at _)) ?_
 conv=>whnf
 refine LoadNG.at (vs := uvs a) hal (.tl (.tl .all)) ?_
 conv=>whnf
 refine CallG.pure (add_spec _ _ a hok ha) ?_
 rintro _ _ ⟨rfl, rfl⟩
 have hA : (uvs (addR (runL V m).1.sup a).1).length = 4 := by rw [uvs_len, addR_ok]
 conv=>whnf
 refine StoreG.at hA (Upd.hereN (by rw [hA, hl1]; decide) (uvs_one _) (set_sup hok.len addR_ok)) ?_
 conv=>whnf
 by_cases h2 : m256 ≤ nat4 (runL V m).1.sup + nat4 a
 ·rw [addR_no h2]
  refine CondG.tt ?_
  conv=>whnf
  refine ⟨_, (Ent.sel (T := []) (A := [_, _, _, _]) [1] rfl).trans (stP_more (m := n + 2) (by omega)), ?_, ?_⟩
  ·rw [mintL, if_neg h1', if_pos h2]; rfl
  ·rw [mintL, if_neg h1', if_pos h2]; rfl
 rw [addR_yes h2]
 have hl2 : ({ (runL V m).1 with sup := addL (runL V m).1.sup a } : TokD).cells.length = 6 := TokD.cells_len rfl
 refine CondG.ff ?_
 conv=>whnf
 refine LoadNG.at (vs := bvs to) (by rw [bvs_len, hto]) (.tl (.tl (.tl .all))) ?_
 conv=>whnf
 refine CallG.pure (balanceKey_spec _ m hm to hto) ?_
 rintro _ _ ⟨rfl, rfl⟩
 conv=>whnf
 refine CallG.of (pre := [stP 118 s src find V n]) (rest := [cel b9 48 ({ (runL V m).1 with sup := addL (runL V m).1.sup a } : TokD).cells, cel b7 38 (uvs a), cel b6 35 (bvs to)]) (amount_spec _ s src V n (balKey m to) (hs.left _) ho (may_bal hto 0 (by decide))) (Ent.sel (T := []) (A := [_, _, _, _]) [1, 0, 2, 3] rfl) ?_
 rintro _ _ ⟨rfl, rfl⟩
 have hbk := amtR_ok (V (balKey m to))
 have hbl : (uvs (amtR (V (balKey m to))).1).length = 4 := by rw [uvs_len, hbk.len]
 have em : ((m : Nat) : Int).toNat = m := Int.toNat_natCast m
 conv=>whnf
 intro b12
 conv=>whnf
 refine StoreG.at hbl (Upd.whole (by rw [hbl]; rfl) (uvs_one _)) ?_
 conv=>whnf
 refine CondG.ndec (fun h3 => ?_) (fun h3 => ?_)
 ·conv=>whnf
  refine ⟨_, (Ent.sel (T := []) (A := [_, _, _, _, _]) [1] rfl).trans (stP_more (m := n + 2) (by omega)), ?_, ?_⟩
  ·rw [mintL, if_neg h1', if_neg h2, em, if_pos h3]; rfl
  ·rw [mintL, if_neg h1', if_neg h2, em, if_pos h3]; rfl
 have h3' : ¬ (amtR (V (balKey m to))).2 ≠ 0 := by rw [show (amtR (V (balKey m to))).2 = 0 from h3]; decide
 conv=>whnf
 refine LoadNG.at (vs := uvs (amtR (V (balKey m to))).1) hbl .all ?_
 conv=>whnf
 refine LoadNG.at (vs := uvs a) hal (.tl (.tl (.tl .all))) ?_
 conv=>whnf
 refine CallG.pure (add_spec _ _ a hbk ha) ?_
 rintro _ _ ⟨rfl, rfl⟩
 have hB : (uvs (addR (amtR (V (balKey m to))).1 a).1).length = 4 := by rw [uvs_len, addR_ok]
 conv=>whnf
 refine StoreG.at hB (Upd.whole (by rw [hB, hbl]) (uvs_one _)) ?_
 conv=>whnf
 by_cases h4 : m256 ≤ nat4 (amtR (V (balKey m to))).1 + nat4 a
 ·rw [addR_no h4]
  refine CondG.tt ?_
  conv=>whnf
  refine ⟨_, (Ent.sel (T := []) (A := [_, _, _, _, _]) [1] rfl).trans (stP_more (m := n + 2) (by omega)), ?_, ?_⟩
  ·rw [mintL, if_neg h1', if_neg h2, em, if_neg h3', if_pos h4]; rfl
  ·rw [mintL, if_neg h1', if_neg h2, em, if_neg h3', if_pos h4]; rfl
 rw [addR_yes h4]
 refine CondG.ff ?_
 conv=>whnf
 refine LoadNG.at (vs := uvs a) hal (.tl (.tl (.tl .all))) ?_
 conv=>whnf
 refine CallG.pure (isZero_spec _ a ha.len) ?_
 rintro _ _ ⟨rfl, rfl⟩
 conv=>whnf
 refine CondG.dec (fun h5 => ?_) (fun h5 => ?_)
 ·have h5' : a = z4 := h5
  conv=>whnf
  refine ⟨_, (Ent.sel (T := []) (A := [_, _, _, _, _]) [1] rfl).trans (stP_more (m := n + 2) (by omega)), ?_, ?_⟩
  ·rw [mintL, if_neg h1', if_neg h2, em, if_neg h3', if_neg h4, if_pos h5']; rfl
  ·rw [mintL, if_neg h1', if_neg h2, em, if_neg h3', if_neg h4, if_pos h5']; rfl
 have h5' : ¬ a = z4 := h5
 conv=>whnf
 refine LoadNG.at (vs := ({ (runL V m).1 with sup := addL (runL V m).1.sup a } : TokD).cells) hl2 (.tl (.tl .all)) ?_
 conv=>whnf
 refine CallG.of (pre := [stP 118 s src find V n]) (rest := [cel b12 38 (uvs (addL (amtR (V (balKey m to))).1 a)), cel b9 48 ({ (runL V m).1 with sup := addL (runL V m).1.sup a } : TokD).cells, cel b7 38 (uvs a), cel b6 35 (bvs to)]) (layToken_at _ s src V n m hm { (runL V m).1 with sup := addL (runL V m).1.sup a } rfl (hs.left _) ho (by omega)) (Ent.sel (T := []) (A := [_, _, _, _, _]) [1, 0, 2, 3, 4] rfl) ?_
 rintro _ _ ⟨rfl, rfl⟩
 conv=>whnf
 refine CondG.ff ?_
 conv=>whnf
 refine LoadNG.at (vs := uvs (addL (amtR (V (balKey m to))).1 a)) rfl (.tl .all) ?_
 conv=>whnf
 refine CallG.of (pre := [stP 118 s src find (layTok V m { (runL V m).1 with sup := addL (runL V m).1.sup a }) (n + 1)]) (rest := [cel b12 38 (uvs (addL (amtR (V (balKey m to))).1 a)), cel b9 48 ({ (runL V m).1 with sup := addL (runL V m).1.sup a } : TokD).cells, cel b7 38 (uvs a), cel b6 35 (bvs to)]) (lay_at _ s src _ (n + 1) (balKey m to) _ rfl (hs.left _) ho (may_bal hto) hn) (Ent.refl _) ?_
 rintro _ _ ⟨rfl, rfl⟩
 conv=>whnf
 refine ⟨_, Ent.sel (T := []) (A := [_, _, _, _, _]) [0] rfl, ?_, ?_⟩
 ·rw [mintL, if_neg h1', if_neg h2, em, if_neg h3', if_neg h4, if_neg h5']; rfl
 ·rw [mintL, if_neg h1', if_neg h2, em, if_neg h3', if_neg h4, if_neg h5']; rfl
theorem burn_at (F : List HP) (s : Nat) (src : Value) (V : View) (n : Nat) (t : Int) (to a : List Nat) (hto : to.length = 20) (ha : wOk a) (hs : SrcG Tryz.prog F src find) (ho : SrcOk find) (hn : n + 1 ≤ 4398046511104) :
  SpecF Tryz.prog 46 [.pointer (some ⟨s, 0, none⟩), .int .i64 t, .agg ⟨bvs to⟩, .agg ⟨uvs a⟩] F [stP 118 s src find V n] (fun r L => r = .int .i64 (burnL V t to a).1 ∧ L = [stP 118 s src find (burnL V t to a).2 (n + 2)]) := by
 have hok := runL_ok V t
 have hl1 : (runL V t).1.cells.length = 6 := TokD.cells_len hok.len
 have hal : (uvs a).length = 4 := by rw [uvs_len, ha.len]
 refine fun46.spec rfl ?_
 conv=>whnf
 intro b6
 conv=>whnf
 intro b7
 conv=>whnf
 refine CallG.of (pre := [stP 118 s src find V n]) (rest := [cel b7 38 (uvs a), cel b6 35 (bvs to)]) (running_at _ s src V n t (hs.left _) ho) (Ent.sel (T := []) (A := [_, _, _]) [2, 0, 1] rfl) ?_
 rintro _ _ ⟨rfl, rfl⟩
 conv=>whnf
 intro b9
 conv=>whnf
 refine StoreG.at hl1 (Upd.whole (by rw [hl1]; rfl) (TokD.cells_one _)) ?_
 conv=>whnf
 refine CondG.ndec (fun h1 => ?_) (fun h1 => ?_)
 ·conv=>whnf
  refine ⟨_, (Ent.sel (T := []) (A := [_, _, _, _]) [1] rfl).trans (stP_more (m := n + 2) (by omega)), ?_, ?_⟩
  ·rw [burnL, if_pos h1]; rfl
  ·rw [burnL, if_pos h1]; rfl
 obtain ⟨m, rfl, hm⟩ := runL_nat h1
 have h1' : ¬ (runL V m).2 ≠ 0 := by rw [show (runL V m).2 = 0 from h1]; decide
 have hsl : (uvs (runL V m).1.sup).length = 4 := by rw [uvs_len, hok.len]
 conv=>whnf
 refine LoadNG.at (vs := bvs to) (by rw [bvs_len, hto]) (.tl (.tl (.tl .all))) ?_
 conv=>whnf
 refine CallG.pure (balanceKey_spec _ m hm to hto) ?_
 rintro _ _ ⟨rfl, rfl⟩
 conv=>whnf
 refine CallG.of (pre := [stP 118 s src find V n]) (rest := [cel b9 48 (runL V m).1.cells, cel b7 38 (uvs a), cel b6 35 (bvs to)]) (amount_spec _ s src V n (balKey m to) (hs.left _) ho (may_bal hto 0 (by decide))) (Ent.sel (T := []) (A := [_, _, _, _]) [1, 0, 2, 3] rfl) ?_
 rintro _ _ ⟨rfl, rfl⟩
 have hbk := amtR_ok (V (balKey m to))
 have hbl : (uvs (amtR (V (balKey m to))).1).length = 4 := by rw [uvs_len, hbk.len]
 have em : ((m : Nat) : Int).toNat = m := Int.toNat_natCast m
 conv=>whnf
 intro b12
 conv=>whnf
 refine StoreG.at hbl (Upd.whole (by rw [hbl]; rfl) (uvs_one _)) ?_
 conv=>whnf
 refine CondG.ndec (fun h3 => ?_) (fun h3 => ?_)
 ·conv=>whnf
  refine ⟨_, (Ent.sel (T := []) (A := [_, _, _, _, _]) [1] rfl).trans (stP_more (m := n + 2) (by omega)), ?_, ?_⟩
  ·rw [burnL, if_neg h1', em, if_pos h3]; rfl
  ·rw [burnL, if_neg h1', em, if_pos h3]; rfl
 have h3' : ¬ (amtR (V (balKey m to))).2 ≠ 0 := by rw [show (amtR (V (balKey m to))).2 = 0 from h3]; decide
 conv=>whnf
 refine LoadNG.at (vs := uvs (amtR (V (balKey m to))).1) hbl .all ?_
 conv=>whnf
 refine LoadNG.at (vs := uvs a) hal (.tl (.tl (.tl .all))) ?_
 conv=>whnf
 refine CallG.pure (sub_spec _ _ a hbk ha) ?_
 rintro _ _ ⟨rfl, rfl⟩
 have hB : (uvs (subR (amtR (V (balKey m to))).1 a).1).length = 4 := by rw [uvs_len, subR_ok]
 conv=>whnf
 refine StoreG.at hB (Upd.whole (by rw [hB, hbl]) (uvs_one _)) ?_
 conv=>whnf
 by_cases h4 : nat4 (amtR (V (balKey m to))).1 < nat4 a
 ·rw [subR_no h4]
  refine CondG.tt ?_
  conv=>whnf
  refine ⟨_, (Ent.sel (T := []) (A := [_, _, _, _, _]) [1] rfl).trans (stP_more (m := n + 2) (by omega)), ?_, ?_⟩
  ·rw [burnL, if_neg h1', em, if_neg h3', if_pos h4]; rfl
  ·rw [burnL, if_neg h1', em, if_neg h3', if_pos h4]; rfl
 rw [subR_yes h4]
 refine CondG.ff ?_
 conv=>whnf
 refine LoadNG.at (vs := uvs (runL V m).1.sup) hsl (.tl (.tl (.here (sup_at _)))) ?_
 conv=>whnf
 refine LoadNG.at (vs := uvs a) hal (.tl (.tl (.tl .all))) ?_
 conv=>whnf
 refine CallG.pure (sub_spec _ _ a hok ha) ?_
 rintro _ _ ⟨rfl, rfl⟩
 have hA : (uvs (subR (runL V m).1.sup a).1).length = 4 := by rw [uvs_len, subR_ok]
 conv=>whnf
 refine StoreG.at hA (Upd.tl (Upd.tl (Upd.hereN (by rw [hA, hl1]; decide) (uvs_one _) (set_sup hok.len subR_ok)))) ?_
 conv=>whnf
 by_cases h2 : nat4 (runL V m).1.sup < nat4 a
 ·rw [subR_no h2]
  refine CondG.tt ?_
  conv=>whnf
  refine ⟨_, (Ent.sel (T := []) (A := [_, _, _, _, _]) [1] rfl).trans (stP_more (m := n + 2) (by omega)), ?_, ?_⟩
  ·rw [burnL, if_neg h1', em, if_neg h3', if_neg h4, if_pos h2]; rfl
  ·rw [burnL, if_neg h1', em, if_neg h3', if_neg h4, if_pos h2]; rfl
 rw [subR_yes h2]
 have hl2 : ({ (runL V m).1 with sup := subL (runL V m).1.sup a } : TokD).cells.length = 6 := TokD.cells_len rfl
 refine CondG.ff ?_
 conv=>whnf
 refine LoadNG.at (vs := uvs a) hal (.tl (.tl (.tl .all))) ?_
 conv=>whnf
 refine CallG.pure (isZero_spec _ a ha.len) ?_
 rintro _ _ ⟨rfl, rfl⟩
 conv=>whnf
 refine CondG.dec (fun h5 => ?_) (fun h5 => ?_)
 ·have h5' : a = z4 := h5
  conv=>whnf
  refine ⟨_, (Ent.sel (T := []) (A := [_, _, _, _, _]) [1] rfl).trans (stP_more (m := n + 2) (by omega)), ?_, ?_⟩
  ·rw [burnL, if_neg h1', em, if_neg h3', if_neg h4, if_neg h2, if_pos h5']; rfl
  ·rw [burnL, if_neg h1', em, if_neg h3', if_neg h4, if_neg h2, if_pos h5']; rfl
 have h5' : ¬ a = z4 := h5
 conv=>whnf
 refine LoadNG.at (vs := ({ (runL V m).1 with sup := subL (runL V m).1.sup a } : TokD).cells) hl2 (.tl (.tl .all)) ?_
 conv=>whnf
 refine CallG.of (pre := [stP 118 s src find V n]) (rest := [cel b12 38 (uvs (subL (amtR (V (balKey m to))).1 a)), cel b9 48 ({ (runL V m).1 with sup := subL (runL V m).1.sup a } : TokD).cells, cel b7 38 (uvs a), cel b6 35 (bvs to)]) (layToken_at _ s src V n m hm { (runL V m).1 with sup := subL (runL V m).1.sup a } rfl (hs.left _) ho (by omega)) (Ent.sel (T := []) (A := [_, _, _, _, _]) [1, 0, 2, 3, 4] rfl) ?_
 rintro _ _ ⟨rfl, rfl⟩
 conv=>whnf
 refine CondG.ff ?_
 conv=>whnf
 refine LoadNG.at (vs := uvs (subL (amtR (V (balKey m to))).1 a)) rfl (.tl .all) ?_
 conv=>whnf
 refine CallG.of (pre := [stP 118 s src find (layTok V m { (runL V m).1 with sup := subL (runL V m).1.sup a }) (n + 1)]) (rest := [cel b12 38 (uvs (subL (amtR (V (balKey m to))).1 a)), cel b9 48 ({ (runL V m).1 with sup := subL (runL V m).1.sup a } : TokD).cells, cel b7 38 (uvs a), cel b6 35 (bvs to)]) (lay_at _ s src _ (n + 1) (balKey m to) _ rfl (hs.left _) ho (may_bal hto) hn) (Ent.refl _) ?_
 rintro _ _ ⟨rfl, rfl⟩
 conv=>whnf
 refine ⟨_, Ent.sel (T := []) (A := [_, _, _, _, _]) [0] rfl, ?_, ?_⟩
 ·rw [burnL, if_neg h1', em, if_neg h3', if_neg h4, if_neg h2, if_neg h5']; rfl
 ·rw [burnL, if_neg h1', em, if_neg h3', if_neg h4, if_neg h2, if_neg h5']; rfl
theorem funds_at (F : List HP) (s : Nat) (src : Value) (V : View) (n : Nat) (m : Nat) (hm : m < 64) (fr to a : List Nat) (hfr : fr.length = 20) (hto : to.length = 20) (ha : wOk a) (hs : SrcG Tryz.prog F src find) (ho : SrcOk find) :
  SpecF Tryz.prog 94 [.pointer (some ⟨s, 0, none⟩), .int .i64 m, .agg ⟨bvs fr⟩, .agg ⟨bvs to⟩, .agg ⟨uvs a⟩] F [stP 118 s src find V n] (fun r L => r = .tuple #[.agg ⟨uvs (fundsL V m fr to a).less⟩, .agg ⟨uvs (fundsL V m fr to a).more⟩, .int .i64 (fundsL V m fr to a).e] ∧ L = [stP 118 s src find V n]) := by
 have hal : (uvs a).length = 4 := by rw [uvs_len, ha.len]
 have hfk := amtR_ok (V (balKey m fr))
 have htk := amtR_ok (V (balKey m to))
 have hfl : (uvs (amtR (V (balKey m fr))).1).length = 4 := by rw [uvs_len, hfk.len]
 have htl : (uvs (amtR (V (balKey m to))).1).length = 4 := by rw [uvs_len, htk.len]
 refine fun94.spec rfl ?_
 conv=>whnf
 intro b7
 conv=>whnf
 intro b8
 conv=>whnf
 intro b9
 conv=>whnf
 intro b10
 conv=>whnf
 intro b11
 conv=>whnf
 refine LoadNG.at (vs := bvs fr) (by rw [bvs_len, hfr]) (.tl (.tl (.tl (.tl .all)))) ?_
 conv=>whnf
 refine CallG.pure (balanceKey_spec _ m hm fr hfr) ?_
 rintro _ _ ⟨rfl, rfl⟩
 conv=>whnf
 refine CallG.of (pre := [stP 118 s src find V n]) (rest := [cel b11 38 (uvs z4), cel b10 38 (uvs z4), cel b9 38 (uvs a), cel b8 35 (bvs to), cel b7 35 (bvs fr)]) (amount_spec _ s src V n (balKey m fr) (hs.left _) ho (may_bal hfr 0 (by decide))) (Ent.sel (T := []) (A := [_, _, _, _, _, _]) [5, 0, 1, 2, 3, 4] rfl) ?_
 rintro _ _ ⟨rfl, rfl⟩
 conv=>whnf
 intro b13
 conv=>whnf
 refine StoreG.at hfl (Upd.whole (by rw [hfl]; rfl) (uvs_one _)) ?_
 conv=>whnf
 refine CondG.ndec (fun h1 => ?_) (fun h1 => ?_)
 ·conv=>whnf
  refine DrawG.mk 6 [] [cel b13 38 (uvs (amtR (V (balKey m fr))).1), stP 118 s src find V n, cel b11 38 (uvs z4), cel b10 38 (uvs z4), cel b9 38 (uvs a), cel b8 35 (bvs to), cel b7 35 (bvs fr)] (by rw [List.append_nil]; exact Ent.refl _) ?_
  conv=>whnf
  refine .take 2 ?_
  conv=>whnf
  refine ⟨rfl, ?_⟩
  conv=>whnf
  refine .all ?_
  conv=>whnf
  refine ⟨by decide, ?_, ?_⟩
  conv=>whnf
  refine LoadNG.at (vs := uvs z4) rfl (.tl (.tl (.tl .all))) ?_
  conv=>whnf
  refine .all ?_
  conv=>whnf
  refine ⟨by decide, ?_, ?_⟩
  conv=>whnf
  refine LoadNG.at (vs := uvs z4) rfl (.tl (.tl .all)) ?_
  conv=>whnf
  refine .all ?_
  conv=>whnf
  refine ⟨by decide, ?_⟩
  conv=>whnf
  refine StoreG.at rfl (Upd.tl (Upd.tl (Upd.tl (Upd.whole rfl (uvs_one (z4)))))) ?_
  conv=>whnf
  refine .all ?_
  conv=>whnf
  refine ⟨by decide, ?_⟩
  conv=>whnf
  refine StoreG.at rfl (Upd.tl (Upd.tl (Upd.whole rfl (uvs_one (z4))))) ?_
  conv=>whnf
  rotate_left
  conv=>whnf
  refine StoreG.at rfl (Upd.tl (Upd.tl (Upd.tl (Upd.whole rfl (uvs_one (z4)))))) ?_
  conv=>whnf
  refine .all ?_
  conv=>whnf
  refine ⟨by decide, ?_⟩
  conv=>whnf
  refine LoadNG.at (vs := uvs z4) rfl (.tl (.tl .all)) ?_
  conv=>whnf
  refine .all ?_
  conv=>whnf
  refine ⟨by decide, ?_⟩
  conv=>whnf
  refine StoreG.at rfl (Upd.tl (Upd.tl (Upd.whole rfl (uvs_one (z4))))) ?_
  conv=>whnf
  rotate_left
  conv=>whnf
  refine LoadNG.at (vs := uvs z4) rfl (.tl (.tl .all)) ?_
  conv=>whnf
  refine .all ?_
  conv=>whnf
  refine ⟨by decide, ?_⟩
  conv=>whnf
  refine LoadNG.at (vs := uvs z4) rfl (.tl (.tl (.tl .all))) ?_
  conv=>whnf
  refine .all ?_
  conv=>whnf
  refine ⟨by decide, ?_⟩
  conv=>whnf
  refine StoreG.at rfl (Upd.tl (Upd.tl (Upd.tl (Upd.whole rfl (uvs_one (z4)))))) ?_
  conv=>whnf
  refine .all ?_
  conv=>whnf
  refine ⟨by decide, ?_⟩
  conv=>whnf
  refine StoreG.at rfl (Upd.tl (Upd.tl (Upd.whole rfl (uvs_one (z4))))) ?_
  conv=>whnf
  all_goals
   refine .take 5 ?_
   conv=>whnf
   refine ⟨rfl, ?_⟩
   conv=>whnf
   refine ⟨rfl, ?_⟩
   conv=>whnf
   refine LoadNG.at (vs := uvs z4) rfl (.tl (.tl (.tl .all))) ?_
   conv=>whnf
   refine LoadNG.at (vs := uvs z4) rfl (.tl (.tl .all)) ?_
   conv=>whnf
   refine ⟨_, Ent.sel (T := []) (A := [_, _, _, _, _, _, _]) [1] rfl, ?_, rfl⟩
   rw [fundsL, if_pos h1]
   rfl
 have h1' : ¬ (amtR (V (balKey m fr))).2 ≠ 0 := by rw [show (amtR (V (balKey m fr))).2 = 0 from h1]; decide
 conv=>whnf
 refine LoadNG.at (vs := uvs (amtR (V (balKey m fr))).1) hfl .all ?_
 conv=>whnf
 refine LoadNG.at (vs := uvs a) hal (.tl (.tl (.tl (.tl .all)))) ?_
 conv=>whnf
 refine CallG.pure (sub_spec _ _ a hfk ha) ?_
 rintro _ _ ⟨rfl, rfl⟩
 have hB : (uvs (subR (amtR (V (balKey m fr))).1 a).1).length = 4 := by rw [uvs_len, subR_ok]
 conv=>whnf
 refine StoreG.at hB (Upd.tl (Upd.tl (Upd.tl (Upd.whole (by rw [hB]; rfl) (uvs_one _))))) ?_
 conv=>whnf
 by_cases h2 : nat4 (amtR (V (balKey m fr))).1 < nat4 a
 ·rw [subR_no h2]
  refine CondG.tt ?_
  conv=>whnf
  refine DrawG.mk 5 [] [cel b13 38 (uvs (amtR (V (balKey m fr))).1), stP 118 s src find V n, cel b11 38 (uvs z4), cel b10 38 (uvs z4), cel b9 38 (uvs a), cel b8 35 (bvs to), cel b7 35 (bvs fr)] (by rw [List.append_nil]; exact Ent.refl _) ?_
  conv=>whnf
  refine .take 0 ?_
  conv=>whnf
  refine ⟨rfl, ?_⟩
  conv=>whnf
  refine BuildG.of rfl ?_
  conv=>whnf
  refine .all ?_
  conv=>whnf
  refine ⟨by decide, ?_, ?_⟩
  conv=>whnf
  refine LoadNG.at (vs := uvs z4) rfl (.tl (.tl .all)) ?_
  conv=>whnf
  refine .all ?_
  conv=>whnf
  refine ⟨by decide, ?_⟩
  conv=>whnf
  refine StoreG.at rfl (Upd.tl (Upd.tl (Upd.tl (Upd.whole rfl (uvs_one (z4)))))) ?_
  conv=>whnf
  refine .all ?_
  conv=>whnf
  refine ⟨by decide, ?_⟩
  conv=>whnf
  refine StoreG.at rfl (Upd.tl (Upd.tl (Upd.whole rfl (uvs_one (z4))))) ?_
  conv=>whnf
  rotate_left
  conv=>whnf
  refine StoreG.at rfl (Upd.tl (Upd.tl (Upd.tl (Upd.whole rfl (uvs_one (z4)))))) ?_
  conv=>whnf
  refine .all ?_
  conv=>whnf
  refine ⟨by decide, ?_⟩
  conv=>whnf
  refine LoadNG.at (vs := uvs z4) rfl (.tl (.tl .all)) ?_
  conv=>whnf
  refine .all ?_
  conv=>whnf
  refine ⟨by decide, ?_⟩
  conv=>whnf
  refine StoreG.at rfl (Upd.tl (Upd.tl (Upd.whole rfl (uvs_one (z4))))) ?_
  conv=>whnf
  all_goals
   refine .take 4 ?_
   conv=>whnf
   refine ⟨rfl, ?_⟩
   conv=>whnf
   refine ⟨rfl, ?_⟩
   conv=>whnf
   refine LoadNG.at (vs := uvs z4) rfl (.tl (.tl (.tl .all))) ?_
   conv=>whnf
   refine LoadNG.at (vs := uvs z4) rfl (.tl (.tl .all)) ?_
   conv=>whnf
   refine ⟨_, Ent.sel (T := []) (A := [_, _, _, _, _, _, _]) [1] rfl, ?_, rfl⟩
   rw [fundsL, if_neg h1', if_pos h2]
   rfl
 rw [subR_yes h2]
 refine CondG.ff ?_
 conv=>whnf
 refine LoadNG.at (vs := bvs to) (by rw [bvs_len, hto]) (.tl (.tl (.tl (.tl (.tl .all))))) ?_
 conv=>whnf
 refine CallG.pure (balanceKey_spec _ m hm to hto) ?_
 rintro _ _ ⟨rfl, rfl⟩
 conv=>whnf
 refine CallG.of (pre := [stP 118 s src find V n]) (rest := [cel b13 38 (uvs (amtR (V (balKey m fr))).1), cel b11 38 (uvs z4), cel b10 38 (uvs (subL (amtR (V (balKey m fr))).1 a)), cel b9 38 (uvs a), cel b8 35 (bvs to), cel b7 35 (bvs fr)]) (amount_spec _ s src V n (balKey m to) (hs.left _) ho (may_bal hto 0 (by decide))) (Ent.sel (T := []) (A := [_, _, _, _, _, _, _]) [1, 0, 2, 3, 4, 5, 6] rfl) ?_
 rintro _ _ ⟨rfl, rfl⟩
 conv=>whnf
 intro b14
 conv=>whnf
 refine StoreG.at htl (Upd.whole (by rw [htl]; rfl) (uvs_one _)) ?_
 conv=>whnf
 have fin9 : (amtR (V (balKey m to))).2 ≠ 0 ∨ fr = to → fundsL V m fr to a = ⟨subL (amtR (V (balKey m fr))).1 a, (amtR (V (balKey m to))).1, (amtR (V (balKey m to))).2⟩ := fun h => by rw [fundsL, if_neg h1', if_neg h2, if_pos h]
 have hsb : (uvs (subL (amtR (V (balKey m fr))).1 a)).length = 4 := rfl
 refine CondG.ndec (fun h3 => ?_) (fun h3 => ?_)
 ·rw [fin9 (.inl h3)]
  (conv=>whnf);repeat((with_reducible first|refine .tt ?_|refine .ff ?_);conv=>whnf)
  refine DrawG.mk 6 [] [cel b14 38 (uvs (amtR (V (balKey m to))).1), stP 118 s src find V n, cel b13 38 (uvs (amtR (V (balKey m fr))).1), cel b11 38 (uvs z4), cel b10 38 (uvs (subL (amtR (V (balKey m fr))).1 a)), cel b9 38 (uvs a), cel b8 35 (bvs to), cel b7 35 (bvs fr)] (by rw [List.append_nil]; exact Ent.refl _) ?_
  conv=>whnf
  refine .take 2 ?_
  conv=>whnf
  refine ⟨rfl, ?_⟩
  conv=>whnf
  refine .all ?_
  conv=>whnf
  refine ⟨by decide, ?_, ?_⟩
  conv=>whnf
  refine LoadNG.at (vs := uvs (subL (amtR (V (balKey m fr))).1 a)) rfl (.tl (.tl (.tl (.tl .all)))) ?_
  conv=>whnf
  refine .all ?_
  conv=>whnf
  refine ⟨by decide, ?_, ?_⟩
  conv=>whnf
  refine LoadNG.at (vs := uvs (amtR (V (balKey m to))).1) htl .all ?_
  conv=>whnf
  refine .all ?_
  conv=>whnf
  refine ⟨by decide, ?_⟩
  conv=>whnf
  refine StoreG.at rfl (Upd.tl (Upd.tl (Upd.tl (Upd.tl (Upd.whole rfl (uvs_one ((subL (amtR (V (balKey m fr))).1 a)))))))) ?_
  conv=>whnf
  refine .all ?_
  conv=>whnf
  refine ⟨by decide, ?_⟩
  conv=>whnf
  refine StoreG.at htl (Upd.tl (Upd.tl (Upd.tl (Upd.whole (by rw [htl]; rfl) (uvs_one ((amtR (V (balKey m to))).1)))))) ?_
  conv=>whnf
  rotate_left
  conv=>whnf
  refine StoreG.at rfl (Upd.tl (Upd.tl (Upd.tl (Upd.tl (Upd.whole rfl (uvs_one ((subL (amtR (V (balKey m fr))).1 a)))))))) ?_
  conv=>whnf
  refine .all ?_
  conv=>whnf
  refine ⟨by decide, ?_⟩
  conv=>whnf
  refine LoadNG.at (vs := uvs (amtR (V (balKey m to))).1) htl .all ?_
  conv=>whnf
  refine .all ?_
  conv=>whnf
  refine ⟨by decide, ?_⟩
  conv=>whnf
  refine StoreG.at htl (Upd.tl (Upd.tl (Upd.tl (Upd.whole (by rw [htl]; rfl) (uvs_one ((amtR (V (balKey m to))).1)))))) ?_
  conv=>whnf
  rotate_left
  conv=>whnf
  refine LoadNG.at (vs := uvs (amtR (V (balKey m to))).1) htl .all ?_
  conv=>whnf
  refine .all ?_
  conv=>whnf
  refine ⟨by decide, ?_⟩
  conv=>whnf
  refine LoadNG.at (vs := uvs (subL (amtR (V (balKey m fr))).1 a)) rfl (.tl (.tl (.tl (.tl .all)))) ?_
  conv=>whnf
  refine .all ?_
  conv=>whnf
  refine ⟨by decide, ?_⟩
  conv=>whnf
  refine StoreG.at rfl (Upd.tl (Upd.tl (Upd.tl (Upd.tl (Upd.whole rfl (uvs_one ((subL (amtR (V (balKey m fr))).1 a)))))))) ?_
  conv=>whnf
  refine .all ?_
  conv=>whnf
  refine ⟨by decide, ?_⟩
  conv=>whnf
  refine StoreG.at htl (Upd.tl (Upd.tl (Upd.tl (Upd.whole (by rw [htl]; rfl) (uvs_one ((amtR (V (balKey m to))).1)))))) ?_
  conv=>whnf
  all_goals
   refine .take 5 ?_
   conv=>whnf
   refine ⟨rfl, ?_⟩
   conv=>whnf
   refine ⟨rfl, ?_⟩
   conv=>whnf
   refine LoadNG.at (vs := uvs (subL (amtR (V (balKey m fr))).1 a)) rfl (.tl (.tl (.tl (.tl .all)))) ?_
   conv=>whnf
   refine LoadNG.at (vs := uvs (amtR (V (balKey m to))).1) htl (.tl (.tl (.tl .all))) ?_
   conv=>whnf
   exact ⟨_, Ent.sel (T := []) (A := [_, _, _, _, _, _, _, _]) [1] rfl, rfl, rfl⟩
 conv=>whnf
 refine LoadNG.at (vs := bvs fr) (by rw [bvs_len, hfr]) (.tl (.tl (.tl (.tl (.tl (.tl (.tl .all))))))) ?_
 (conv=>whnf);repeat((with_reducible first|refine .tt ?_|refine .ff ?_);conv=>whnf)
 refine LoadNG.at (vs := bvs to) (by rw [bvs_len, hto]) (.tl (.tl (.tl (.tl (.tl (.tl .all)))))) ?_
 (conv=>whnf);repeat((with_reducible first|refine .tt ?_|refine .ff ?_);conv=>whnf)
 refine DoesG.eqv 8 (List.replicate 20 (.int .u8)) (by kernel_rfl) (by decide) (by kernel_rfl) (by kernel_rfl) (wt_bvs hfr) (wt_bvs hto) ?_
 (conv=>whnf);repeat((with_reducible first|refine .tt ?_|refine .ff ?_);conv=>whnf)
 refine CondG.split (fun h4 => ?_) (fun h4 => ?_)
 ·simp only [decide_eq_true_eq] at h4
  rw [fin9 (.inr (bvs_inj.1 h4))]
  conv=>whnf
  refine DrawG.mk 6 [] [cel b14 38 (uvs (amtR (V (balKey m to))).1), stP 118 s src find V n, cel b13 38 (uvs (amtR (V (balKey m fr))).1), cel b11 38 (uvs z4), cel b10 38 (uvs (subL (amtR (V (balKey m fr))).1 a)), cel b9 38 (uvs a), cel b8 35 (bvs to), cel b7 35 (bvs fr)] (by rw [List.append_nil]; exact Ent.refl _) ?_
  conv=>whnf
  refine .take 2 ?_
  conv=>whnf
  refine ⟨rfl, ?_⟩
  conv=>whnf
  refine .all ?_
  conv=>whnf
  refine ⟨by decide, ?_, ?_⟩
  conv=>whnf
  refine LoadNG.at (vs := uvs (subL (amtR (V (balKey m fr))).1 a)) rfl (.tl (.tl (.tl (.tl .all)))) ?_
  conv=>whnf
  refine .all ?_
  conv=>whnf
  refine ⟨by decide, ?_, ?_⟩
  conv=>whnf
  refine LoadNG.at (vs := uvs (amtR (V (balKey m to))).1) htl .all ?_
  conv=>whnf
  refine .all ?_
  conv=>whnf
  refine ⟨by decide, ?_⟩
  conv=>whnf
  refine StoreG.at rfl (Upd.tl (Upd.tl (Upd.tl (Upd.tl (Upd.whole rfl (uvs_one ((subL (amtR (V (balKey m fr))).1 a)))))))) ?_
  conv=>whnf
  refine .all ?_
  conv=>whnf
  refine ⟨by decide, ?_⟩
  conv=>whnf
  refine StoreG.at htl (Upd.tl (Upd.tl (Upd.tl (Upd.whole (by rw [htl]; rfl) (uvs_one ((amtR (V (balKey m to))).1)))))) ?_
  conv=>whnf
  rotate_left
  conv=>whnf
  refine StoreG.at rfl (Upd.tl (Upd.tl (Upd.tl (Upd.tl (Upd.whole rfl (uvs_one ((subL (amtR (V (balKey m fr))).1 a)))))))) ?_
  conv=>whnf
  refine .all ?_
  conv=>whnf
  refine ⟨by decide, ?_⟩
  conv=>whnf
  refine LoadNG.at (vs := uvs (amtR (V (balKey m to))).1) htl .all ?_
  conv=>whnf
  refine .all ?_
  conv=>whnf
  refine ⟨by decide, ?_⟩
  conv=>whnf
  refine StoreG.at htl (Upd.tl (Upd.tl (Upd.tl (Upd.whole (by rw [htl]; rfl) (uvs_one ((amtR (V (balKey m to))).1)))))) ?_
  conv=>whnf
  rotate_left
  conv=>whnf
  refine LoadNG.at (vs := uvs (amtR (V (balKey m to))).1) htl .all ?_
  conv=>whnf
  refine .all ?_
  conv=>whnf
  refine ⟨by decide, ?_⟩
  conv=>whnf
  refine LoadNG.at (vs := uvs (subL (amtR (V (balKey m fr))).1 a)) rfl (.tl (.tl (.tl (.tl .all)))) ?_
  conv=>whnf
  refine .all ?_
  conv=>whnf
  refine ⟨by decide, ?_⟩
  conv=>whnf
  refine StoreG.at rfl (Upd.tl (Upd.tl (Upd.tl (Upd.tl (Upd.whole rfl (uvs_one ((subL (amtR (V (balKey m fr))).1 a)))))))) ?_
  conv=>whnf
  refine .all ?_
  conv=>whnf
  refine ⟨by decide, ?_⟩
  conv=>whnf
  refine StoreG.at htl (Upd.tl (Upd.tl (Upd.tl (Upd.whole (by rw [htl]; rfl) (uvs_one ((amtR (V (balKey m to))).1)))))) ?_
  conv=>whnf
  all_goals
   refine .take 5 ?_
   conv=>whnf
   refine ⟨rfl, ?_⟩
   conv=>whnf
   refine ⟨rfl, ?_⟩
   conv=>whnf
   refine LoadNG.at (vs := uvs (subL (amtR (V (balKey m fr))).1 a)) rfl (.tl (.tl (.tl (.tl .all)))) ?_
   conv=>whnf
   refine LoadNG.at (vs := uvs (amtR (V (balKey m to))).1) htl (.tl (.tl (.tl .all))) ?_
   conv=>whnf
   exact ⟨_, Ent.sel (T := []) (A := [_, _, _, _, _, _, _, _]) [1] rfl, rfl, rfl⟩
 simp only [decide_eq_false_iff_not] at h4
 have h34 : ¬ ((amtR (V (balKey m to))).2 ≠ 0 ∨ fr = to) := fun h => by
  rcases h with h | h
  ·exact h h3
  ·exact h4 (by rw [h])
 conv=>whnf
 refine LoadNG.at (vs := uvs (amtR (V (balKey m to))).1) htl .all ?_
 conv=>whnf
 refine LoadNG.at (vs := uvs a) hal (.tl (.tl (.tl (.tl (.tl .all))))) ?_
 conv=>whnf
 refine CallG.pure (add_spec _ _ a htk ha) ?_
 rintro _ _ ⟨rfl, rfl⟩
 have hC : (uvs (addR (amtR (V (balKey m to))).1 a).1).length = 4 := by rw [uvs_len, addR_ok]
 conv=>whnf
 refine StoreG.at hC (Upd.tl (Upd.tl (Upd.tl (Upd.whole (by rw [hC]; rfl) (uvs_one _))))) ?_
 conv=>whnf
 by_cases h5 : m256 ≤ nat4 (amtR (V (balKey m to))).1 + nat4 a
 ·rw [addR_no h5]
  refine CondG.tt ?_
  conv=>whnf
  refine LoadNG.at (vs := uvs (subL (amtR (V (balKey m fr))).1 a)) rfl (.tl (.tl (.tl (.tl .all)))) ?_
  conv=>whnf
  refine BuildG.of rfl ?_
  conv=>whnf
  refine StoreG.at rfl (Upd.tl (Upd.tl (Upd.tl (Upd.tl (Upd.whole rfl (uvs_one (subL (amtR (V (balKey m fr))).1 a))))))) ?_
  conv=>whnf
  refine StoreG.at rfl (Upd.tl (Upd.tl (Upd.tl (Upd.whole rfl (uvs_one z4))))) ?_
  conv=>whnf
  refine LoadNG.at (vs := uvs (subL (amtR (V (balKey m fr))).1 a)) rfl (.tl (.tl (.tl (.tl .all)))) ?_
  conv=>whnf
  refine LoadNG.at (vs := uvs z4) rfl (.tl (.tl (.tl .all))) ?_
  conv=>whnf
  refine ⟨_, Ent.sel (T := []) (A := [_, _, _, _, _, _, _, _]) [1] rfl, ?_, rfl⟩
  rw [fundsL, if_neg h1', if_neg h2, if_neg h34, if_pos h5]
  rfl
 rw [addR_yes h5]
 refine CondG.ff ?_
 conv=>whnf
 refine DrawG.mk 5 [] [cel b14 38 (uvs (amtR (V (balKey m to))).1), stP 118 s src find V n, cel b13 38 (uvs (amtR (V (balKey m fr))).1), cel b11 38 (uvs (addL (amtR (V (balKey m to))).1 a)), cel b10 38 (uvs (subL (amtR (V (balKey m fr))).1 a)), cel b9 38 (uvs a), cel b8 35 (bvs to), cel b7 35 (bvs fr)] (by rw [List.append_nil]; exact Ent.refl _) ?_
 conv=>whnf
 refine .all ?_
 conv=>whnf
 refine ⟨by decide, ?_, ?_⟩
 conv=>whnf
 refine LoadNG.at (vs := uvs (subL (amtR (V (balKey m fr))).1 a)) rfl (.tl (.tl (.tl (.tl .all)))) ?_
 conv=>whnf
 refine .all ?_
 conv=>whnf
 refine ⟨by decide, ?_, ?_⟩
 conv=>whnf
 refine LoadNG.at (vs := uvs (addL (amtR (V (balKey m to))).1 a)) rfl (.tl (.tl (.tl .all))) ?_
 conv=>whnf
 refine .all ?_
 conv=>whnf
 refine ⟨by decide, ?_⟩
 conv=>whnf
 refine StoreG.at rfl (Upd.tl (Upd.tl (Upd.tl (Upd.tl (Upd.whole rfl (uvs_one ((subL (amtR (V (balKey m fr))).1 a)))))))) ?_
 conv=>whnf
 refine .all ?_
 conv=>whnf
 refine ⟨by decide, ?_⟩
 conv=>whnf
 refine StoreG.at rfl (Upd.tl (Upd.tl (Upd.tl (Upd.whole rfl (uvs_one ((addL (amtR (V (balKey m to))).1 a))))))) ?_
 conv=>whnf
 rotate_left
 conv=>whnf
 refine StoreG.at rfl (Upd.tl (Upd.tl (Upd.tl (Upd.tl (Upd.whole rfl (uvs_one ((subL (amtR (V (balKey m fr))).1 a)))))))) ?_
 conv=>whnf
 refine .all ?_
 conv=>whnf
 refine ⟨by decide, ?_⟩
 conv=>whnf
 refine LoadNG.at (vs := uvs (addL (amtR (V (balKey m to))).1 a)) rfl (.tl (.tl (.tl .all))) ?_
 conv=>whnf
 refine .all ?_
 conv=>whnf
 refine ⟨by decide, ?_⟩
 conv=>whnf
 refine StoreG.at rfl (Upd.tl (Upd.tl (Upd.tl (Upd.whole rfl (uvs_one ((addL (amtR (V (balKey m to))).1 a))))))) ?_
 conv=>whnf
 rotate_left
 conv=>whnf
 refine LoadNG.at (vs := uvs (addL (amtR (V (balKey m to))).1 a)) rfl (.tl (.tl (.tl .all))) ?_
 conv=>whnf
 refine .all ?_
 conv=>whnf
 refine ⟨by decide, ?_⟩
 conv=>whnf
 refine LoadNG.at (vs := uvs (subL (amtR (V (balKey m fr))).1 a)) rfl (.tl (.tl (.tl (.tl .all)))) ?_
 conv=>whnf
 refine .all ?_
 conv=>whnf
 refine ⟨by decide, ?_⟩
 conv=>whnf
 refine StoreG.at rfl (Upd.tl (Upd.tl (Upd.tl (Upd.tl (Upd.whole rfl (uvs_one ((subL (amtR (V (balKey m fr))).1 a)))))))) ?_
 conv=>whnf
 refine .all ?_
 conv=>whnf
 refine ⟨by decide, ?_⟩
 conv=>whnf
 refine StoreG.at rfl (Upd.tl (Upd.tl (Upd.tl (Upd.whole rfl (uvs_one ((addL (amtR (V (balKey m to))).1 a))))))) ?_
 conv=>whnf
 all_goals
  refine .take 4 ?_
  conv=>whnf
  refine ⟨rfl, ?_⟩
  conv=>whnf
  refine ⟨rfl, ?_⟩
  conv=>whnf
  refine LoadNG.at (vs := uvs (subL (amtR (V (balKey m fr))).1 a)) rfl (.tl (.tl (.tl (.tl .all)))) ?_
  conv=>whnf
  refine LoadNG.at (vs := uvs (addL (amtR (V (balKey m to))).1 a)) rfl (.tl (.tl (.tl .all))) ?_
  conv=>whnf
  refine ⟨_, Ent.sel (T := []) (A := [_, _, _, _, _, _, _, _]) [1] rfl, ?_, rfl⟩
  rw [fundsL, if_neg h1', if_neg h2, if_neg h34, if_neg h5]
  rfl
theorem turn_at (F : List HP) (s : Nat) (src : Value) (V : View) (n : Nat) (m : Nat) (hm : m < 64) (fr to a less more : List Nat) (hfr : fr.length = 20) (hto : to.length = 20) (ha : a.length = 4) (hl : less.length = 4) (hr : more.length = 4) (hs : SrcG Tryz.prog F src find) (ho : SrcOk find) (hn : n + 1 ≤ 4398046511104) :
  SpecF Tryz.prog 95 [.pointer (some ⟨s, 0, none⟩), .int .i64 m, .agg ⟨bvs fr⟩, .agg ⟨bvs to⟩, .agg ⟨uvs a⟩, .agg ⟨uvs less⟩, .agg ⟨uvs more⟩] F [stP 118 s src find V n] (fun r L => r = .int .i64 0 ∧ L = [stP 118 s src find (turnL V m fr to a less more) (n + 2)]) := by
 have hal : (uvs a).length = 4 := by rw [uvs_len, ha]
 have hll : (uvs less).length = 4 := by rw [uvs_len, hl]
 have hrl : (uvs more).length = 4 := by rw [uvs_len, hr]
 refine fun95.spec rfl ?_
 conv=>whnf
 intro b9
 conv=>whnf
 intro b10
 conv=>whnf
 intro b11
 conv=>whnf
 intro b12
 conv=>whnf
 intro b13
 conv=>whnf
 refine LoadNG.at (vs := bvs fr) (by rw [bvs_len, hfr]) (.tl (.tl (.tl (.tl .all)))) ?_
 conv=>whnf
 refine LoadNG.at (vs := bvs to) (by rw [bvs_len, hto]) (.tl (.tl (.tl .all))) ?_
 conv=>whnf
 refine DoesG.eqv 8 (List.replicate 20 (.int .u8)) (by kernel_rfl) (by decide) (by kernel_rfl) (by kernel_rfl) (wt_bvs hfr) (wt_bvs hto) ?_
 conv=>whnf
 refine CondG.split (fun h1 => ?_) (fun h1 => ?_)
 ·simp only [decide_eq_true_eq] at h1
  have h1 := bvs_inj.1 h1
  (conv=>whnf);repeat((with_reducible first|refine .tt ?_|refine .ff ?_);conv=>whnf)
  refine ⟨_, (Ent.sel (T := []) (A := [_, _, _, _, _, _]) [5] rfl).trans (stP_more (m := n + 2) (by omega)), rfl, ?_⟩
  rw [turnL, if_pos (.inl h1)]
  rfl
 simp only [decide_eq_false_iff_not] at h1
 have h1 : ¬ fr = to := fun e => h1 (by rw [e])
 conv=>whnf
 refine LoadNG.at (vs := uvs a) hal (.tl (.tl .all)) ?_
 (conv=>whnf);repeat((with_reducible first|refine .tt ?_|refine .ff ?_);conv=>whnf)
 refine CallG.pure (isZero_spec _ a ha) ?_
 rintro _ _ ⟨rfl, rfl⟩
 (conv=>whnf);repeat((with_reducible first|refine .tt ?_|refine .ff ?_);conv=>whnf)
 refine CondG.dec (fun h2 => ?_) (fun h2 => ?_)
 ·have h2 : a = z4 := h2
  conv=>whnf
  refine ⟨_, (Ent.sel (T := []) (A := [_, _, _, _, _, _]) [5] rfl).trans (stP_more (m := n + 2) (by omega)), rfl, ?_⟩
  rw [turnL, if_pos (.inr h2)]
  rfl
 have h2 : ¬ a = z4 := h2
 conv=>whnf
 refine DrawG.mk 7 [cel b13 38 (uvs more), cel b12 38 (uvs less), cel b11 38 (uvs a), cel b10 35 (bvs to), cel b9 35 (bvs fr)] [stP 118 s src find V n] (Ent.sel (T := []) (A := [_, _, _, _, _, _]) [5, 0, 1, 2, 3, 4] rfl) ?_
 conv=>whnf
 refine .take 0 ?_
 conv=>whnf
 refine ⟨rfl, ?_⟩
 conv=>whnf
 refine .take 1 ?_
 conv=>whnf
 refine ⟨rfl, ?_⟩
 conv=>whnf
 refine .take 2 ?_
 conv=>whnf
 refine ⟨rfl, ?_⟩
 conv=>whnf
 refine LoadNG.at (vs := bvs fr) (by rw [bvs_len, hfr]) (.tl (.tl (.tl (.tl .all)))) ?_
 conv=>whnf
 refine .take 4 ?_
 conv=>whnf
 refine ⟨rfl, ?_⟩
 conv=>whnf
 refine LoadNG.at (vs := uvs less) hll (.tl .all) ?_
 conv=>whnf
 refine .all ?_
 conv=>whnf
 refine ⟨by decide, ?_⟩
 conv=>whnf
 refine CallG.pure (balanceKey_spec _ m hm fr hfr) ?_
 rintro _ _ ⟨rfl, rfl⟩
 conv=>whnf
 refine .all ?_
 conv=>whnf
 refine ⟨by decide, ?_⟩
 conv=>whnf
 refine CallG.of (pre := [stP 118 s src find V (n)]) (rest := []) (lay_at _ s src _ (n) (balKey m fr) less hl ((hs.left _).left _) ho (may_bal hfr) (by omega)) (Ent.refl _) ?_
 rintro _ _ ⟨rfl, rfl⟩
 conv=>whnf
 refine .take 6 ?_
 conv=>whnf
 refine ⟨rfl, ?_⟩
 conv=>whnf
 refine ⟨rfl, ?_⟩
 conv=>whnf
 refine CondG.ff ?_
 conv=>whnf
 refine DrawG.mk 7 [cel b13 38 (uvs more), cel b12 38 (uvs less), cel b11 38 (uvs a), cel b10 35 (bvs to), cel b9 35 (bvs fr)] [stP 118 s src find (layA V (balKey m fr) less) (n + 1)] (Ent.sel (T := []) (A := [_, _, _, _, _, _]) [0, 1, 2, 3, 4, 5] rfl) ?_
 conv=>whnf
 refine .take 0 ?_
 conv=>whnf
 refine ⟨rfl, ?_⟩
 conv=>whnf
 refine .take 1 ?_
 conv=>whnf
 refine ⟨rfl, ?_⟩
 conv=>whnf
 refine .take 2 ?_
 conv=>whnf
 refine ⟨rfl, ?_⟩
 conv=>whnf
 refine LoadNG.at (vs := bvs to) (by rw [bvs_len, hto]) (.tl (.tl (.tl .all))) ?_
 conv=>whnf
 refine .take 4 ?_
 conv=>whnf
 refine ⟨rfl, ?_⟩
 conv=>whnf
 refine LoadNG.at (vs := uvs more) hrl .all ?_
 conv=>whnf
 refine .all ?_
 conv=>whnf
 refine ⟨by decide, ?_⟩
 conv=>whnf
 refine CallG.pure (balanceKey_spec _ m hm to hto) ?_
 rintro _ _ ⟨rfl, rfl⟩
 conv=>whnf
 refine .all ?_
 conv=>whnf
 refine ⟨by decide, ?_⟩
 conv=>whnf
 refine CallG.of (pre := [stP 118 s src find (layA V (balKey m fr) less) ((n + 1))]) (rest := []) (lay_at _ s src _ ((n + 1)) (balKey m to) more hr ((hs.left _).left _) ho (may_bal hto) (by omega)) (Ent.refl _) ?_
 rintro _ _ ⟨rfl, rfl⟩
 conv=>whnf
 refine .take 6 ?_
 conv=>whnf
 refine ⟨rfl, ?_⟩
 conv=>whnf
 refine ⟨rfl, ?_⟩
 conv=>whnf
 refine ⟨_, Ent.sel (T := []) (A := [_, _, _, _, _, _]) [0] rfl, rfl, ?_⟩
 rw [turnL, if_neg (fun h => h.elim h1 h2)]
 rfl
theorem move_at (F : List HP) (s : Nat) (src : Value) (V : View) (n : Nat) (t : Int) (fr to a : List Nat) (hfr : fr.length = 20) (hto : to.length = 20) (ha : wOk a) (hs : SrcG Tryz.prog F src find) (ho : SrcOk find) (hn : n + 1 ≤ 4398046511104) :
  SpecF Tryz.prog 38 [.pointer (some ⟨s, 0, none⟩), .int .i64 t, .agg ⟨bvs fr⟩, .agg ⟨bvs to⟩, .agg ⟨uvs a⟩] F [stP 118 s src find V n] (fun r L => r = .int .i64 (moveL V t fr to a).1 ∧ L = [stP 118 s src find (moveL V t fr to a).2 (n + 2)]) := by
 have hok := runL_ok V t
 have hl1 : (runL V t).1.cells.length = 6 := TokD.cells_len hok.len
 have hal : (uvs a).length = 4 := by rw [uvs_len, ha.len]
 refine fun38.spec rfl ?_
 conv=>whnf
 intro b7
 conv=>whnf
 intro b8
 conv=>whnf
 intro b9
 conv=>whnf
 refine CallG.of (pre := [stP 118 s src find V n]) (rest := [cel b9 38 (uvs a), cel b8 35 (bvs to), cel b7 35 (bvs fr)]) (running_at _ s src V n t (hs.left _) ho) (Ent.sel (T := []) (A := [_, _, _, _]) [3, 0, 1, 2] rfl) ?_
 rintro _ _ ⟨rfl, rfl⟩
 conv=>whnf
 intro b11
 conv=>whnf
 refine StoreG.at hl1 (Upd.whole (by rw [hl1]; rfl) (TokD.cells_one _)) ?_
 conv=>whnf
 refine CondG.ndec (fun h1 => ?_) (fun h1 => ?_)
 ·conv=>whnf
  refine ⟨_, (Ent.sel (T := []) (A := [_, _, _, _, _]) [1] rfl).trans (stP_more (m := n + 2) (by omega)), ?_, ?_⟩
  ·rw [moveL, if_pos h1]; rfl
  ·rw [moveL, if_pos h1]; rfl
 obtain ⟨m, rfl, hm⟩ := runL_nat h1
 have h1' : ¬ (runL V m).2 ≠ 0 := by rw [show (runL V m).2 = 0 from h1]; decide
 have em : ((m : Nat) : Int).toNat = m := Int.toNat_natCast m
 have hfo := fundsL_ok V m fr to a
 have hfl : (uvs (fundsL V m fr to a).less).length = 4 := by rw [uvs_len, hfo.1.len]
 have hfm : (uvs (fundsL V m fr to a).more).length = 4 := by rw [uvs_len, hfo.2.len]
 conv=>whnf
 refine LoadNG.at (vs := bvs fr) (by rw [bvs_len, hfr]) (.tl (.tl (.tl (.tl .all)))) ?_
 conv=>whnf
 refine LoadNG.at (vs := bvs to) (by rw [bvs_len, hto]) (.tl (.tl (.tl .all))) ?_
 conv=>whnf
 refine LoadNG.at (vs := uvs a) hal (.tl (.tl .all)) ?_
 conv=>whnf
 refine CallG.of (pre := [stP 118 s src find V n]) (rest := [cel b11 48 (runL V m).1.cells, cel b9 38 (uvs a), cel b8 35 (bvs to), cel b7 35 (bvs fr)]) (funds_at _ s src V n m hm fr to a hfr hto ha (hs.left _) ho) (Ent.sel (T := []) (A := [_, _, _, _, _]) [1, 0, 2, 3, 4] rfl) ?_
 rintro _ _ ⟨rfl, rfl⟩
 conv=>whnf
 intro b13
 conv=>whnf
 intro b14
 conv=>whnf
 refine StoreG.at hfl (Upd.tl (Upd.whole (by rw [hfl]; rfl) (uvs_one _))) ?_
 conv=>whnf
 refine StoreG.at hfm (Upd.whole (by rw [hfm]; rfl) (uvs_one _)) ?_
 conv=>whnf
 refine CondG.ndec (fun h2 => ?_) (fun h2 => ?_)
 ·conv=>whnf
  refine ⟨_, (Ent.sel (T := []) (A := [_, _, _, _, _, _, _]) [2] rfl).trans (stP_more (m := n + 2) (by omega)), ?_, ?_⟩
  ·rw [moveL, if_neg h1', em, if_pos h2]; rfl
  ·rw [moveL, if_neg h1', em, if_pos h2]; rfl
 have h2' : ¬ (fundsL V m fr to a).e ≠ 0 := by rw [show (fundsL V m fr to a).e = 0 from h2]; decide
 conv=>whnf
 refine LoadNG.at (vs := bvs fr) (by rw [bvs_len, hfr]) (.tl (.tl (.tl (.tl (.tl (.tl .all)))))) ?_
 conv=>whnf
 refine LoadNG.at (vs := bvs to) (by rw [bvs_len, hto]) (.tl (.tl (.tl (.tl (.tl .all))))) ?_
 conv=>whnf
 refine LoadNG.at (vs := uvs a) hal (.tl (.tl (.tl (.tl .all)))) ?_
 conv=>whnf
 refine LoadNG.at (vs := uvs (fundsL V m fr to a).less) hfl (.tl .all) ?_
 conv=>whnf
 refine LoadNG.at (vs := uvs (fundsL V m fr to a).more) hfm .all ?_
 conv=>whnf
 refine CallG.of (pre := [stP 118 s src find V n]) (rest := [cel b14 38 (uvs (fundsL V m fr to a).more), cel b13 38 (uvs (fundsL V m fr to a).less), cel b11 48 (runL V m).1.cells, cel b9 38 (uvs a), cel b8 35 (bvs to), cel b7 35 (bvs fr)]) (turn_at _ s src V n m hm fr to a _ _ hfr hto ha.len hfo.1.len hfo.2.len (hs.left _) ho hn) (Ent.sel (T := []) (A := [_, _, _, _, _, _, _]) [2, 0, 1, 3, 4, 5, 6] rfl) ?_
 rintro _ _ ⟨rfl, rfl⟩
 conv=>whnf
 refine ⟨_, Ent.sel (T := []) (A := [_, _, _, _, _, _, _]) [0] rfl, ?_, ?_⟩
 ·rw [moveL, if_neg h1', em, if_neg h2']; rfl
 ·rw [moveL, if_neg h1', em, if_neg h2']; rfl
theorem allow_at (F : List HP) (s : Nat) (src : Value) (V : View) (n : Nat) (t : Int) (ow sp a : List Nat) (how : ow.length = 20) (hsp : sp.length = 20) (ha : wOk a) (hs : SrcG Tryz.prog F src find) (ho : SrcOk find) (hn : n + 1 ≤ 4398046511104) :
  SpecF Tryz.prog 47 [.pointer (some ⟨s, 0, none⟩), .int .i64 t, .agg ⟨bvs ow⟩, .agg ⟨bvs sp⟩, .agg ⟨uvs a⟩] F [stP 118 s src find V n] (fun r L => r = .int .i64 (allowL V t ow sp a).1 ∧ L = [stP 118 s src find (allowL V t ow sp a).2 (n + 2)]) := by
 have hok := thereL_ok V t
 have hl1 : (thereL V t).1.cells.length = 6 := TokD.cells_len hok.len
 have hal : (uvs a).length = 4 := by rw [uvs_len, ha.len]
 refine fun47.spec rfl ?_
 conv=>whnf
 intro b7
 conv=>whnf
 intro b8
 conv=>whnf
 intro b9
 conv=>whnf
 refine CallG.of (pre := [stP 118 s src find V n]) (rest := [cel b9 38 (uvs a), cel b8 35 (bvs sp), cel b7 35 (bvs ow)]) (there_at _ s src V n t (hs.left _) ho) (Ent.sel (T := []) (A := [_, _, _, _]) [3, 0, 1, 2] rfl) ?_
 rintro _ _ ⟨rfl, rfl⟩
 conv=>whnf
 intro b11
 conv=>whnf
 refine StoreG.at hl1 (Upd.whole (by rw [hl1]; rfl) (TokD.cells_one _)) ?_
 conv=>whnf
 refine CondG.ndec (fun h1 => ?_) (fun h1 => ?_)
 ·conv=>whnf
  refine ⟨_, (Ent.sel (T := []) (A := [_, _, _, _, _]) [1] rfl).trans (stP_more (m := n + 2) (by omega)), ?_, ?_⟩
  ·rw [allowL, if_pos h1]; rfl
  ·rw [allowL, if_pos h1]; rfl
 obtain ⟨m, rfl, hm⟩ := thereL_nat h1
 have h1' : ¬ (thereL V m).2 ≠ 0 := by rw [show (thereL V m).2 = 0 from h1]; decide
 have em : ((m : Nat) : Int).toNat = m := Int.toNat_natCast m
 conv=>whnf
 refine DrawG.mk 8 [cel b11 48 (thereL V m).1.cells, cel b9 38 (uvs a), cel b8 35 (bvs sp), cel b7 35 (bvs ow)] [stP 118 s src find V n] (Ent.sel (T := []) (A := [_, _, _, _, _]) [1, 0, 2, 3, 4] rfl) ?_
 conv=>whnf
 refine .take 0 ?_
 conv=>whnf
 refine ⟨rfl, ?_⟩
 conv=>whnf
 refine .take 1 ?_
 conv=>whnf
 refine ⟨rfl, ?_⟩
 conv=>whnf
 refine .take 2 ?_
 conv=>whnf
 refine ⟨rfl, ?_⟩
 conv=>whnf
 refine LoadNG.at (vs := bvs ow) (by rw [bvs_len, how]) (.tl (.tl (.tl .all))) ?_
 conv=>whnf
 refine .take 3 ?_
 conv=>whnf
 refine ⟨rfl, ?_⟩
 conv=>whnf
 refine LoadNG.at (vs := bvs sp) (by rw [bvs_len, hsp]) (.tl (.tl .all)) ?_
 conv=>whnf
 refine .take 5 ?_
 conv=>whnf
 refine ⟨rfl, ?_⟩
 conv=>whnf
 refine LoadNG.at (vs := uvs a) hal (.tl .all) ?_
 conv=>whnf
 refine .all ?_
 conv=>whnf
 refine ⟨by decide, ?_⟩
 conv=>whnf
 refine CallG.pure (allowanceKey_spec _ m hm ow sp how hsp) ?_
 rintro _ _ ⟨rfl, rfl⟩
 conv=>whnf
 refine .all ?_
 conv=>whnf
 refine ⟨by decide, ?_⟩
 conv=>whnf
 refine CallG.of (pre := [stP 118 s src find V n]) (rest := []) (lay_at _ s src V n (allKey m ow sp) a ha.len ((hs.left _).left _) ho (may_all how hsp) (by omega)) (Ent.refl _) ?_
 rintro _ _ ⟨rfl, rfl⟩
 conv=>whnf
 refine .take 7 ?_
 conv=>whnf
 refine ⟨rfl, ?_⟩
 conv=>whnf
 refine ⟨rfl, ?_⟩
 conv=>whnf
 refine ⟨_, (Ent.sel (T := []) (A := [_, _, _, _, _]) [0] rfl).trans (stP_more (m := n + 2) (by omega)), ?_, ?_⟩
 ·rw [allowL, if_neg h1', em]; rfl
 ·rw [allowL, if_neg h1', em]; rfl
theorem pull_at (F : List HP) (s : Nat) (src : Value) (V : View) (n : Nat) (t : Int) (sp fr to a : List Nat) (hsp : sp.length = 20) (hfr : fr.length = 20) (hto : to.length = 20) (ha : wOk a) (hs : SrcG Tryz.prog F src find) (ho : SrcOk find) (hn : n + 2 ≤ 4398046511104) :
  SpecF Tryz.prog 48 [.pointer (some ⟨s, 0, none⟩), .int .i64 t, .agg ⟨bvs sp⟩, .agg ⟨bvs fr⟩, .agg ⟨bvs to⟩, .agg ⟨uvs a⟩] F [stP 118 s src find V n] (fun r L => r = .int .i64 (pullL V t sp fr to a).1 ∧ L = [stP 118 s src find (pullL V t sp fr to a).2 (n + 3)]) := by
 have hok := runL_ok V t
 have hl1 : (runL V t).1.cells.length = 6 := TokD.cells_len hok.len
 have hal : (uvs a).length = 4 := by rw [uvs_len, ha.len]
 refine fun48.spec rfl ?_
 conv=>whnf
 intro b8
 conv=>whnf
 intro b9
 conv=>whnf
 intro b10
 conv=>whnf
 intro b11
 conv=>whnf
 refine CallG.of (pre := [stP 118 s src find V n]) (rest := [cel b11 38 (uvs a), cel b10 35 (bvs to), cel b9 35 (bvs fr), cel b8 35 (bvs sp)]) (running_at _ s src V n t (hs.left _) ho) (Ent.sel (T := []) (A := [_, _, _, _, _]) [4, 0, 1, 2, 3] rfl) ?_
 rintro _ _ ⟨rfl, rfl⟩
 conv=>whnf
 intro b13
 conv=>whnf
 refine StoreG.at hl1 (Upd.whole (by rw [hl1]; rfl) (TokD.cells_one _)) ?_
 conv=>whnf
 refine CondG.ndec (fun h1 => ?_) (fun h1 => ?_)
 ·conv=>whnf
  refine ⟨_, (Ent.sel (T := []) (A := [_, _, _, _, _, _]) [1] rfl).trans (stP_more (m := n + 3) (by omega)), ?_, ?_⟩
  ·rw [pullL, if_pos h1]; rfl
  ·rw [pullL, if_pos h1]; rfl
 obtain ⟨m, rfl, hm⟩ := runL_nat h1
 have h1' : ¬ (runL V m).2 ≠ 0 := by rw [show (runL V m).2 = 0 from h1]; decide
 have em : ((m : Nat) : Int).toNat = m := Int.toNat_natCast m
 have hfo := fundsL_ok V m fr to a
 have hfl : (uvs (fundsL V m fr to a).less).length = 4 := by rw [uvs_len, hfo.1.len]
 have hfm : (uvs (fundsL V m fr to a).more).length = 4 := by rw [uvs_len, hfo.2.len]
 have hmk := amtR_ok (V (allKey m fr sp))
 have hml : (uvs (amtR (V (allKey m fr sp))).1).length = 4 := by rw [uvs_len, hmk.len]
 conv=>whnf
 refine LoadNG.at (vs := bvs fr) (by rw [bvs_len, hfr]) (.tl (.tl (.tl (.tl .all)))) ?_
 conv=>whnf
 refine LoadNG.at (vs := bvs sp) (by rw [bvs_len, hsp]) (.tl (.tl (.tl (.tl (.tl .all))))) ?_
 conv=>whnf
 refine CallG.pure (allowanceKey_spec _ m hm fr sp hfr hsp) ?_
 rintro _ _ ⟨rfl, rfl⟩
 conv=>whnf
 refine CallG.of (pre := [stP 118 s src find V n]) (rest := [cel b13 48 (runL V m).1.cells, cel b11 38 (uvs a), cel b10 35 (bvs to), cel b9 35 (bvs fr), cel b8 35 (bvs sp)]) (amount_spec _ s src V n (allKey m fr sp) (hs.left _) ho (may_all hfr hsp 0 (by decide))) (Ent.sel (T := []) (A := [_, _, _, _, _, _]) [1, 0, 2, 3, 4, 5] rfl) ?_
 rintro _ _ ⟨rfl, rfl⟩
 conv=>whnf
 intro b16
 conv=>whnf
 refine StoreG.at hml (Upd.whole (by rw [hml]; rfl) (uvs_one _)) ?_
 conv=>whnf
 refine CondG.ndec (fun h2 => ?_) (fun h2 => ?_)
 ·conv=>whnf
  refine ⟨_, (Ent.sel (T := []) (A := [_, _, _, _, _, _, _]) [1] rfl).trans (stP_more (m := n + 3) (by omega)), ?_, ?_⟩
  ·rw [pullL, if_neg h1', em, if_pos h2]; rfl
  ·rw [pullL, if_neg h1', em, if_pos h2]; rfl
 have h2' : ¬ (amtR (V (allKey m fr sp))).2 ≠ 0 := by rw [show (amtR (V (allKey m fr sp))).2 = 0 from h2]; decide
 conv=>whnf
 refine LoadNG.at (vs := uvs (amtR (V (allKey m fr sp))).1) hml .all ?_
 conv=>whnf
 refine LoadNG.at (vs := uvs a) hal (.tl (.tl (.tl .all))) ?_
 conv=>whnf
 refine CallG.pure (sub_spec _ _ a hmk ha) ?_
 rintro _ _ ⟨rfl, rfl⟩
 have hB : (uvs (subR (amtR (V (allKey m fr sp))).1 a).1).length = 4 := by rw [uvs_len, subR_ok]
 conv=>whnf
 refine StoreG.at hB (Upd.whole (by rw [hB, hml]) (uvs_one _)) ?_
 conv=>whnf
 by_cases h3 : nat4 (amtR (V (allKey m fr sp))).1 < nat4 a
 ·rw [subR_no h3]
  refine CondG.tt ?_
  conv=>whnf
  refine ⟨_, (Ent.sel (T := []) (A := [_, _, _, _, _, _, _]) [1] rfl).trans (stP_more (m := n + 3) (by omega)), ?_, ?_⟩
  ·rw [pullL, if_neg h1', em, if_neg h2', if_pos h3]; rfl
  ·rw [pullL, if_neg h1', em, if_neg h2', if_pos h3]; rfl
 rw [subR_yes h3]
 refine CondG.ff ?_
 conv=>whnf
 refine LoadNG.at (vs := bvs fr) (by rw [bvs_len, hfr]) (.tl (.tl (.tl (.tl (.tl .all))))) ?_
 conv=>whnf
 refine LoadNG.at (vs := bvs to) (by rw [bvs_len, hto]) (.tl (.tl (.tl (.tl .all)))) ?_
 conv=>whnf
 refine LoadNG.at (vs := uvs a) hal (.tl (.tl (.tl .all))) ?_
 conv=>whnf
 refine CallG.of (pre := [stP 118 s src find V n]) (rest := [cel b16 38 (uvs (subL (amtR (V (allKey m fr sp))).1 a)), cel b13 48 (runL V m).1.cells, cel b11 38 (uvs a), cel b10 35 (bvs to), cel b9 35 (bvs fr), cel b8 35 (bvs sp)]) (funds_at _ s src V n m hm fr to a hfr hto ha (hs.left _) ho) (Ent.sel (T := []) (A := [_, _, _, _, _, _, _]) [1, 0, 2, 3, 4, 5, 6] rfl) ?_
 rintro _ _ ⟨rfl, rfl⟩
 conv=>whnf
 intro b18
 conv=>whnf
 intro b19
 conv=>whnf
 refine StoreG.at hfl (Upd.tl (Upd.whole (by rw [hfl]; rfl) (uvs_one _))) ?_
 conv=>whnf
 refine StoreG.at hfm (Upd.whole (by rw [hfm]; rfl) (uvs_one _)) ?_
 conv=>whnf
 refine CondG.ndec (fun h4 => ?_) (fun h4 => ?_)
 ·conv=>whnf
  refine ⟨_, (Ent.sel (T := []) (A := [_, _, _, _, _, _, _, _, _]) [2] rfl).trans (stP_more (m := n + 3) (by omega)), ?_, ?_⟩
  ·rw [pullL, if_neg h1', em, if_neg h2', if_neg h3, if_pos h4]; rfl
  ·rw [pullL, if_neg h1', em, if_neg h2', if_neg h3, if_pos h4]; rfl
 have h4' : ¬ (fundsL V m fr to a).e ≠ 0 := by rw [show (fundsL V m fr to a).e = 0 from h4]; decide
 conv=>whnf
 refine LoadNG.at (vs := uvs a) hal (.tl (.tl (.tl (.tl (.tl .all))))) ?_
 conv=>whnf
 refine CallG.pure (isZero_spec _ a ha.len) ?_
 rintro _ _ ⟨rfl, rfl⟩
 conv=>whnf
 have finish : ∀ (V2 : View) (k : Nat), k ≤ n + 1 → pullL V m sp fr to a = (0, turnL V2 m fr to a (fundsL V m fr to a).less (fundsL V m fr to a).more) → True := fun _ _ _ _ => trivial
 refine CondG.ndec (fun h5 => ?_) (fun h5 => ?_)
 ·have h5' : ¬ a = z4 := h5
  conv=>whnf
  refine LoadNG.at (vs := uvs (subL (amtR (V (allKey m fr sp))).1 a)) rfl (.tl (.tl (.tl .all))) ?_
  conv=>whnf
  refine CallG.of (pre := [stP 118 s src find V n]) (rest := [cel b19 38 (uvs (fundsL V m fr to a).more), cel b18 38 (uvs (fundsL V m fr to a).less), cel b16 38 (uvs (subL (amtR (V (allKey m fr sp))).1 a)), cel b13 48 (runL V m).1.cells, cel b11 38 (uvs a), cel b10 35 (bvs to), cel b9 35 (bvs fr), cel b8 35 (bvs sp)]) (lay_at _ s src V n (allKey m fr sp) _ rfl (hs.left _) ho (may_all hfr hsp) (by omega)) (Ent.sel (T := []) (A := [_, _, _, _, _, _, _, _, _]) [2, 0, 1, 3, 4, 5, 6, 7, 8] rfl) ?_
  rintro _ _ ⟨rfl, rfl⟩
  conv=>whnf
  refine CondG.ff ?_
  conv=>whnf
  refine LoadNG.at (vs := bvs fr) (by rw [bvs_len, hfr]) (.tl (.tl (.tl (.tl (.tl (.tl (.tl .all))))))) ?_
  conv=>whnf
  refine LoadNG.at (vs := bvs to) (by rw [bvs_len, hto]) (.tl (.tl (.tl (.tl (.tl (.tl .all)))))) ?_
  conv=>whnf
  refine LoadNG.at (vs := uvs a) hal (.tl (.tl (.tl (.tl (.tl .all))))) ?_
  conv=>whnf
  refine LoadNG.at (vs := uvs (fundsL V m fr to a).less) hfl (.tl (.tl .all)) ?_
  conv=>whnf
  refine LoadNG.at (vs := uvs (fundsL V m fr to a).more) hfm (.tl .all) ?_
  conv=>whnf
  refine CallG.of (pre := [stP 118 s src find (layA V (allKey m fr sp) (subL (amtR (V (allKey m fr sp))).1 a)) (n + 1)]) (rest := [cel b19 38 (uvs (fundsL V m fr to a).more), cel b18 38 (uvs (fundsL V m fr to a).less), cel b16 38 (uvs (subL (amtR (V (allKey m fr sp))).1 a)), cel b13 48 (runL V m).1.cells, cel b11 38 (uvs a), cel b10 35 (bvs to), cel b9 35 (bvs fr), cel b8 35 (bvs sp)]) (turn_at _ s src _ (n + 1) m hm fr to a _ _ hfr hto ha.len hfo.1.len hfo.2.len (hs.left _) ho hn) (Ent.refl _) ?_
  rintro _ _ ⟨rfl, rfl⟩
  conv=>whnf
  refine ⟨_, Ent.sel (T := []) (A := [_, _, _, _, _, _, _, _, _]) [0] rfl, ?_, ?_⟩
  ·rw [pullL, if_neg h1', em, if_neg h2', if_neg h3, if_neg h4', if_neg h5']; rfl
  ·rw [pullL, if_neg h1', em, if_neg h2', if_neg h3, if_neg h4', if_neg h5']; rfl
 ·have h5' : a = z4 := h5
  conv=>whnf
  refine LoadNG.at (vs := bvs fr) (by rw [bvs_len, hfr]) (.tl (.tl (.tl (.tl (.tl (.tl (.tl .all))))))) ?_
  conv=>whnf
  refine LoadNG.at (vs := bvs to) (by rw [bvs_len, hto]) (.tl (.tl (.tl (.tl (.tl (.tl .all)))))) ?_
  conv=>whnf
  refine LoadNG.at (vs := uvs a) hal (.tl (.tl (.tl (.tl (.tl .all))))) ?_
  conv=>whnf
  refine LoadNG.at (vs := uvs (fundsL V m fr to a).less) hfl (.tl .all) ?_
  conv=>whnf
  refine LoadNG.at (vs := uvs (fundsL V m fr to a).more) hfm .all ?_
  conv=>whnf
  refine CallG.of (pre := [stP 118 s src find V n]) (rest := [cel b19 38 (uvs (fundsL V m fr to a).more), cel b18 38 (uvs (fundsL V m fr to a).less), cel b16 38 (uvs (subL (amtR (V (allKey m fr sp))).1 a)), cel b13 48 (runL V m).1.cells, cel b11 38 (uvs a), cel b10 35 (bvs to), cel b9 35 (bvs fr), cel b8 35 (bvs sp)]) (turn_at _ s src V n m hm fr to a _ _ hfr hto ha.len hfo.1.len hfo.2.len (hs.left _) ho (by omega)) (Ent.sel (T := []) (A := [_, _, _, _, _, _, _, _, _]) [2, 0, 1, 3, 4, 5, 6, 7, 8] rfl) ?_
  rintro _ _ ⟨rfl, rfl⟩
  conv=>whnf
  refine ⟨_, (Ent.sel (T := []) (A := [_, _, _, _, _, _, _, _, _]) [0] rfl).trans (stP_more (m := n + 3) (by omega)), ?_, ?_⟩
  ·rw [pullL, if_neg h1', em, if_neg h2', if_neg h3, if_neg h4', if_pos h5']; rfl
  ·rw [pullL, if_neg h1', em, if_neg h2', if_neg h3, if_neg h4', if_pos h5']; rfl
end
end Go.Proofs.YtnbcbdlbejdkpaaGreatDoor
namespace Go.Proofs.YtnbcbdlbejdkpaaGreatDoor
open Go Go.Sl
theorem lpick_spec (F : List HP) (c : Int) (n : Nat) (h1 : -9223372036854775808 ≤ c) (h2 : c ≤ 9223372036854775807) (hn : 0 < n) : SpecF Tryz.prog 12 [.int .i64 c, .int .i64 n] F [] (fun v L => v = .int .i64 (pickN c n) ∧ L = []) := by
 have ht := pickN_tmod (c := c) (n := n)
 refine fun12.spec rfl ?_
 conv=>whnf
 refine CondG.dec (fun h => ?_) (fun h => ?_)
 ·conv=>whnf
  refine ArithG.i64 (by omega) ?_
  conv=>whnf
  refine ArithG.i64' (-(c + 1)) (by omega) (by omega) ?_
  conv=>whnf
  refine SideG.of (by omega) ?_
  conv=>whnf
  rw [if_pos h] at ht
  rw [ht]
  exact ret_here ⟨rfl, rfl⟩
 ·conv=>whnf
  refine SideG.of (by omega) ?_
  conv=>whnf
  rw [if_neg h] at ht
  rw [ht]
  exact ret_here ⟨rfl, rfl⟩
def V0 : View := ⟨fun _ => [], []⟩
theorem tabOk : SrcOk (tabFind []) where
 ok k h := by unfold tabFind; rw [if_neg (by omega)]
 len k := tabFind_len (by simp) k
theorem lv_nil (hb nb : Nat) (a b : Value) (k : ByteArray) : lv (tabFind []) (StC.mk [] [] [] [] hb nb a b) k = [] := by
 show (tabFind [] k).1 = []
 unfold tabFind
 split <;> rfl
theorem over_nil (F : List HP) : SpecF Tryz.prog 7 [.slice none 0 0] F [] (fun r L => ∃ s t vb q ob, r = .pointer (some ⟨s, 0, none⟩) ∧ L = stP 118 s (.iface 99 (.pointer (some ⟨t, 0, none⟩))) (tabFind []) V0 0 :: emptyL 151 176 t vb q ob) := by
 refine fun7.spec rfl ?_
 conv=>whnf
 refine CallG.pure (newTable_spec _) ?_
 rintro _ _ ⟨t, rfl, vb, q, ob, rfl⟩
 (conv=>whnf);repeat((with_reducible first|refine .tt ?_|refine .ff ?_);conv=>whnf)
 refine LoopG.mk (fun m ev L => ev = [(0, .slice none 0 0), (3, .pointer (some ⟨t, 0, none⟩)), (4, .int .i64 0)] ∧ L = emptyL 151 176 t vb q ob ++ []) 0 [(0, .slice none 0 0), (3, .pointer (some ⟨t, 0, none⟩)), (4, .int .i64 0)] _ ⟨rfl, rfl, rfl, trivial⟩ (Ent.refl _) ⟨rfl, rfl⟩ ?_
 rintro m ev L ⟨rfl, rfl⟩
 conv=>whnf
 refine LenG.lit ?_
 conv=>whnf
 refine CondG.ff ?_
 conv=>whnf
 refine CallG.pure (over_spec _ _ _) ?_
 rintro _ _ ⟨s, rfl, hb, nb, rfl⟩
 conv=>whnf
 refine CondG.ff ?_
 conv=>whnf
 refine ⟨stP 118 s (.iface 99 (.pointer (some ⟨t, 0, none⟩))) (tabFind []) V0 0 :: emptyL 151 176 t vb q ob, ?_, s, t, vb, q, ob, rfl, rfl⟩
 exact Ent.pack (L := emptyL 151 176 t vb q ob) (φ := At (tabFind []) V0 0) (ls := fun c => StC.pieces 118 s (.iface 99 (.pointer (some ⟨t, 0, none⟩))) c) ⟨lv_nil hb nb _ _, ⟨by simp, by simp, by simp⟩, Nat.le_refl 0, rfl, List.Pairwise.nil, fun j a f h => by simp at h⟩
theorem empty_src (F : List HP) (t vb q ob : Nat) : SrcG Tryz.prog (emptyL 151 176 t vb q ob ++ F) (.iface 99 (.pointer (some ⟨t, 0, none⟩))) (tabFind []) :=
 tab_src _ t vb [] (.left (.here rfl) F) (.left (.tl .here) F) (by simp)
def kA : List Nat := 1 :: List.replicate 19 0
def kB : List Nat := 2 :: List.replicate 19 0
theorem kw (n : Nat) (h : n < m64) : wOk [n, 0, 0, 0] := ⟨rfl, fun x hx => by
 simp only [List.mem_cons, List.not_mem_nil, or_false] at hx
 rcases hx with rfl | rfl | rfl | rfl
 ·exact h
 all_goals decide⟩
theorem lknown_spec (F : List HP) : SpecF Tryz.prog 6 [] F [] (fun v L => v = .bool true ∧ L = []) := by
 refine fun6.spec rfl ?_
 conv=>whnf
 refine CallG.pure (over_nil _) ?_
 rintro _ _ ⟨s, t, vb, q, ob, rfl, rfl⟩
 (conv=>whnf);repeat((with_reducible first|refine .tt ?_|refine .ff ?_);conv=>whnf)
 refine BuildG.of (cs := bvs kA) rfl ?_
 conv=>whnf
 intro b2
 conv=>whnf
 refine StoreG.at rfl (Upd.whole rfl (bvs_one kA)) ?_
 conv=>whnf
 refine BuildG.of (cs := bvs kB) rfl ?_
 conv=>whnf
 intro b3
 conv=>whnf
 refine StoreG.at rfl (Upd.whole rfl (bvs_one kB)) ?_
 conv=>whnf
 have hsrc := (empty_src F t vb q ob).left [cel b3 35 (bvs kB), cel b2 35 (bvs kA)]
 refine CallG.of (pre := [stP 118 s _ (tabFind []) V0 0]) (rest := cel b3 35 (bvs kB) :: cel b2 35 (bvs kA) :: emptyL 151 176 t vb q ob) (register_at _ s _ V0 0 5 hsrc tabOk (by decide)) (Ent.sel (T := emptyL 151 176 t vb q ob) (A := [_, _, _]) [2, 0, 1] rfl) ?_
 rintro _ _ ⟨rfl, rfl⟩
 have r1 : (registerL V0 5).1 = 0 := by decide +kernel
 obtain ⟨V1, hV1⟩ : ∃ V, V = (registerL V0 5).2 := ⟨_, rfl⟩
 rw [r1, ← hV1]
 conv=>whnf
 refine LoadNG.at (vs := bvs kA) rfl (.tl (.tl .all)) ?_
 conv=>whnf
 refine BuildG.of (cs := uvs [10, 0, 0, 0]) rfl ?_
 conv=>whnf
 refine CallG.of (pre := [stP 118 s _ (tabFind []) V1 2]) (rest := cel b3 35 (bvs kB) :: cel b2 35 (bvs kA) :: emptyL 151 176 t vb q ob) (mint_at _ s _ V1 2 5 kA [10, 0, 0, 0] rfl (kw 10 (by decide)) hsrc tabOk (by decide)) (Ent.refl _) ?_
 rintro _ _ ⟨rfl, rfl⟩
 have r2 : (mintL V1 5 kA [10, 0, 0, 0]).1 = 0 := by rw [hV1]; decide +kernel
 obtain ⟨V2, hV2⟩ : ∃ V, V = (mintL V1 5 kA [10, 0, 0, 0]).2 := ⟨_, rfl⟩
 rw [r2, ← hV2]
 conv=>whnf
 refine LoadNG.at (vs := bvs kA) rfl (.tl (.tl .all)) ?_
 conv=>whnf
 refine LoadNG.at (vs := bvs kB) rfl (.tl .all) ?_
 conv=>whnf
 refine BuildG.of (cs := uvs [4, 0, 0, 0]) rfl ?_
 conv=>whnf
 refine CallG.of (pre := [stP 118 s _ (tabFind []) V2 4]) (rest := cel b3 35 (bvs kB) :: cel b2 35 (bvs kA) :: emptyL 151 176 t vb q ob) (move_at _ s _ V2 4 5 kA kB [4, 0, 0, 0] rfl rfl (kw 4 (by decide)) hsrc tabOk (by decide)) (Ent.refl _) ?_
 rintro _ _ ⟨rfl, rfl⟩
 have r3 : (moveL V2 5 kA kB [4, 0, 0, 0]).1 = 0 := by rw [hV2, hV1]; decide +kernel
 obtain ⟨V3, hV3⟩ : ∃ V, V = (moveL V2 5 kA kB [4, 0, 0, 0]).2 := ⟨_, rfl⟩
 rw [r3, ← hV3]
 conv=>whnf
 refine LoadNG.at (vs := bvs kA) rfl (.tl (.tl .all)) ?_
 conv=>whnf
 refine LoadNG.at (vs := bvs kB) rfl (.tl .all) ?_
 conv=>whnf
 refine BuildG.of (cs := uvs [7, 0, 0, 0]) rfl ?_
 conv=>whnf
 refine CallG.of (pre := [stP 118 s _ (tabFind []) V3 6]) (rest := cel b3 35 (bvs kB) :: cel b2 35 (bvs kA) :: emptyL 151 176 t vb q ob) (move_at _ s _ V3 6 5 kA kB [7, 0, 0, 0] rfl rfl (kw 7 (by decide)) hsrc tabOk (by decide)) (Ent.refl _) ?_
 rintro _ _ ⟨rfl, rfl⟩
 have r4 : (moveL V3 5 kA kB [7, 0, 0, 0]).1 = 85 := by rw [hV3, hV2, hV1]; decide +kernel
 have e5 : balL (moveL V3 5 kA kB [7, 0, 0, 0]).2 5 kA = ([6, 0, 0, 0], 0) := by rw [hV3, hV2, hV1]; decide +kernel
 have e6 : balL (moveL V3 5 kA kB [7, 0, 0, 0]).2 5 kB = ([4, 0, 0, 0], 0) := by rw [hV3, hV2, hV1]; decide +kernel
 have e7 : tokenL (moveL V3 5 kA kB [7, 0, 0, 0]).2 5 = (⟨true, false, [10, 0, 0, 0]⟩, 0) := by rw [hV3, hV2, hV1]; decide +kernel
 generalize (moveL V3 5 kA kB [7, 0, 0, 0]).2 = V4 at *
 rw [r4]
 conv=>whnf
 refine LoadNG.at (vs := bvs kA) rfl (.tl (.tl .all)) ?_
 conv=>whnf
 refine CallG.of (pre := [stP 118 s _ (tabFind []) V4 8]) (rest := cel b3 35 (bvs kB) :: cel b2 35 (bvs kA) :: emptyL 151 176 t vb q ob) (balance_at _ s _ V4 8 5 kA rfl hsrc tabOk) (Ent.refl _) ?_
 rintro _ _ ⟨rfl, rfl⟩
 rw [e5]
 conv=>whnf
 intro b8
 conv=>whnf
 refine StoreG.at rfl (Upd.whole rfl (uvs_one [6, 0, 0, 0])) ?_
 conv=>whnf
 refine LoadNG.at (vs := bvs kB) rfl (.tl (.tl .all)) ?_
 conv=>whnf
 refine CallG.of (pre := [stP 118 s _ (tabFind []) V4 8]) (rest := cel b8 38 (uvs [6, 0, 0, 0]) :: cel b3 35 (bvs kB) :: cel b2 35 (bvs kA) :: emptyL 151 176 t vb q ob) (balance_at _ s _ V4 8 5 kB rfl (hsrc.left [cel b8 38 (uvs [6, 0, 0, 0])]) tabOk) (Ent.perm (List.Perm.swap _ _ _)) ?_
 rintro _ _ ⟨rfl, rfl⟩
 rw [e6]
 conv=>whnf
 intro b10
 conv=>whnf
 refine StoreG.at rfl (Upd.whole rfl (uvs_one [4, 0, 0, 0])) ?_
 conv=>whnf
 refine CallG.of (pre := [stP 118 s _ (tabFind []) V4 8]) (rest := cel b10 38 (uvs [4, 0, 0, 0]) :: cel b8 38 (uvs [6, 0, 0, 0]) :: cel b3 35 (bvs kB) :: cel b2 35 (bvs kA) :: emptyL 151 176 t vb q ob) (token_at _ s _ V4 8 5 (hsrc.left [cel b10 38 (uvs [4, 0, 0, 0]), cel b8 38 (uvs [6, 0, 0, 0])]) tabOk) (Ent.perm (List.Perm.swap _ _ _)) ?_
 rintro _ _ ⟨rfl, rfl⟩
 rw [e7]
 conv=>whnf
 intro b12
 conv=>whnf
 refine StoreG.at rfl (Upd.whole rfl (TokD.cells_one ⟨true, false, [10, 0, 0, 0]⟩)) ?_
 conv=>whnf
 refine CondG.tt ?_
 (conv=>whnf);repeat((with_reducible first|refine .tt ?_|refine .ff ?_);conv=>whnf)
 refine CondG.tt ?_
 (conv=>whnf);repeat((with_reducible first|refine .tt ?_|refine .ff ?_);conv=>whnf)
 refine CondG.tt ?_
 (conv=>whnf);repeat((with_reducible first|refine .tt ?_|refine .ff ?_);conv=>whnf)
 refine CondG.tt ?_
 (conv=>whnf);repeat((with_reducible first|refine .tt ?_|refine .ff ?_);conv=>whnf)
 refine CondG.tt ?_
 (conv=>whnf);repeat((with_reducible first|refine .tt ?_|refine .ff ?_);conv=>whnf)
 refine CondG.tt ?_
 (conv=>whnf);repeat((with_reducible first|refine .tt ?_|refine .ff ?_);conv=>whnf)
 refine CondG.tt ?_
 conv=>whnf
 refine LoadNG.at (vs := uvs [6, 0, 0, 0]) rfl (.tl (.tl (.tl .all))) ?_
 (conv=>whnf);repeat((with_reducible first|refine .tt ?_|refine .ff ?_);conv=>whnf)
 refine BuildG.of (cs := uvs [6, 0, 0, 0]) rfl ?_
 (conv=>whnf);repeat((with_reducible first|refine .tt ?_|refine .ff ?_);conv=>whnf)
 refine DoesG.eqv 8 (List.replicate 4 (.int .u64)) (by kernel_rfl) (by decide) (by kernel_rfl) (by kernel_rfl) (wt_uvs (ws := [6, 0, 0, 0]) rfl) (wt_uvs (ws := [6, 0, 0, 0]) rfl) ?_
 (conv=>whnf);repeat((with_reducible first|refine .tt ?_|refine .ff ?_);conv=>whnf)
 refine CondG.split (fun _ => ?_) (fun h => absurd h (by simp))
 conv=>whnf
 refine LoadNG.at (vs := uvs [4, 0, 0, 0]) rfl (.tl (.tl .all)) ?_
 (conv=>whnf);repeat((with_reducible first|refine .tt ?_|refine .ff ?_);conv=>whnf)
 refine BuildG.of (cs := uvs [4, 0, 0, 0]) rfl ?_
 (conv=>whnf);repeat((with_reducible first|refine .tt ?_|refine .ff ?_);conv=>whnf)
 refine DoesG.eqv 8 (List.replicate 4 (.int .u64)) (by kernel_rfl) (by decide) (by kernel_rfl) (by kernel_rfl) (wt_uvs (ws := [4, 0, 0, 0]) rfl) (wt_uvs (ws := [4, 0, 0, 0]) rfl) ?_
 (conv=>whnf);repeat((with_reducible first|refine .tt ?_|refine .ff ?_);conv=>whnf)
 refine CondG.split (fun _ => ?_) (fun h => absurd h (by simp))
 (conv=>whnf);repeat((with_reducible first|refine .tt ?_|refine .ff ?_);conv=>whnf)
 refine LoadG.at (v := .bool true) (.here rfl) ?_
 (conv=>whnf);repeat((with_reducible first|refine .tt ?_|refine .ff ?_);conv=>whnf)
 refine LoadNG.at (vs := uvs [10, 0, 0, 0]) rfl (.here rfl) ?_
 (conv=>whnf);repeat((with_reducible first|refine .tt ?_|refine .ff ?_);conv=>whnf)
 refine BuildG.of (cs := uvs [10, 0, 0, 0]) rfl ?_
 (conv=>whnf);repeat((with_reducible first|refine .tt ?_|refine .ff ?_);conv=>whnf)
 refine DoesG.eqv 8 (List.replicate 4 (.int .u64)) (by kernel_rfl) (by decide) (by kernel_rfl) (by kernel_rfl) (wt_uvs (ws := [10, 0, 0, 0]) rfl) (wt_uvs (ws := [10, 0, 0, 0]) rfl) ?_
 (conv=>whnf);repeat((with_reducible first|refine .tt ?_|refine .ff ?_);conv=>whnf)
 exact ⟨[], Ent.nil _, by simp [retV], rfl⟩
end Go.Proofs.YtnbcbdlbejdkpaaGreatDoor
namespace Go.Proofs.YtnbcbdlbejdkpaaGreatDoor
open Go Go.Sl
theorem nvs_take (l : List Nat) (n : Nat) : (nvs l).take n = nvs (l.take n) := by simp [nvs, List.map_take]
theorem SliceG.rdA {a : Option Addr} {sz l h mx n c : Nat} {K : Value → Prop} (h1 : l ≤ h) (h2 : h ≤ n) (h3 : h ≤ mx) (h4 : mx ≤ c)
  (hk : ∀ v', (∀ (M : List HP) (cs : List Value), RdS M (.slice a n c) n cs → RdS M v' (h - l) ((cs.drop (l * sz)).take ((h - l) * sz))) → K v') : SliceG a sz l h mx K :=
 ⟨hk _ fun M cs hM => (SliceG.rd (K := fun v' => RdS M v' (h - l) ((cs.drop (l * sz)).take ((h - l) * sz))) hM h1 h2 h3 h4 fun _ h' _ => h').out⟩
theorem rcut_any (F : List HP) (v : Value) (l : List Nat) (hl : l.length ≤ 4611686018427387904) (hv : RdS F v l.length (nvs l)) : SpecF Tryz.prog 138 [v] F [] (fun r L => (∀ M : List HP, RdS M v l.length (nvs l) → RdS M r (cutL l).length (nvs (cutL l))) ∧ L = []) := by
 refine fun138.spec rfl ?_
 conv=>whnf
 refine LenG.rd hv ?_
 conv=>whnf
 refine LoopG.mk (fun mm e L => ∃ n, n ≤ l.length ∧ mm = n ∧ cutN l n = cutN l l.length ∧ e = [(0, v), (3, .int .i64 n)] ∧ L = []) l.length
  [(0, v), (3, .int .i64 l.length)] _ ⟨rfl, rfl, trivial⟩ (Ent.refl _) ⟨l.length, Nat.le_refl _, rfl, rfl, rfl, rfl⟩ ?_
 rintro n e L ⟨n', hn, rfl, hc, rfl, rfl⟩
 conv=>whnf
 have out : cutN l n = n → (nvs l).take n = nvs (cutL l) ∧ (cutL l).length = n := fun h => by
  refine ⟨?_, ?_⟩
  ·rw [cutL, ← hc, h, nvs_take]
  ·rw [cutL_len, ← hc, h]
 have leave : ∀ (K : Value → Prop), cutN l n = n → (∀ r, (∀ M : List HP, RdS M v l.length (nvs l) → RdS M r (cutL l).length (nvs (cutL l))) → K r) → SlcG v (fun a len cap => (fun a len cap => SideG (0 ≤ (0 : Int) ∧ (0 : Int) ≤ (n : Int) ∧ (n : Int) ≤ (cap : Int) ∧ (cap : Int) ≤ (cap : Int)) (SliceG a 1 (0 : Int).toNat (n : Int).toNat (cap : Int).toNat fun v => K v)) a len cap) := fun K h hK => by
  refine SlcG.rd hv fun a cap hva hcap => ?_
  refine SideG.of (by omega) ?_
  refine SliceG.rdA (n := l.length) (c := cap) (by omega) (by omega) (by omega) (by omega) fun v1 hv1 => ?_
  refine hK v1 fun M hM => ?_
  rw [hva] at hM
  have hv1 := hv1 M _ hM
  have e1 : ((nvs l).drop ((0 : Int).toNat * 1)).take ((((n : Nat) : Int).toNat - (0 : Int).toNat) * 1) = nvs (cutL l) := by
   rw [← (out h).1]
   simp
  have e2 : ((n : Nat) : Int).toNat - (0 : Int).toNat = (cutL l).length := by
   rw [(out h).2]
   simp
  rw [e1, e2] at hv1
  exact hv1
 refine CondG.dec (fun h1 => ?_) (fun h1 => ?_)
 ·have hn1 : n - 1 < l.length := by omega
  (conv=>whnf);repeat((with_reducible first|refine .tt ?_|refine .ff ?_);conv=>whnf)
  refine ArithG.i64' ((n - 1 : Nat) : Int) (by omega) (by omega) ?_
  (conv=>whnf);repeat((with_reducible first|refine .tt ?_|refine .ff ?_);conv=>whnf)
  refine IdxG.rd hv (by omega) fun c o hcc => ?_
  (conv=>whnf);repeat((with_reducible first|refine .tt ?_|refine .ff ?_);conv=>whnf)
  refine LoadG.atF (v := .int .i64 l[n - 1]) (hcc.one (i := ((n - 1 : Nat) : Int).toNat * 1) (by rw [Int.toNat_natCast, Nat.mul_one]; exact nvs_get hn1)) ?_
  (conv=>whnf);repeat((with_reducible first|refine .tt ?_|refine .ff ?_);conv=>whnf)
  obtain ⟨k, rfl⟩ : ∃ k, n = k + 1 := ⟨n - 1, by omega⟩
  have hgd : l.getD k 0 = l[k]'(by omega) := by simp [List.getD, show k < l.length by omega]
  refine CondG.dec (fun h2 => ?_) (fun h2 => ?_)
  ·conv=>whnf
   refine ArithG.i64' ((k : Nat) : Int) (by omega) (by omega) ?_
   conv=>whnf
   have hz : l.getD k 0 = 0 := by
    rw [hgd]
    have : (l[k + 1 - 1] : Nat) = 0 := by omega
    exact this
   refine ⟨k, [(0, v), (3, .int .i64 k)], _, by omega, ?_, Ent.refl _, k, by omega, rfl, ?_, rfl, rfl⟩
   ·exact ⟨rfl, rfl, trivial⟩
   ·rw [← hc, cutN, if_pos hz]
  ·conv=>whnf
   have hz : ¬ l.getD k 0 = 0 := by
    rw [hgd]
    intro h
    apply h2
    have : (l[k + 1 - 1] : Nat) = 0 := h
    omega
   have hk : cutN l (k + 1) = k + 1 := by rw [cutN, if_neg hz]
   refine leave _ hk fun r hr => ?_
   conv=>whnf
   exact ret_here ⟨hr, rfl⟩
 ·have h0 : n = 0 := by omega
  subst h0
  (conv=>whnf);repeat((with_reducible first|refine .tt ?_|refine .ff ?_);conv=>whnf)
  refine leave _ rfl fun r hr => ?_
  conv=>whnf
  exact ret_here ⟨hr, rfl⟩
theorem rcut_spec (F : List HP) (v : Value) (l : List Nat) (hl : l.length ≤ 4611686018427387904) (hv : RdS F v l.length (nvs l)) : SpecF Tryz.prog 138 [v] F [] (fun r L => RdS F r (cutL l).length (nvs (cutL l)) ∧ L = []) :=
 (rcut_any F v l hl hv).turn fun r L h => ⟨L, ⟨h.1 F hv, h.2⟩, Ent.refl _⟩
theorem and1 (x : Nat) (hx : x < 18446744073709551616) : IntKind.i64.wrap ((BitVec.ofInt IntKind.i64.bits (IntKind.i64.wrap (x : Int)) &&& BitVec.ofInt IntKind.i64.bits 1).toNat : Int) = ((x % 2 : Nat) : Int) := by
 have e1 : BitVec.ofInt 64 (IntKind.i64.wrap (x : Int)) = BitVec.ofNat 64 x := by
  rcases Nat.lt_or_ge x 9223372036854775808 with h | h
  ·rw [i64_wrap (by omega) (by omega), BitVec.ofInt_natCast]
  ·have : IntKind.i64.wrap (x : Int) = (x : Int) - 18446744073709551616 := by
    show (if (true && decide ((x : Int) % (2 ^ 64 : Int) ≥ (2 ^ (64 - 1) : Int))) = true then (x : Int) % (2 ^ 64 : Int) - (2 ^ 64 : Int) else (x : Int) % (2 ^ 64 : Int)) = _
    have e1 : (2 ^ 64 : Int) = 18446744073709551616 := by decide
    have e2 : (2 ^ (64 - 1) : Int) = 9223372036854775808 := by decide
    rw [e1, e2]
    simp only [Bool.true_and, decide_eq_true_eq]
    split <;> omega
   rw [this]
   apply BitVec.eq_of_toNat_eq
   rw [BitVec.toNat_ofInt, BitVec.toNat_ofNat]
   have : (((x : Int) - 18446744073709551616) % ((2 ^ 64 : Nat) : Int)) = (x : Int) := by
    have e : ((2 ^ 64 : Nat) : Int) = 18446744073709551616 := by decide
    rw [e]
    omega
   rw [this]
   omega
 show IntKind.i64.wrap ((BitVec.ofInt 64 (IntKind.i64.wrap (x : Int)) &&& BitVec.ofInt 64 1).toNat : Int) = _
 rw [e1, BitVec.toNat_and, BitVec.toNat_ofNat, Nat.mod_eq_of_lt hx]
 have e3 : (BitVec.ofInt 64 1).toNat = 1 := by decide
 rw [e3, Nat.and_one_is_mod, i64_wrap (by omega) (by omega)]
theorem intsT : ElT Tryz.prog 31 3 1 8 := .of (by kernel_rfl)
theorem digits_spec (F : List HP) (ws : List Nat) (hw : wOk ws) : SpecF Tryz.prog 107 [.agg ⟨uvs ws⟩] F [] (fun r L => ∃ b, RdS (cel b 3 (nvs (digs2 ws)) :: F) r (cutL (digs2 ws)).length (nvs (cutL (digs2 ws))) ∧ L = [cel b 3 (nvs (digs2 ws))]) := by
 have hl := digs2_len ws
 have hwl := hw.len
 refine fun107.spec rfl ?_
 conv=>whnf
 intro b1
 conv=>whnf
 refine DoesG.makeC (n := 256) (zv := .int .i64 0) intsT (by kernel_rfl) rfl .i64 .i64 (by decide) (by decide) fun b5 => ?_
 conv=>whnf
 refine LoopG.mk (fun mm e L => ∃ i, i ≤ 256 ∧ mm = 256 - i ∧ e = [(1, .pointer (some ⟨b1, 0, none⟩)), (3, .slice (some ⟨b5, 0, none⟩) 256 256), (4, .int .i64 i)] ∧ L = [cel b5 3 (nvs (fillD (digs2 ws) i)), cel b1 38 (uvs ws)]) 256
  [(1, .pointer (some ⟨b1, 0, none⟩)), (3, .slice (some ⟨b5, 0, none⟩) 256 256), (4, .int .i64 0)] _ ⟨rfl, rfl, rfl, trivial⟩ (Ent.refl _) ⟨0, by omega, rfl, rfl, by rw [fillD_zero]⟩ ?_
 rintro mm e L ⟨i, hi, rfl, rfl, rfl⟩
 conv=>whnf
 refine CondG.dec (fun h => ?_) (fun h => ?_)
 ·have hi2 : i < 256 := by omega
  have hx := getD_lt hw (i / 64)
  conv=>whnf
  refine SideG.of (by decide) ?_
  conv=>whnf
  refine ArithG.i64' ((i / 64 : Nat) : Int) (by rw [Int.tdiv_eq_ediv_of_nonneg (by omega)]; omega) (by omega) ?_
  conv=>whnf
  refine SideG.of (by omega) ?_
  conv=>whnf
  refine LoadG.at (v := .int .u64 (ws.getD (i / 64) 0)) (.tl (.here (by rw [show 0 + ((i / 64 : Nat) : Int).toNat * 1 = i / 64 by omega]; exact uvs_at (by omega)))) ?_
  conv=>whnf
  refine SideG.of (by decide) ?_
  conv=>whnf
  have er : (i : Int).tmod 64 = ((i % 64 : Nat) : Int) := by rw [Int.tmod_eq_emod_of_nonneg (by omega)]; omega
  rw [er]
  refine SideG.of (by omega) ?_
  have es : ((ws.getD (i / 64) 0 : Nat) : Int).fdiv (2 ^ (min (((i % 64 : Nat) : Int)).toNat IntKind.u64.bits)) = ((ws.getD (i / 64) 0 / 2 ^ (i % 64) : Nat) : Int) := by
   have e : min (((i % 64 : Nat) : Int)).toNat IntKind.u64.bits = i % 64 := by
    rw [Int.toNat_natCast]
    exact Nat.min_eq_left (by show _ ≤ 64; omega)
   rw [e]
   exact fdiv_pow _ _
  rw [es]
  conv=>whnf
  refine ArithG.all ?_
  conv=>whnf
  have hy : ws.getD (i / 64) 0 / 2 ^ (i % 64) < 18446744073709551616 := Nat.lt_of_le_of_lt (Nat.div_le_self _ _) hx
  rw [and1 _ hy]
  refine ⟨b5, 0, 256, 256, rfl, by omega, ?_⟩
  conv=>whnf
  have hg := digs2_get ws hi2
  have hget : (digs2 ws)[i]'(by omega) = ws.getD (i / 64) 0 / 2 ^ (i % 64) % 2 := (List.getElem?_eq_some_iff.1 hg).2
  refine StoreG.at (cs := [_]) rfl (Upd.here (by rw [nvs_len, fillD_len hl hi]; omega) rfl) ?_
  rw [show 0 + ((i : Nat) : Int).toNat * 1 = i by omega, ← hget, fillD_set hl hi2]
  conv=>whnf
  refine ArithG.i64 (by omega) ?_
  conv=>whnf
  refine ⟨256 - (i + 1), _, _, by omega, ?_, Ent.refl _, i + 1, by omega, rfl, rfl, rfl⟩
  exact ⟨rfl, rfl, rfl, trivial⟩
 ·obtain rfl : i = 256 := by omega
  rw [fillD_all hl]
  conv=>whnf
  have hrd : RdS ([cel b5 3 (nvs (digs2 ws))] ++ F) (.slice (some ⟨b5, 0, none⟩) 256 256) (digs2 ws).length (nvs (digs2 ws)) := by
   rw [hl]
   exact .mk _ _ _ _ _ (Nat.le_refl _) (.left .all F)
  refine CallG.of (pre := []) (rest := [cel b5 3 (nvs (digs2 ws))]) (rcut_spec _ _ (digs2 ws) (by omega) hrd) (Ent.sel (T := []) (A := [_, _]) [0] rfl) ?_
  rintro r _ ⟨hr, rfl⟩
  conv=>whnf
  exact ret_here ⟨b5, hr, rfl⟩
theorem compare_spec (F : List HP) (va vb : Value) (a b : List Nat) (hal : a.length ≤ 4611686018427387904) (hA : RdS F va a.length (nvs a)) (hB : RdS F vb b.length (nvs b)) (ha : isBits a) (hb : isBits b) (h1 : a.length < b.length → val2 a < val2 b) (h2 : b.length < a.length → val2 b < val2 a) :
  SpecF Tryz.prog 139 [va, vb] F [] (fun v L => v = .int .i64 (cmpN (val2 a) (val2 b)) ∧ L = []) := by
 have less : val2 a < val2 b → cmpN (val2 a) (val2 b) = -1 := fun h => by rw [cmpN, if_pos h]
 have more : val2 b < val2 a → cmpN (val2 a) (val2 b) = 1 := fun h => by rw [cmpN, if_neg (by omega), if_pos h]
 refine fun139.spec rfl ?_
 conv=>whnf
 refine LenG.rd hA ?_
 conv=>whnf
 refine LenG.rd hB ?_
 conv=>whnf
 refine CondG.ndec (fun h => ?_) (fun h => ?_)
 ·conv=>whnf
  refine LenG.rd hA ?_
  conv=>whnf
  refine LenG.rd hB ?_
  conv=>whnf
  refine CondG.dec (fun h3 => ?_) (fun h3 => ?_)
  ·conv=>whnf
   refine ret_here ⟨?_, rfl⟩
   rw [less (h1 (by omega))]
   rfl
  ·conv=>whnf
   refine ret_here ⟨?_, rfl⟩
   rw [more (h2 (by omega))]
   rfl
 have hlen : a.length = b.length := by omega
 conv=>whnf
 refine LenG.rd hA ?_
 conv=>whnf
 refine ArithG.i64 (by omega) ?_
 conv=>whnf
 refine LoopG.mk (fun mm e L => ∃ n, n ≤ a.length ∧ mm = n ∧ a.drop n = b.drop n ∧ e = [(0, va), (1, vb), (5, .int .i64 ((n : Int) - 1))] ∧ L = []) a.length
  [(0, va), (1, vb), (5, .int .i64 ((a.length : Int) - 1))] _ ⟨rfl, rfl, rfl, trivial⟩ (Ent.refl _) ⟨a.length, Nat.le_refl _, rfl, by rw [List.drop_length, hlen, List.drop_length], rfl, rfl⟩ ?_
 rintro n e L ⟨n', hn, rfl, hd, rfl, rfl⟩
 conv=>whnf
 refine CondG.dec (fun h3 => ?_) (fun h3 => ?_)
 ·obtain ⟨k, rfl⟩ : ∃ k, n = k + 1 := ⟨n - 1, by omega⟩
  have hka : k < a.length := by omega
  have hkb : k < b.length := by omega
  have ek : ((k + 1 : Nat) : Int) - 1 = (k : Int) := by omega
  rw [ek]
  conv=>whnf
  refine DrawG.mk 9 [] [] (Ent.refl _) ?_
  conv=>whnf
  refine .take 0 ?_
  conv=>whnf
  refine ⟨rfl, ?_⟩
  conv=>whnf
  refine .take 1 ?_
  conv=>whnf
  refine ⟨rfl, ?_⟩
  conv=>whnf
  refine .take 4 ?_
  conv=>whnf
  refine ⟨rfl, ?_⟩
  conv=>whnf
  refine .take 5 ?_
  conv=>whnf
  refine ⟨rfl, ?_⟩
  conv=>whnf
  refine .take 2 ?_
  conv=>whnf
  refine ⟨rfl, ?_⟩
  conv=>whnf
  refine IdxG.rd hA (by omega) fun c o hc => ?_
  conv=>whnf
  refine .take 3 ?_
  conv=>whnf
  refine ⟨rfl, ?_⟩
  conv=>whnf
  refine LoadG.atF (v := .int .i64 a[k]) (hc.one (i := ((k : Nat) : Int).toNat * 1) (by rw [Int.toNat_natCast, Nat.mul_one]; exact nvs_get hka)) ?_
  conv=>whnf
  refine .take 6 ?_
  conv=>whnf
  refine ⟨rfl, ?_⟩
  conv=>whnf
  refine IdxG.rd hB (by omega) fun c o hc => ?_
  conv=>whnf
  refine .take 7 ?_
  conv=>whnf
  refine ⟨rfl, ?_⟩
  conv=>whnf
  refine LoadG.atF (v := .int .i64 b[k]) (hc.one (i := ((k : Nat) : Int).toNat * 1) (by rw [Int.toNat_natCast, Nat.mul_one]; exact nvs_get hkb)) ?_
  conv=>whnf
  refine .take 8 ?_
  conv=>whnf
  refine ⟨rfl, ?_⟩
  conv=>whnf
  refine ⟨rfl, ?_⟩
  conv=>whnf
  refine CondG.dec (fun h4 => ?_) (fun h4 => ?_)
  ·conv=>whnf
   refine ret_here ⟨?_, rfl⟩
   rw [less (parts ha hka hkb hd (by omega))]
   rfl
  conv=>whnf
  refine DrawG.mk 9 [] [] (Ent.refl _) ?_
  conv=>whnf
  refine .take 0 ?_
  conv=>whnf
  refine ⟨rfl, ?_⟩
  conv=>whnf
  refine .take 1 ?_
  conv=>whnf
  refine ⟨rfl, ?_⟩
  conv=>whnf
  refine .take 4 ?_
  conv=>whnf
  refine ⟨rfl, ?_⟩
  conv=>whnf
  refine .take 5 ?_
  conv=>whnf
  refine ⟨rfl, ?_⟩
  conv=>whnf
  refine .take 2 ?_
  conv=>whnf
  refine ⟨rfl, ?_⟩
  conv=>whnf
  refine IdxG.rd hA (by omega) fun c o hc => ?_
  conv=>whnf
  refine .take 3 ?_
  conv=>whnf
  refine ⟨rfl, ?_⟩
  conv=>whnf
  refine LoadG.atF (v := .int .i64 a[k]) (hc.one (i := ((k : Nat) : Int).toNat * 1) (by rw [Int.toNat_natCast, Nat.mul_one]; exact nvs_get hka)) ?_
  conv=>whnf
  refine .take 6 ?_
  conv=>whnf
  refine ⟨rfl, ?_⟩
  conv=>whnf
  refine IdxG.rd hB (by omega) fun c o hc => ?_
  conv=>whnf
  refine .take 7 ?_
  conv=>whnf
  refine ⟨rfl, ?_⟩
  conv=>whnf
  refine LoadG.atF (v := .int .i64 b[k]) (hc.one (i := ((k : Nat) : Int).toNat * 1) (by rw [Int.toNat_natCast, Nat.mul_one]; exact nvs_get hkb)) ?_
  conv=>whnf
  refine .take 8 ?_
  conv=>whnf
  refine ⟨rfl, ?_⟩
  conv=>whnf
  refine ⟨rfl, ?_⟩
  conv=>whnf
  refine CondG.dec (fun h5 => ?_) (fun h5 => ?_)
  ·conv=>whnf
   refine ret_here ⟨?_, rfl⟩
   rw [more (parts hb hkb hka hd.symm (by omega))]
   rfl
  conv=>whnf
  refine ArithG.i64 (by omega) ?_
  conv=>whnf
  refine ⟨k, [(0, va), (1, vb), (5, .int .i64 ((k : Int) - 1))], _, by omega, ?_, Ent.refl _, k, by omega, rfl, ?_, rfl, rfl⟩
  ·exact ⟨rfl, rfl, rfl, trivial⟩
  ·rw [List.drop_eq_getElem_cons hka, List.drop_eq_getElem_cons hkb, hd]
   congr 1
   omega
 ·obtain rfl : n = 0 := by omega
  have e : a = b := by simpa using hd
  conv=>whnf
  refine ret_here ⟨?_, rfl⟩
  rw [e, cmpN, if_neg (by omega), if_neg (by omega)]
  rfl
theorem cmp_spec (F : List HP) (a b : List Nat) (ha : wOk a) (hb : wOk b) : SpecF Tryz.prog 108 [.agg ⟨uvs a⟩, .agg ⟨uvs b⟩] F [] (fun v L => v = .int .i64 (cmpN (nat4 a) (nat4 b)) ∧ L = []) := by
 have hal : (uvs a).length = 4 := by rw [uvs_len, ha.len]
 have hbl : (uvs b).length = 4 := by rw [uvs_len, hb.len]
 refine fun108.spec rfl ?_
 conv=>whnf
 intro b2
 conv=>whnf
 intro b3
 conv=>whnf
 refine DrawG.mk 6 [cel b3 38 (uvs b), cel b2 38 (uvs a)] [] (Ent.refl _) ?_
 conv=>whnf
 refine .take 0 ?_
 conv=>whnf
 refine ⟨rfl, ?_⟩
 conv=>whnf
 refine LoadNG.at (vs := uvs a) hal (.tl .all) ?_
 conv=>whnf
 refine .take 2 ?_
 conv=>whnf
 refine ⟨rfl, ?_⟩
 conv=>whnf
 refine LoadNG.at (vs := uvs b) hbl .all ?_
 conv=>whnf
 refine .all ?_
 conv=>whnf
 refine ⟨by decide, ?_⟩
 conv=>whnf
 refine CallG.pure (digits_spec _ a ha) ?_
 rintro r1 _ ⟨c1, hr1, rfl⟩
 conv=>whnf
 refine .all ?_
 conv=>whnf
 refine ⟨by decide, ?_⟩
 conv=>whnf
 refine CallG.pure (digits_spec _ b hb) ?_
 rintro r2 _ ⟨c2, hr2, rfl⟩
 conv=>whnf
 refine .all ?_
 conv=>whnf
 refine ⟨by decide, ?_⟩
 conv=>whnf
 have lc : ∀ ws, (cutL (digs2 ws)).length ≤ 256 := fun ws => by rw [cutL_len]; have := cutN_le (digs2 ws) (digs2 ws).length; rw [digs2_len] at this ⊢; exact this
 have vc : ∀ ws, wOk ws → val2 (cutL (digs2 ws)) = nat4 ws := fun ws h => by rw [cutL_val, val2_digs h]
 refine CallG.pure (compare_spec _ r1 r2 (cutL (digs2 a)) (cutL (digs2 b)) (by have := lc a; omega) (.tl hr1) hr2 (cutL_bits (digs2_bits a)) (cutL_bits (digs2_bits b)) (fun h => longer (cutL_bits (digs2_bits a)) h) (fun h => longer (cutL_bits (digs2_bits b)) h)) ?_
 rintro _ _ ⟨rfl, rfl⟩
 rw [vc a ha, vc b hb]
 conv=>whnf
 refine .take 5 ?_
 conv=>whnf
 refine ⟨rfl, ?_⟩
 conv=>whnf
 refine ⟨rfl, ?_⟩
 conv=>whnf
 exact ⟨[], Ent.nil _, rfl, rfl⟩
end Go.Proofs.YtnbcbdlbejdkpaaGreatDoor
